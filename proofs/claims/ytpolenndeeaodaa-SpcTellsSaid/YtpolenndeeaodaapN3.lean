/- spc: SpcTells returns true. -/
import Derived.Test.YtpolenndeeaodaapN2
namespace Go.Proofs.Ytpolenndeeaodaa
set_option linter.unusedVariables false
set_option linter.unusedSimpArgs false
open Go Go.RowKit
set_option maxRecDepth 100000
attribute [local irreducible] Decidable.decide awp ARun regK toK

theorem writeD_len (m : Mm) (at' : Int) (b : List UInt8) : (writeD m at' b).1.old.length ≤ m.old.length + 1 := by
  unfold writeD
  split
  · exact Nat.le_succ _
  · split
    · exact Nat.le_succ _
    · simp
theorem layD_len (m : Mm) (at' : Int) (b : List UInt8) : (layD m at' b).1.old.length ≤ m.old.length + 1 := by
  unfold layD
  split
  · exact Nat.le_succ _
  · exact writeD_len m at' b
theorem commaD_len (m : Mm) (at' n : Int) : (commaD m at' n).1.old.length ≤ m.old.length + 1 := by
  unfold commaD
  split
  · exact Nat.le_succ _
  · exact layD_len m at' _
set_option maxHeartbeats 4000000 in
theorem tells_c (m : Mm) (low here n : Int) (b : List UInt8) : FnC Try.prog 3 [.agg [encBs m.b, .sl 2 false (m.old.map encP), .val (.int .i64 low), .val (.int .i64 here), .val (.int .i64 n), encBs b]] (.val (.bool true)) := by
  have c0 := shown_c
  have cm := ref_may_c m
  by_cases hmay : MayM m
  case neg =>
    rw [mayM_no hmay] at cm
    refine FnC.of_awp (T := tt) (ok := tok) Try.func3 (by kernel_rfl) rfl (by kernel_rfl) (closedL_cons (.agg (closedL_cons (closed_bs _) (closedL_cons (closed_map encP_closed) (closedL_cons (.val _) (closedL_cons (.val _) (closedL_cons (.val _) (closedL_cons (closed_bs _) closedL_nil))))))) closedL_nil) (fun w0 st0 => ?_)
    dsimp only [frOf]
    (repeat' (first | refine awp_seq ?_ | refine awp_block ?_ | refine awp_region (fun _ => hmix) ?_ | refine ARun.op rfl (by first | exact True.intro | exact rfl | (unfold inR; omega) | omega | (unfold inR; simp only [List.length_map, List.length_append, List.length_take, List.length_drop, List.length_cons, List.length_nil] at *; omega) | ((try unfold inR); simp only [decide_eq_true_eq, decide_eq_false_iff_not, beq_iff_eq, beq_eq_false_iff_ne, ne_eq, Bool.not_eq_true', Bool.not_eq_false', List.length_map, List.length_append, List.length_take, List.length_drop, List.length_cons, List.length_nil] at *; omega)) ?_ | refine callX (c0) rfl rfl rfl rfl ?_ | refine callX (cm) rfl rfl rfl rfl ?_ | (refine ARun.fin (by first | (intro h; cases h; done) | (intro _; kernel_rfl)) ?_; dsimp only [thenA, blockA, AS.bump, List.length_cons, List.length_nil, reduceIte, Nat.reduceEqDiff]) | (refine awp_skip ?_; dsimp only [thenA, blockA, AS.bump, List.length_cons, List.length_nil, reduceIte, Nat.reduceEqDiff]) | (refine awp_exit ?_; dsimp only [thenA, blockA, AS.bump, List.length_cons, List.length_nil, reduceIte, Nat.reduceEqDiff]) | refine awp_condT rfl (by first | rfl | assumption | exact beq_int _ | exact bne_int _) ?_ | refine awp_condF rfl (by first | rfl | assumption | exact beq_int _ | exact bne_int _) ?_ | ((fail_if_success refine ARun.plain rfl ?_); first | refine ARun.knowT rfl rfl rfl (by first | rfl | assumption | exact beq_int _ | exact bne_int _) ?_ | refine ARun.knowF rfl rfl rfl (by first | rfl | assumption | exact beq_int _ | exact bne_int _) ?_ | refine ARun.fork rfl rfl rfl (fun h => ?_) (fun h => ?_)) | refine awp_cond rfl (fun h => ?_) (fun h => ?_)))
    exact awp_ret ⟨_, ResL.cons (ResA.tmp (.val _)) .nil, rfl⟩
  rw [mayM_yes hmay] at cm
  have hlb : m.b.length ≤ 600 := by have := hmay.1.1; omega
  have hlo : m.old.length ≤ 60 := hmay.1.2.1
  have ci := is_c m here (by omega)
  have cl := is_c m low (by omega)
  by_cases hi : 0 ≤ here ∧ here ≤ (m.b.length : Int)
  case neg =>
    rw [decide_eq_false hi] at ci
    refine FnC.of_awp (T := tt) (ok := tok) Try.func3 (by kernel_rfl) rfl (by kernel_rfl) (closedL_cons (.agg (closedL_cons (closed_bs _) (closedL_cons (closed_map encP_closed) (closedL_cons (.val _) (closedL_cons (.val _) (closedL_cons (.val _) (closedL_cons (closed_bs _) closedL_nil))))))) closedL_nil) (fun w0 st0 => ?_)
    dsimp only [frOf]
    (repeat' (first | refine awp_seq ?_ | refine awp_block ?_ | refine awp_region (fun _ => hmix) ?_ | refine ARun.op rfl (by first | exact True.intro | exact rfl | (unfold inR; omega) | omega | (unfold inR; simp only [List.length_map, List.length_append, List.length_take, List.length_drop, List.length_cons, List.length_nil] at *; omega) | ((try unfold inR); simp only [decide_eq_true_eq, decide_eq_false_iff_not, beq_iff_eq, beq_eq_false_iff_ne, ne_eq, Bool.not_eq_true', Bool.not_eq_false', List.length_map, List.length_append, List.length_take, List.length_drop, List.length_cons, List.length_nil] at *; omega)) ?_ | refine callX (c0) rfl rfl rfl rfl ?_ | refine callX (cm) rfl rfl rfl rfl ?_ | refine callX (ci) rfl rfl rfl rfl ?_ | (refine ARun.fin (by first | (intro h; cases h; done) | (intro _; kernel_rfl)) ?_; dsimp only [thenA, blockA, AS.bump, List.length_cons, List.length_nil, reduceIte, Nat.reduceEqDiff]) | (refine awp_skip ?_; dsimp only [thenA, blockA, AS.bump, List.length_cons, List.length_nil, reduceIte, Nat.reduceEqDiff]) | (refine awp_exit ?_; dsimp only [thenA, blockA, AS.bump, List.length_cons, List.length_nil, reduceIte, Nat.reduceEqDiff]) | refine awp_condT rfl (by first | rfl | assumption | exact beq_int _ | exact bne_int _) ?_ | refine awp_condF rfl (by first | rfl | assumption | exact beq_int _ | exact bne_int _) ?_ | ((fail_if_success refine ARun.plain rfl ?_); first | refine ARun.knowT rfl rfl rfl (by first | rfl | assumption | exact beq_int _ | exact bne_int _) ?_ | refine ARun.knowF rfl rfl rfl (by first | rfl | assumption | exact beq_int _ | exact bne_int _) ?_ | refine ARun.fork rfl rfl rfl (fun h => ?_) (fun h => ?_)) | refine awp_cond rfl (fun h => ?_) (fun h => ?_)))
    exact awp_ret ⟨_, ResL.cons (ResA.tmp (.val _)) .nil, rfl⟩
  rw [decide_eq_true hi] at ci
  by_cases hw : 0 ≤ low ∧ low ≤ (m.b.length : Int)
  case neg =>
    rw [decide_eq_false hw] at cl
    refine FnC.of_awp (T := tt) (ok := tok) Try.func3 (by kernel_rfl) rfl (by kernel_rfl) (closedL_cons (.agg (closedL_cons (closed_bs _) (closedL_cons (closed_map encP_closed) (closedL_cons (.val _) (closedL_cons (.val _) (closedL_cons (.val _) (closedL_cons (closed_bs _) closedL_nil))))))) closedL_nil) (fun w0 st0 => ?_)
    dsimp only [frOf]
    (repeat' (first | refine awp_seq ?_ | refine awp_block ?_ | refine awp_region (fun _ => hmix) ?_ | refine ARun.op rfl (by first | exact True.intro | exact rfl | (unfold inR; omega) | omega | (unfold inR; simp only [List.length_map, List.length_append, List.length_take, List.length_drop, List.length_cons, List.length_nil] at *; omega) | ((try unfold inR); simp only [decide_eq_true_eq, decide_eq_false_iff_not, beq_iff_eq, beq_eq_false_iff_ne, ne_eq, Bool.not_eq_true', Bool.not_eq_false', List.length_map, List.length_append, List.length_take, List.length_drop, List.length_cons, List.length_nil] at *; omega)) ?_ | refine callX (c0) rfl rfl rfl rfl ?_ | refine callX (cm) rfl rfl rfl rfl ?_ | refine callX (ci) rfl rfl rfl rfl ?_ | refine callX (cl) rfl rfl rfl rfl ?_ | (refine ARun.fin (by first | (intro h; cases h; done) | (intro _; kernel_rfl)) ?_; dsimp only [thenA, blockA, AS.bump, List.length_cons, List.length_nil, reduceIte, Nat.reduceEqDiff]) | (refine awp_skip ?_; dsimp only [thenA, blockA, AS.bump, List.length_cons, List.length_nil, reduceIte, Nat.reduceEqDiff]) | (refine awp_exit ?_; dsimp only [thenA, blockA, AS.bump, List.length_cons, List.length_nil, reduceIte, Nat.reduceEqDiff]) | refine awp_condT rfl (by first | rfl | assumption | exact beq_int _ | exact bne_int _) ?_ | refine awp_condF rfl (by first | rfl | assumption | exact beq_int _ | exact bne_int _) ?_ | ((fail_if_success refine ARun.plain rfl ?_); first | refine ARun.knowT rfl rfl rfl (by first | rfl | assumption | exact beq_int _ | exact bne_int _) ?_ | refine ARun.knowF rfl rfl rfl (by first | rfl | assumption | exact beq_int _ | exact bne_int _) ?_ | refine ARun.fork rfl rfl rfl (fun h => ?_) (fun h => ?_)) | refine awp_cond rfl (fun h => ?_) (fun h => ?_)))
    exact awp_ret ⟨_, ResL.cons (ResA.tmp (.val _)) .nil, rfl⟩
  rw [decide_eq_true hw] at cl
  by_cases hb : (100 : Int) < (((b.map encB).length : Nat) : Int)
  · have d : decide ((100 : Int) < (((b.map encB).length : Nat) : Int)) = true := decide_eq_true hb
    refine FnC.of_awp (T := tt) (ok := tok) Try.func3 (by kernel_rfl) rfl (by kernel_rfl) (closedL_cons (.agg (closedL_cons (closed_bs _) (closedL_cons (closed_map encP_closed) (closedL_cons (.val _) (closedL_cons (.val _) (closedL_cons (.val _) (closedL_cons (closed_bs _) closedL_nil))))))) closedL_nil) (fun w0 st0 => ?_)
    dsimp only [frOf]
    (repeat' (first | refine awp_seq ?_ | refine awp_block ?_ | refine awp_region (fun _ => hmix) ?_ | refine ARun.op rfl (by first | exact True.intro | exact rfl | (unfold inR; omega) | omega | (unfold inR; simp only [List.length_map, List.length_append, List.length_take, List.length_drop, List.length_cons, List.length_nil] at *; omega) | ((try unfold inR); simp only [decide_eq_true_eq, decide_eq_false_iff_not, beq_iff_eq, beq_eq_false_iff_ne, ne_eq, Bool.not_eq_true', Bool.not_eq_false', List.length_map, List.length_append, List.length_take, List.length_drop, List.length_cons, List.length_nil] at *; omega)) ?_ | refine callX (c0) rfl rfl rfl rfl ?_ | refine callX (cm) rfl rfl rfl rfl ?_ | refine callX (ci) rfl rfl rfl rfl ?_ | refine callX (cl) rfl rfl rfl rfl ?_ | (refine ARun.fin (by first | (intro h; cases h; done) | (intro _; kernel_rfl)) ?_; dsimp only [thenA, blockA, AS.bump, List.length_cons, List.length_nil, reduceIte, Nat.reduceEqDiff]) | (refine awp_skip ?_; dsimp only [thenA, blockA, AS.bump, List.length_cons, List.length_nil, reduceIte, Nat.reduceEqDiff]) | (refine awp_exit ?_; dsimp only [thenA, blockA, AS.bump, List.length_cons, List.length_nil, reduceIte, Nat.reduceEqDiff]) | refine awp_condT rfl (by first | rfl | assumption | exact beq_int _ | exact bne_int _) ?_ | refine awp_condF rfl (by first | rfl | assumption | exact beq_int _ | exact bne_int _) ?_ | ((fail_if_success refine ARun.plain rfl ?_); first | refine ARun.knowT rfl rfl rfl (by first | rfl | assumption | exact beq_int _ | exact bne_int _) ?_ | refine ARun.knowF rfl rfl rfl (by first | rfl | assumption | exact beq_int _ | exact bne_int _) ?_ | refine ARun.fork rfl rfl rfl (fun h => ?_) (fun h => ?_)) | refine awp_cond rfl (fun h => ?_) (fun h => ?_)))
    exact awp_ret ⟨_, ResL.cons (ResA.tmp (.val _)) .nil, rfl⟩
  have d : decide ((100 : Int) < (((b.map encB).length : Nat) : Int)) = false := decide_eq_false hb
  rw [List.length_map] at hb
  have c1 := allot_c m low here n (by omega) hi hw
  have c2 := ref_allot_c m low here n (by omega) hi hw
  have c3 := lay_c m here b (by omega) (by omega) (by omega) hi
  have c4 := ref_lay_c m here b (by omega) (by omega) (by omega) hi
  have c5 := comma_c m here n (by omega) (by omega) hi
  have c6 := ref_comma_c m here n (by omega) (by omega) hi
  have c7 := align_c m here (by omega) (by omega) hi
  have c8 := ref_align_c m here (by omega) (by omega) hi
  have l1 := layD_len m here b
  have l2 := commaD_len m here n
  have l3 : (alignD m here).1.old.length ≤ m.old.length + 1 := layD_len m here _
  have s1 := ref_same_c (layD m here b).1 (layD m here b).1 (by omega) (by omega)
  have s2 := ref_same_c (commaD m here n).1 (commaD m here n).1 (by omega) (by omega)
  have s3 := ref_same_c (alignD m here).1 (alignD m here).1 (by omega) (by omega)
  rw [sameM_refl] at s1 s2 s3
  clear l1 l2 l3 hb hw hi hlo hlb hmay
  generalize allotD m.b.length low here n = p1 at *
  generalize layD m here b = p2 at *
  generalize commaD m here n = p3 at *
  generalize alignD m here = p4 at *
  refine FnC.of_awp (T := tt) (ok := tok) Try.func3 (by kernel_rfl) rfl (by kernel_rfl) (closedL_cons (.agg (closedL_cons (closed_bs _) (closedL_cons (closed_map encP_closed) (closedL_cons (.val _) (closedL_cons (.val _) (closedL_cons (.val _) (closedL_cons (closed_bs _) closedL_nil))))))) closedL_nil) (fun w0 st0 => ?_)
  dsimp only [frOf]
  (repeat' (first | refine awp_seq ?_ | refine awp_block ?_ | refine awp_region_ne 11 rfl (fun _ => hmix) ?_ | refine ARun.op rfl (by first | exact True.intro | exact rfl | (unfold inR; omega) | omega | (unfold inR; simp only [List.length_map, List.length_append, List.length_take, List.length_drop, List.length_cons, List.length_nil] at *; omega) | ((try unfold inR); simp only [decide_eq_true_eq, decide_eq_false_iff_not, beq_iff_eq, beq_eq_false_iff_ne, ne_eq, Bool.not_eq_true', Bool.not_eq_false', List.length_map, List.length_append, List.length_take, List.length_drop, List.length_cons, List.length_nil] at *; omega)) ?_ | refine callX (c0) rfl rfl rfl rfl ?_ | refine callX (cm) rfl rfl rfl rfl ?_ | refine callX (ci) rfl rfl rfl rfl ?_ | refine callX (cl) rfl rfl rfl rfl ?_ | refine callX (c1) rfl rfl rfl rfl ?_ | refine callX (c2) rfl rfl rfl rfl ?_ | (refine ARun.fin (by first | (intro h; cases h; done) | (intro _; kernel_rfl)) ?_; dsimp only [thenA, blockA, AS.bump, List.length_cons, List.length_nil, reduceIte, Nat.reduceEqDiff]) | (refine awp_skip ?_; dsimp only [thenA, blockA, AS.bump, List.length_cons, List.length_nil, reduceIte, Nat.reduceEqDiff]) | (refine awp_exit ?_; dsimp only [thenA, blockA, AS.bump, List.length_cons, List.length_nil, reduceIte, Nat.reduceEqDiff]) | refine awp_condT rfl (by first | rfl | assumption | exact beq_int _ | exact bne_int _) ?_ | refine awp_condF rfl (by first | rfl | assumption | exact beq_int _ | exact bne_int _) ?_ | ((fail_if_success refine ARun.plain rfl ?_); first | refine ARun.knowT rfl rfl rfl (by first | rfl | assumption | exact beq_int _ | exact bne_int _) ?_ | refine ARun.knowF rfl rfl rfl (by first | rfl | assumption | exact beq_int _ | exact bne_int _) ?_ | refine ARun.fork rfl rfl rfl (fun h => ?_) (fun h => ?_)) | refine awp_cond rfl (fun h => ?_) (fun h => ?_)))
  (repeat' (first | refine awp_seq ?_ | refine awp_block ?_ | refine awp_region_ne 17 rfl (fun _ => hmix) ?_ | refine ARun.op rfl (by first | exact True.intro | exact rfl | (unfold inR; omega) | omega | (unfold inR; simp only [List.length_map, List.length_append, List.length_take, List.length_drop, List.length_cons, List.length_nil] at *; omega) | ((try unfold inR); simp only [decide_eq_true_eq, decide_eq_false_iff_not, beq_iff_eq, beq_eq_false_iff_ne, ne_eq, Bool.not_eq_true', Bool.not_eq_false', List.length_map, List.length_append, List.length_take, List.length_drop, List.length_cons, List.length_nil] at *; omega)) ?_ | refine callX (c3) rfl rfl rfl rfl ?_ | refine callX (c4) rfl rfl rfl rfl ?_ | refine callX (c5) rfl rfl rfl rfl ?_ | refine callX (c6) rfl rfl rfl rfl ?_ | refine callX (c7) rfl rfl rfl rfl ?_ | refine callX (c8) rfl rfl rfl rfl ?_ | (refine ARun.fin (by first | (intro h; cases h; done) | (intro _; kernel_rfl)) ?_; dsimp only [thenA, blockA, AS.bump, List.length_cons, List.length_nil, reduceIte, Nat.reduceEqDiff]) | (refine awp_skip ?_; dsimp only [thenA, blockA, AS.bump, List.length_cons, List.length_nil, reduceIte, Nat.reduceEqDiff]) | (refine awp_exit ?_; dsimp only [thenA, blockA, AS.bump, List.length_cons, List.length_nil, reduceIte, Nat.reduceEqDiff]) | refine awp_condT rfl (by first | rfl | assumption | exact beq_int _ | exact bne_int _) ?_ | refine awp_condF rfl (by first | rfl | assumption | exact beq_int _ | exact bne_int _) ?_ | ((fail_if_success refine ARun.plain rfl ?_); first | refine ARun.knowT rfl rfl rfl (by first | rfl | assumption | exact beq_int _ | exact bne_int _) ?_ | refine ARun.knowF rfl rfl rfl (by first | rfl | assumption | exact beq_int _ | exact bne_int _) ?_ | refine ARun.fork rfl rfl rfl (fun h => ?_) (fun h => ?_)) | refine awp_cond rfl (fun h => ?_) (fun h => ?_)))
  (repeat' (first | refine awp_seq ?_ | refine awp_block ?_ | refine awp_region (fun _ => hmix) ?_ | refine ARun.op rfl (by first | exact True.intro | exact rfl | (unfold inR; omega) | omega | (unfold inR; simp only [List.length_map, List.length_append, List.length_take, List.length_drop, List.length_cons, List.length_nil] at *; omega) | ((try unfold inR); simp only [decide_eq_true_eq, decide_eq_false_iff_not, beq_iff_eq, beq_eq_false_iff_ne, ne_eq, Bool.not_eq_true', Bool.not_eq_false', List.length_map, List.length_append, List.length_take, List.length_drop, List.length_cons, List.length_nil] at *; omega)) ?_ | refine callX (s1) rfl rfl rfl rfl ?_ | refine callX (s2) rfl rfl rfl rfl ?_ | refine callX (s3) rfl rfl rfl rfl ?_ | (refine ARun.fin (by first | (intro h; cases h; done) | (intro _; kernel_rfl)) ?_; dsimp only [thenA, blockA, AS.bump, List.length_cons, List.length_nil, reduceIte, Nat.reduceEqDiff]) | (refine awp_skip ?_; dsimp only [thenA, blockA, AS.bump, List.length_cons, List.length_nil, reduceIte, Nat.reduceEqDiff]) | (refine awp_exit ?_; dsimp only [thenA, blockA, AS.bump, List.length_cons, List.length_nil, reduceIte, Nat.reduceEqDiff]) | refine awp_condT rfl (by first | rfl | assumption | exact beq_int _ | exact bne_int _) ?_ | refine awp_condF rfl (by first | rfl | assumption | exact beq_int _ | exact bne_int _) ?_ | ((fail_if_success refine ARun.plain rfl ?_); first | refine ARun.knowT rfl rfl rfl (by first | rfl | assumption | exact beq_int _ | exact bne_int _) ?_ | refine ARun.knowF rfl rfl rfl (by first | rfl | assumption | exact beq_int _ | exact bne_int _) ?_ | refine ARun.fork rfl rfl rfl (fun h => ?_) (fun h => ?_)) | refine awp_cond rfl (fun h => ?_) (fun h => ?_)))
  exact awp_ret ⟨_, ResL.cons (ResA.tmp (.val _)) .nil, congrArg (fun b => AV.val (.bool b)) (beq_int _).symm⟩
end Go.Proofs.Ytpolenndeeaodaa
