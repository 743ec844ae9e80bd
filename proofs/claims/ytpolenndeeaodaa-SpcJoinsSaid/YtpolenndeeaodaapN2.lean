/- spc: the document's examples. -/
import Derived.Test.YtpolenndeeaodaapN1
import Derived.Test.YtpolenndeeaodaaD8
namespace Go.Proofs.Ytpolenndeeaodaa
set_option linter.unusedVariables false
set_option linter.unusedSimpArgs false
open Go Go.RowKit
set_option maxRecDepth 100000

def mA : Mm := ⟨List.replicate 24 0, []⟩
def mB : Mm := ⟨List.replicate 24 0, [(3, List.replicate 5 0)]⟩
def mC : Mm := ⟨List.replicate 8 0 ++ 5 :: List.replicate 15 0, [(3, List.replicate 5 0), (8, List.replicate 8 0)]⟩
def mD : Mm := ⟨List.replicate 8 0 ++ 5 :: List.replicate 7 0 ++ [97, 98, 99] ++ List.replicate 5 0, [(3, List.replicate 5 0), (8, List.replicate 8 0), (16, List.replicate 3 0)]⟩
theorem ex1 : alignD mA 3 = (mB, 8, 0) := by rfl
theorem ex2 : commaD mB 8 5 = (mC, 16, 0) := by rfl
theorem ex3 : commaD mA 3 5 = (mA, 3, -23) := by rfl
theorem ex4 : layD mC 16 [97, 98, 99] = (mD, 19, 0) := by rfl
theorem ex5 : fetchD mD 8 = (5, 0) := by rfl
theorem ex6 : allotD mA.b.length 4 10 (-6) = (4, 0) := by rfl
theorem ex7 : allotD mA.b.length 4 10 (-7) = (10, -8) := by rfl
theorem abc : encBs [97, 98, 99] = .sl 1 false [[.val (.int .u8 97)], [.val (.int .u8 98)], [.val (.int .u8 99)]] := by rfl
attribute [local irreducible] Decidable.decide awp ARun regK toK
set_option maxHeartbeats 4000000 in
theorem shown_c : FnC Try.prog 8 [] (.val (.bool true)) := by
  have hA : mA.b.length = 24 := rfl
  have hB : mB.b.length = 24 := rfl
  have hC : mC.b.length = 24 := rfl
  have hD : mD.b.length = 24 := rfl
  have c1 := align_c mA 3 (by rw [hA]; decide) (by decide) (by rw [hA]; decide)
  have c2 := comma_c mB 8 5 (by rw [hB]; decide) (by decide) (by rw [hB]; decide)
  have c3 := comma_c mA 3 5 (by rw [hA]; decide) (by decide) (by rw [hA]; decide)
  have c4 := lay_c mC 16 [97, 98, 99] (by rw [hC]; decide) (by decide) (by decide) (by rw [hC]; decide)
  have c5 := ref_fetch_c mD 8 (by rw [hD]; decide)
  have c6 := allot_c mA 4 10 (-6) (by rw [hA]; decide) (by rw [hA]; decide) (by rw [hA]; decide)
  have c7 := allot_c mA 4 10 (-7) (by rw [hA]; decide) (by rw [hA]; decide) (by rw [hA]; decide)
  rw [ex1] at c1
  rw [ex2] at c2
  rw [ex3] at c3
  rw [ex4] at c4
  rw [ex5] at c5
  rw [ex6] at c6
  rw [ex7] at c7
  rw [abc] at c4
  dsimp only at c5 c6 c7
  have eA : encM mA = [encBs (List.replicate 24 0), .sl 2 false []] := rfl
  rw [eA] at c1 c3 c6 c7
  simp only [enc3m] at c1 c2 c3 c4
  rw [eA] at c3
  have gen : ∀ m : Mm, ∃ x y, encM m = [.sl 1 false x, .sl 2 false y] := fun m => ⟨_, _, rfl⟩
  obtain ⟨b1, b2, eB⟩ := gen mB
  obtain ⟨b3, b4, eC⟩ := gen mC
  obtain ⟨b5, b6, eD⟩ := gen mD
  rw [eB] at c1 c2
  rw [eC] at c2 c4
  rw [eD] at c4 c5
  refine FnC.of_awp (T := tt) (ok := tok) Try.func8 (by kernel_rfl) rfl (by kernel_rfl) closedL_nil (fun w0 st0 => ?_)
  dsimp only [frOf]
  (repeat' (first | refine awp_seq ?_ | refine awp_block ?_ | refine awp_region_ne 5 rfl (fun _ => hmix) ?_ | refine ARun.op rfl (by first | exact True.intro | exact rfl | (unfold inR; omega) | omega | (unfold inR; simp only [List.length_map, List.length_append, List.length_take, List.length_drop, List.length_cons, List.length_nil] at *; omega) | ((try unfold inR); simp only [decide_eq_true_eq, decide_eq_false_iff_not, beq_iff_eq, beq_eq_false_iff_ne, ne_eq, Bool.not_eq_true', Bool.not_eq_false', List.length_map, List.length_append, List.length_take, List.length_drop, List.length_cons, List.length_nil] at *; omega)) ?_ | refine ARun.makeSliceZ (n := 24) rfl rfl rfl rfl rfl rfl rfl rfl rfl rfl (by first | omega | (dsimp only [maxLen]; done) | (dsimp only [maxLen]; omega) | (simp only [List.length_append, List.length_map, List.length_take, List.length_drop, List.length_replicate, List.length_cons, List.length_nil, maxLen]; done) | (simp only [List.length_append, List.length_map, List.length_take, List.length_drop, List.length_replicate, List.length_cons, List.length_nil, maxLen]; omega) | (simp only [List.length_append, List.length_map, List.length_take, List.length_drop, List.length_replicate, List.length_cons, List.length_nil, maxLen] at *; done) | (simp only [List.length_append, List.length_map, List.length_take, List.length_drop, List.length_replicate, List.length_cons, List.length_nil, maxLen] at *; omega)) rfl (guardF_spec rfl) (by first | omega | (dsimp only [maxLen]; done) | (dsimp only [maxLen]; omega) | (simp only [List.length_append, List.length_map, List.length_take, List.length_drop, List.length_replicate, List.length_cons, List.length_nil, maxLen]; done) | (simp only [List.length_append, List.length_map, List.length_take, List.length_drop, List.length_replicate, List.length_cons, List.length_nil, maxLen]; omega) | (simp only [List.length_append, List.length_map, List.length_take, List.length_drop, List.length_replicate, List.length_cons, List.length_nil, maxLen] at *; done) | (simp only [List.length_append, List.length_map, List.length_take, List.length_drop, List.length_replicate, List.length_cons, List.length_nil, maxLen] at *; omega)) ?_ | refine callW (c1) rfl (by (repeat (refine WkL.cons (by first | exact Wk.same _ | exact Wk.nilSl | exact Wk.weak _ _ _ | exact Wk.aggL (by (repeat (refine WkL.cons (by first | exact Wk.same _ | exact Wk.nilSl | exact Wk.weak _ _ _) ?_)); exact WkL.nil)) ?_)); exact WkL.nil) rfl rfl ?_ | refine callW (c2) rfl (by (repeat (refine WkL.cons (by first | exact Wk.same _ | exact Wk.nilSl | exact Wk.weak _ _ _ | exact Wk.aggL (by (repeat (refine WkL.cons (by first | exact Wk.same _ | exact Wk.nilSl | exact Wk.weak _ _ _) ?_)); exact WkL.nil)) ?_)); exact WkL.nil) rfl rfl ?_ | refine callW (c3) rfl (by (repeat (refine WkL.cons (by first | exact Wk.same _ | exact Wk.nilSl | exact Wk.weak _ _ _ | exact Wk.aggL (by (repeat (refine WkL.cons (by first | exact Wk.same _ | exact Wk.nilSl | exact Wk.weak _ _ _) ?_)); exact WkL.nil)) ?_)); exact WkL.nil) rfl rfl ?_ | (refine ARun.fin (by first | (intro h; cases h; done) | (intro _; kernel_rfl)) ?_; dsimp only [thenA, blockA, AS.bump, List.length_cons, List.length_nil, reduceIte, Nat.reduceEqDiff]) | (refine awp_skip ?_; dsimp only [thenA, blockA, AS.bump, List.length_cons, List.length_nil, reduceIte, Nat.reduceEqDiff]) | (refine awp_exit ?_; dsimp only [thenA, blockA, AS.bump, List.length_cons, List.length_nil, reduceIte, Nat.reduceEqDiff]) | refine awp_condT rfl (by first | exact beq_int _ | exact bne_int _ | rfl | assumption) ?_ | refine awp_condF rfl (by first | exact beq_int _ | exact bne_int _ | rfl | assumption) ?_ | ((fail_if_success refine ARun.plain rfl ?_); first | refine ARun.knowT rfl rfl rfl (by first | exact beq_int _ | exact bne_int _ | rfl | assumption) ?_ | refine ARun.knowF rfl rfl rfl (by first | exact beq_int _ | exact bne_int _ | rfl | assumption) ?_ | refine ARun.fork rfl rfl rfl (fun h => ?_) (fun h => ?_)) | refine awp_cond rfl (fun h => ?_) (fun h => ?_)))
  (repeat' (first | refine awp_seq ?_ | refine awp_block ?_ | refine awp_region_ne 6 rfl (fun _ => hmix) ?_ | refine ARun.buildSliceO rfl rfl rfl rfl rfl rfl rfl (buildSF_spec rfl) rfl (guardF_spec rfl) ?_ | refine ARun.op rfl (by first | exact True.intro | exact rfl | (unfold inR; omega) | omega | (unfold inR; simp only [List.length_map, List.length_append, List.length_take, List.length_drop, List.length_cons, List.length_nil] at *; omega) | ((try unfold inR); simp only [decide_eq_true_eq, decide_eq_false_iff_not, beq_iff_eq, beq_eq_false_iff_ne, ne_eq, Bool.not_eq_true', Bool.not_eq_false', List.length_map, List.length_append, List.length_take, List.length_drop, List.length_cons, List.length_nil] at *; omega)) ?_ | refine ARun.convLit rfl rfl rfl rfl rfl (clo_all rfl) rfl rfl rfl rfl rfl (guardF_spec rfl) ?_ | refine callW (c4) rfl (by (repeat (refine WkL.cons (by first | exact Wk.same _ | exact Wk.nilSl | exact Wk.weak _ _ _ | exact Wk.aggL (by (repeat (refine WkL.cons (by first | exact Wk.same _ | exact Wk.nilSl | exact Wk.weak _ _ _) ?_)); exact WkL.nil)) ?_)); exact WkL.nil) rfl rfl ?_ | (refine ARun.fin (by first | (intro h; cases h; done) | (intro _; kernel_rfl)) ?_; dsimp only [thenA, blockA, AS.bump, List.length_cons, List.length_nil, reduceIte, Nat.reduceEqDiff]) | (refine awp_skip ?_; dsimp only [thenA, blockA, AS.bump, List.length_cons, List.length_nil, reduceIte, Nat.reduceEqDiff]) | (refine awp_exit ?_; dsimp only [thenA, blockA, AS.bump, List.length_cons, List.length_nil, reduceIte, Nat.reduceEqDiff]) | refine awp_condT rfl (by first | exact beq_int _ | exact bne_int _ | rfl | assumption) ?_ | refine awp_condF rfl (by first | exact beq_int _ | exact bne_int _ | rfl | assumption) ?_ | ((fail_if_success refine ARun.plain rfl ?_); first | refine ARun.knowT rfl rfl rfl (by first | exact beq_int _ | exact bne_int _ | rfl | assumption) ?_ | refine ARun.knowF rfl rfl rfl (by first | exact beq_int _ | exact bne_int _ | rfl | assumption) ?_ | refine ARun.fork rfl rfl rfl (fun h => ?_) (fun h => ?_)) | refine awp_cond rfl (fun h => ?_) (fun h => ?_)))
  (repeat' (first | refine awp_seq ?_ | refine awp_block ?_ | refine awp_region (fun _ => hmix) ?_ | refine ARun.op rfl (by first | exact True.intro | exact rfl | (unfold inR; omega) | omega | (unfold inR; simp only [List.length_map, List.length_append, List.length_take, List.length_drop, List.length_cons, List.length_nil] at *; omega) | ((try unfold inR); simp only [decide_eq_true_eq, decide_eq_false_iff_not, beq_iff_eq, beq_eq_false_iff_ne, ne_eq, Bool.not_eq_true', Bool.not_eq_false', List.length_map, List.length_append, List.length_take, List.length_drop, List.length_cons, List.length_nil] at *; omega)) ?_ | refine callW (c5) rfl (by (repeat (refine WkL.cons (by first | exact Wk.same _ | exact Wk.nilSl | exact Wk.weak _ _ _ | exact Wk.aggL (by (repeat (refine WkL.cons (by first | exact Wk.same _ | exact Wk.nilSl | exact Wk.weak _ _ _) ?_)); exact WkL.nil)) ?_)); exact WkL.nil) rfl rfl ?_ | refine callW (c6) rfl (by (repeat (refine WkL.cons (by first | exact Wk.same _ | exact Wk.nilSl | exact Wk.weak _ _ _ | exact Wk.aggL (by (repeat (refine WkL.cons (by first | exact Wk.same _ | exact Wk.nilSl | exact Wk.weak _ _ _) ?_)); exact WkL.nil)) ?_)); exact WkL.nil) rfl rfl ?_ | refine callW (c7) rfl (by (repeat (refine WkL.cons (by first | exact Wk.same _ | exact Wk.nilSl | exact Wk.weak _ _ _ | exact Wk.aggL (by (repeat (refine WkL.cons (by first | exact Wk.same _ | exact Wk.nilSl | exact Wk.weak _ _ _) ?_)); exact WkL.nil)) ?_)); exact WkL.nil) rfl rfl ?_ | (refine ARun.fin (by first | (intro h; cases h; done) | (intro _; kernel_rfl)) ?_; dsimp only [thenA, blockA, AS.bump, List.length_cons, List.length_nil, reduceIte, Nat.reduceEqDiff]) | (refine awp_skip ?_; dsimp only [thenA, blockA, AS.bump, List.length_cons, List.length_nil, reduceIte, Nat.reduceEqDiff]) | (refine awp_exit ?_; dsimp only [thenA, blockA, AS.bump, List.length_cons, List.length_nil, reduceIte, Nat.reduceEqDiff]) | refine awp_condT rfl (by first | exact beq_int _ | exact bne_int _ | rfl | assumption) ?_ | refine awp_condF rfl (by first | exact beq_int _ | exact bne_int _ | rfl | assumption) ?_ | ((fail_if_success refine ARun.plain rfl ?_); first | refine ARun.knowT rfl rfl rfl (by first | exact beq_int _ | exact bne_int _ | rfl | assumption) ?_ | refine ARun.knowF rfl rfl rfl (by first | exact beq_int _ | exact bne_int _ | rfl | assumption) ?_ | refine ARun.fork rfl rfl rfl (fun h => ?_) (fun h => ?_)) | refine awp_cond rfl (fun h => ?_) (fun h => ?_)))
  exact awp_ret ⟨_, ResL.cons (ResA.tmp (.val _)) .nil, congrArg (fun b => AV.val (.bool b)) (beq_int _).symm⟩
end Go.Proofs.Ytpolenndeeaodaa
