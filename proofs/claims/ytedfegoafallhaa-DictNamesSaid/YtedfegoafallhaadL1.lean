/- Dictionaries: DictTells, DictDoes return true. -/
import Derived.Test.YtedfegoafallhaadK8
namespace Go.Proofs.Ytedfegoafallhaa
set_option linter.unusedVariables false
set_option linter.unusedSimpArgs false
open Go Go.RowKit
set_option maxRecDepth 100000
attribute [local irreducible] Decidable.decide awp ARun regK toK

/-- Flags that a machine can hold. -/
def FlIn (l : List Wd) : Prop := ∀ w, w ∈ l → -9223372036854775808 ≤ w.fl ∧ w.fl ≤ 9223372036854775807
theorem tt1 : (!(true == true)) = false := by simp
theorem tt2 : (!(false == false)) = false := by simp
theorem tt3 (b : Bool) : (b != b) = false := by cases b <;> simp
theorem tt4 (b : Bool) : (b == b) = true := by cases b <;> simp
theorem few_in {l : List Wd} (h : FewW l 60) (hin : FlIn l) : InW l := fun w hw => ⟨by have := h.2 w hw; omega, hin w hw⟩
theorem right_name {l : List Wd} (h : FewW l 60) (hr : RightW l) : NameIn l := fun w hw => ⟨by have := h.2 w hw; omega, (hr.1 w hw).2⟩
theorem eqW (w : Wd) : (((ByteArray.mk w.name.toArray).toList == (ByteArray.mk w.name.toArray).toList) && ((w.xt == w.xt) && ((w.fl == w.fl) && true))) = true := by
  rw [bs_eq, decide_eq_true rfl]
  simp
set_option maxHeartbeats 4000000 in
theorem tells_c (l o : List Wd) (name : Bs) (xt : Int) (hin : FlIn l) : FnC Try.prog 3 [.agg [encWs l, encWs o, St name, .val (.int .i64 xt)]] (.val (.bool true)) := by
  have c0 := shown_c
  have cf := few_c l 60 (by omega)
  have cg := few_c o 60 (by omega)
  by_cases hf : FewW l 60
  case neg =>
    rw [fewW_no hf] at cf
    refine FnC.of_awp (T := tt) (ok := tok) Try.func3 (by kernel_rfl) rfl (by kernel_rfl) (closedL_cons (.agg (closedL_cons (closed_ws _) (closedL_cons (closed_ws _) (closedL_cons (.val _) (closedL_cons (.val _) closedL_nil))))) closedL_nil) (fun w0 st0 => ?_)
    dsimp only [frOf]
    (repeat' (first | refine awp_seq ?_ | refine awp_block ?_ | refine awp_region (fun _ => hmix) ?_ | refine ARun.op rfl (by first | exact True.intro | exact rfl | (unfold inR; omega) | omega | (unfold inR; simp only [List.length_map, List.length_append, List.length_take, List.length_drop, List.length_replicate, List.length_cons, List.length_nil] at *; omega) | ((try unfold inR); simp only [decide_eq_true_eq, decide_eq_false_iff_not, beq_iff_eq, beq_eq_false_iff_ne, ne_eq, Bool.not_eq_true', Bool.not_eq_false', List.length_map, List.length_append, List.length_take, List.length_drop, List.length_replicate, List.length_cons, List.length_nil] at *; omega)) ?_ | refine callX (c0) rfl rfl rfl rfl ?_ | refine callX (cf) rfl rfl rfl rfl ?_ | (refine ARun.fin (by first | (intro h; cases h; done) | (intro _; kernel_rfl)) ?_; dsimp only [thenA, blockA, AS.bump, List.length_cons, List.length_nil, reduceIte, Nat.reduceEqDiff]) | (refine awp_skip ?_; dsimp only [thenA, blockA, AS.bump, List.length_cons, List.length_nil, reduceIte, Nat.reduceEqDiff]) | (refine awp_exit ?_; dsimp only [thenA, blockA, AS.bump, List.length_cons, List.length_nil, reduceIte, Nat.reduceEqDiff]) | refine awp_condT rfl (by first | rfl | assumption | exact beq_int _ | exact bne_int _) ?_ | refine awp_condF rfl (by first | rfl | assumption | exact beq_int _ | exact bne_int _) ?_ | ((fail_if_success refine ARun.plain rfl ?_); first | refine ARun.knowT rfl rfl rfl (by first | rfl | assumption | exact beq_int _ | exact bne_int _) ?_ | refine ARun.knowF rfl rfl rfl (by first | rfl | assumption | exact beq_int _ | exact bne_int _) ?_ | refine ARun.fork rfl rfl rfl (fun h => ?_) (fun h => ?_)) | refine awp_cond rfl (fun h => ?_) (fun h => ?_)))
    exact awp_ret ⟨_, ResL.cons (ResA.tmp (.val _)) .nil, rfl⟩
  rw [fewW_yes hf] at cf
  by_cases hg : FewW o 60
  case neg =>
    rw [fewW_no hg] at cg
    refine FnC.of_awp (T := tt) (ok := tok) Try.func3 (by kernel_rfl) rfl (by kernel_rfl) (closedL_cons (.agg (closedL_cons (closed_ws _) (closedL_cons (closed_ws _) (closedL_cons (.val _) (closedL_cons (.val _) closedL_nil))))) closedL_nil) (fun w0 st0 => ?_)
    dsimp only [frOf]
    (repeat' (first | refine awp_seq ?_ | refine awp_block ?_ | refine awp_region (fun _ => hmix) ?_ | refine ARun.op rfl (by first | exact True.intro | exact rfl | (unfold inR; omega) | omega | (unfold inR; simp only [List.length_map, List.length_append, List.length_take, List.length_drop, List.length_replicate, List.length_cons, List.length_nil] at *; omega) | ((try unfold inR); simp only [decide_eq_true_eq, decide_eq_false_iff_not, beq_iff_eq, beq_eq_false_iff_ne, ne_eq, Bool.not_eq_true', Bool.not_eq_false', List.length_map, List.length_append, List.length_take, List.length_drop, List.length_replicate, List.length_cons, List.length_nil] at *; omega)) ?_ | refine callX (c0) rfl rfl rfl rfl ?_ | refine callX (cf) rfl rfl rfl rfl ?_ | refine callX (cg) rfl rfl rfl rfl ?_ | (refine ARun.fin (by first | (intro h; cases h; done) | (intro _; kernel_rfl)) ?_; dsimp only [thenA, blockA, AS.bump, List.length_cons, List.length_nil, reduceIte, Nat.reduceEqDiff]) | (refine awp_skip ?_; dsimp only [thenA, blockA, AS.bump, List.length_cons, List.length_nil, reduceIte, Nat.reduceEqDiff]) | (refine awp_exit ?_; dsimp only [thenA, blockA, AS.bump, List.length_cons, List.length_nil, reduceIte, Nat.reduceEqDiff]) | refine awp_condT rfl (by first | rfl | assumption | exact beq_int _ | exact bne_int _) ?_ | refine awp_condF rfl (by first | rfl | assumption | exact beq_int _ | exact bne_int _) ?_ | ((fail_if_success refine ARun.plain rfl ?_); first | refine ARun.knowT rfl rfl rfl (by first | rfl | assumption | exact beq_int _ | exact bne_int _) ?_ | refine ARun.knowF rfl rfl rfl (by first | rfl | assumption | exact beq_int _ | exact bne_int _) ?_ | refine ARun.fork rfl rfl rfl (fun h => ?_) (fun h => ?_)) | refine awp_cond rfl (fun h => ?_) (fun h => ?_)))
    exact awp_ret ⟨_, ResL.cons (ResA.tmp (.val _)) .nil, rfl⟩
  rw [fewW_yes hg] at cg
  have hz : (ByteArray.mk name.toArray).size = name.length := rfl
  by_cases hn : 60 < name.length
  · have d : decide ((60 : Int) < ((ByteArray.mk name.toArray).size : Nat)) = true := decide_eq_true (by omega)
    refine FnC.of_awp (T := tt) (ok := tok) Try.func3 (by kernel_rfl) rfl (by kernel_rfl) (closedL_cons (.agg (closedL_cons (closed_ws _) (closedL_cons (closed_ws _) (closedL_cons (.val _) (closedL_cons (.val _) closedL_nil))))) closedL_nil) (fun w0 st0 => ?_)
    dsimp only [frOf]
    (repeat' (first | refine awp_seq ?_ | refine awp_block ?_ | refine awp_region (fun _ => hmix) ?_ | refine ARun.op rfl (by first | exact True.intro | exact rfl | (unfold inR; omega) | omega | (unfold inR; simp only [List.length_map, List.length_append, List.length_take, List.length_drop, List.length_replicate, List.length_cons, List.length_nil] at *; omega) | ((try unfold inR); simp only [decide_eq_true_eq, decide_eq_false_iff_not, beq_iff_eq, beq_eq_false_iff_ne, ne_eq, Bool.not_eq_true', Bool.not_eq_false', List.length_map, List.length_append, List.length_take, List.length_drop, List.length_replicate, List.length_cons, List.length_nil] at *; omega)) ?_ | refine callX (c0) rfl rfl rfl rfl ?_ | refine callX (cf) rfl rfl rfl rfl ?_ | refine callX (cg) rfl rfl rfl rfl ?_ | (refine ARun.fin (by first | (intro h; cases h; done) | (intro _; kernel_rfl)) ?_; dsimp only [thenA, blockA, AS.bump, List.length_cons, List.length_nil, reduceIte, Nat.reduceEqDiff]) | (refine awp_skip ?_; dsimp only [thenA, blockA, AS.bump, List.length_cons, List.length_nil, reduceIte, Nat.reduceEqDiff]) | (refine awp_exit ?_; dsimp only [thenA, blockA, AS.bump, List.length_cons, List.length_nil, reduceIte, Nat.reduceEqDiff]) | refine awp_condT rfl (by first | rfl | assumption | exact beq_int _ | exact bne_int _) ?_ | refine awp_condF rfl (by first | rfl | assumption | exact beq_int _ | exact bne_int _) ?_ | ((fail_if_success refine ARun.plain rfl ?_); first | refine ARun.knowT rfl rfl rfl (by first | rfl | assumption | exact beq_int _ | exact bne_int _) ?_ | refine ARun.knowF rfl rfl rfl (by first | rfl | assumption | exact beq_int _ | exact bne_int _) ?_ | refine ARun.fork rfl rfl rfl (fun h => ?_) (fun h => ?_)) | refine awp_cond rfl (fun h => ?_) (fun h => ?_)))
    exact awp_ret ⟨_, ResL.cons (ResA.tmp (.val _)) .nil, rfl⟩
  have d : decide ((60 : Int) < ((ByteArray.mk name.toArray).size : Nat)) = false := decide_eq_false (by omega)
  have hl : l.length ≤ 60 := by have := hf.1; omega
  have ho : o.length ≤ 60 := by have := hg.1; omega
  have c1 := right_c l (by omega) (few_in hf hin)
  have c2 := ref_right_c l (by omega) (few_in hf hin)
  have c3 := same_c l o (by omega)
  have c4 := ref_same_c l o (by omega)
  have main : ∀ sm : Bool, sm = sameW l o → FnC Try.prog 3 [.agg [encWs l, encWs o, St name, .val (.int .i64 xt)]] (.val (.bool true)) := by
    intro sm hsm
    rw [← hsm] at c3 c4
    have k3 := tt3 sm
    have k4 := tt3 true
    have k5 := tt3 false
    by_cases hr : RightW l
    · rw [rightW_yes hr] at c1 c2
      have c5 := find_c l name (by omega) (by omega) (right_name hf hr)
      have c6 := ref_find_c l name (by omega) (by omega) (right_name hf hr)
      have c7 := of_c l xt (by omega)
      have c8 := ref_of_c l xt (by omega)
      generalize findD l name = p at *
      generalize ofD l xt = q at *
      obtain ⟨⟨pn, px, pf⟩, pi, pb⟩ := p
      obtain ⟨⟨qn, qx, qf⟩, qi, qb⟩ := q
      have e1 := eqW ⟨pn, px, pf⟩
      have e2 := eqW ⟨qn, qx, qf⟩
      have e3 := tt4 pb
      have e4 := tt4 qb
      dsimp only at e1 e2
      simp only [encFd] at c5 c6 c7 c8
      refine FnC.of_awp (T := tt) (ok := tok) Try.func3 (by kernel_rfl) rfl (by kernel_rfl) (closedL_cons (.agg (closedL_cons (closed_ws _) (closedL_cons (closed_ws _) (closedL_cons (.val _) (closedL_cons (.val _) closedL_nil))))) closedL_nil) (fun w0 st0 => ?_)
      dsimp only [frOf]
      (repeat' (first | refine awp_seq ?_ | refine awp_block ?_ | refine awp_region (fun _ => hmix) ?_ | refine ARun.op rfl (by first | exact True.intro | exact rfl | (unfold inR; omega) | omega | (unfold inR; simp only [List.length_map, List.length_append, List.length_take, List.length_drop, List.length_replicate, List.length_cons, List.length_nil] at *; omega) | ((try unfold inR); simp only [decide_eq_true_eq, decide_eq_false_iff_not, beq_iff_eq, beq_eq_false_iff_ne, ne_eq, Bool.not_eq_true', Bool.not_eq_false', List.length_map, List.length_append, List.length_take, List.length_drop, List.length_replicate, List.length_cons, List.length_nil] at *; omega)) ?_ | refine callX (c0) rfl rfl rfl rfl ?_ | refine callX (cf) rfl rfl rfl rfl ?_ | refine callX (cg) rfl rfl rfl rfl ?_ | refine callX (c1) rfl rfl rfl rfl ?_ | refine callX (c2) rfl rfl rfl rfl ?_ | refine callX (c3) rfl rfl rfl rfl ?_ | refine callX (c4) rfl rfl rfl rfl ?_ | refine callX (c5) rfl rfl rfl rfl ?_ | refine callX (c6) rfl rfl rfl rfl ?_ | refine callX (c7) rfl rfl rfl rfl ?_ | refine callX (c8) rfl rfl rfl rfl ?_ | refine eqX flatW rfl rfl rfl rfl rfl ?_ | (refine ARun.fin (by first | (intro h; cases h; done) | (intro _; kernel_rfl)) ?_; dsimp only [thenA, blockA, AS.bump, List.length_cons, List.length_nil, reduceIte, Nat.reduceEqDiff]) | (refine awp_skip ?_; dsimp only [thenA, blockA, AS.bump, List.length_cons, List.length_nil, reduceIte, Nat.reduceEqDiff]) | (refine awp_exit ?_; dsimp only [thenA, blockA, AS.bump, List.length_cons, List.length_nil, reduceIte, Nat.reduceEqDiff]) | refine awp_condT rfl (by first | rfl | assumption | exact beq_int _ | exact bne_int _) ?_ | refine awp_condF rfl (by first | rfl | assumption | exact beq_int _ | exact bne_int _) ?_ | ((fail_if_success refine ARun.plain rfl ?_); first | refine ARun.knowT rfl rfl rfl (by first | rfl | assumption | exact beq_int _ | exact bne_int _) ?_ | refine ARun.knowF rfl rfl rfl (by first | rfl | assumption | exact beq_int _ | exact bne_int _) ?_ | refine ARun.fork rfl rfl rfl (fun h => ?_) (fun h => ?_)) | refine awp_cond rfl (fun h => ?_) (fun h => ?_)))
      (refine awp_ret ⟨_, ResL.cons (ResA.tmp (.val _)) .nil, congrArg (fun b => AV.val (.bool b)) ?_⟩; first | rfl | (symm; assumption) | exact (beq_int _).symm)
    · rw [rightW_no hr] at c1 c2
      refine FnC.of_awp (T := tt) (ok := tok) Try.func3 (by kernel_rfl) rfl (by kernel_rfl) (closedL_cons (.agg (closedL_cons (closed_ws _) (closedL_cons (closed_ws _) (closedL_cons (.val _) (closedL_cons (.val _) closedL_nil))))) closedL_nil) (fun w0 st0 => ?_)
      dsimp only [frOf]
      (repeat' (first | refine awp_seq ?_ | refine awp_block ?_ | refine awp_region (fun _ => hmix) ?_ | refine ARun.op rfl (by first | exact True.intro | exact rfl | (unfold inR; omega) | omega | (unfold inR; simp only [List.length_map, List.length_append, List.length_take, List.length_drop, List.length_replicate, List.length_cons, List.length_nil] at *; omega) | ((try unfold inR); simp only [decide_eq_true_eq, decide_eq_false_iff_not, beq_iff_eq, beq_eq_false_iff_ne, ne_eq, Bool.not_eq_true', Bool.not_eq_false', List.length_map, List.length_append, List.length_take, List.length_drop, List.length_replicate, List.length_cons, List.length_nil] at *; omega)) ?_ | refine callX (c0) rfl rfl rfl rfl ?_ | refine callX (cf) rfl rfl rfl rfl ?_ | refine callX (cg) rfl rfl rfl rfl ?_ | refine callX (c1) rfl rfl rfl rfl ?_ | refine callX (c2) rfl rfl rfl rfl ?_ | refine callX (c3) rfl rfl rfl rfl ?_ | refine callX (c4) rfl rfl rfl rfl ?_ | (refine ARun.fin (by first | (intro h; cases h; done) | (intro _; kernel_rfl)) ?_; dsimp only [thenA, blockA, AS.bump, List.length_cons, List.length_nil, reduceIte, Nat.reduceEqDiff]) | (refine awp_skip ?_; dsimp only [thenA, blockA, AS.bump, List.length_cons, List.length_nil, reduceIte, Nat.reduceEqDiff]) | (refine awp_exit ?_; dsimp only [thenA, blockA, AS.bump, List.length_cons, List.length_nil, reduceIte, Nat.reduceEqDiff]) | refine awp_condT rfl (by first | rfl | assumption | exact beq_int _ | exact bne_int _) ?_ | refine awp_condF rfl (by first | rfl | assumption | exact beq_int _ | exact bne_int _) ?_ | ((fail_if_success refine ARun.plain rfl ?_); first | refine ARun.knowT rfl rfl rfl (by first | rfl | assumption | exact beq_int _ | exact bne_int _) ?_ | refine ARun.knowF rfl rfl rfl (by first | rfl | assumption | exact beq_int _ | exact bne_int _) ?_ | refine ARun.fork rfl rfl rfl (fun h => ?_) (fun h => ?_)) | refine awp_cond rfl (fun h => ?_) (fun h => ?_)))
      exact awp_ret ⟨_, ResL.cons (ResA.tmp (.val _)) .nil, rfl⟩
  exact main _ rfl
theorem addD_len (l : List Wd) (name : Bs) (xt fl limit : Int) : (addD l name xt fl limit).1.length ≤ l.length + 1 := by
  unfold addD
  split
  · exact Nat.le_succ _
  · split
    · exact Nat.le_succ _
    · split
      · exact Nat.le_succ _
      · simp
theorem flagD_len (l : List Wd) (a f : Int) : (flagD l a f).1.length = l.length := by
  unfold flagD
  split
  · rfl
  · exact setFl_len _ _ _
theorem cutD_len (l : List Wd) (n : Int) : (cutD l n).1.length ≤ l.length := by
  unfold cutD
  split
  · exact Nat.le_refl _
  · rw [List.length_take]; exact Nat.min_le_right _ _
set_option maxHeartbeats 4000000 in
theorem does_c (l : List Wd) (name : Bs) (xt fl n : Int) (hin : FlIn l) (hfl : -9223372036854775808 ≤ fl ∧ fl ≤ 9223372036854775807) : FnC Try.prog 4 [.agg [encWs l, St name, .val (.int .i64 xt), .val (.int .i64 fl), .val (.int .i64 n)]] (.val (.bool true)) := by
  have c0 := shown_c
  have cf := few_c l 60 (by omega)
  by_cases hf : FewW l 60
  case neg =>
    rw [fewW_no hf] at cf
    refine FnC.of_awp (T := tt) (ok := tok) Try.func4 (by kernel_rfl) rfl (by kernel_rfl) (closedL_cons (.agg (closedL_cons (closed_ws _) (closedL_cons (.val _) (closedL_cons (.val _) (closedL_cons (.val _) (closedL_cons (.val _) closedL_nil)))))) closedL_nil) (fun w0 st0 => ?_)
    dsimp only [frOf]
    (repeat' (first | refine awp_seq ?_ | refine awp_block ?_ | refine awp_region (fun _ => hmix) ?_ | refine ARun.op rfl (by first | exact True.intro | exact rfl | (unfold inR; omega) | omega | (unfold inR; simp only [List.length_map, List.length_append, List.length_take, List.length_drop, List.length_replicate, List.length_cons, List.length_nil] at *; omega) | ((try unfold inR); simp only [decide_eq_true_eq, decide_eq_false_iff_not, beq_iff_eq, beq_eq_false_iff_ne, ne_eq, Bool.not_eq_true', Bool.not_eq_false', List.length_map, List.length_append, List.length_take, List.length_drop, List.length_replicate, List.length_cons, List.length_nil] at *; omega)) ?_ | refine callX (c0) rfl rfl rfl rfl ?_ | refine callX (cf) rfl rfl rfl rfl ?_ | (refine ARun.fin (by first | (intro h; cases h; done) | (intro _; kernel_rfl)) ?_; dsimp only [thenA, blockA, AS.bump, List.length_cons, List.length_nil, reduceIte, Nat.reduceEqDiff]) | (refine awp_skip ?_; dsimp only [thenA, blockA, AS.bump, List.length_cons, List.length_nil, reduceIte, Nat.reduceEqDiff]) | (refine awp_exit ?_; dsimp only [thenA, blockA, AS.bump, List.length_cons, List.length_nil, reduceIte, Nat.reduceEqDiff]) | refine awp_condT rfl (by first | rfl | assumption | exact beq_int _ | exact bne_int _) ?_ | refine awp_condF rfl (by first | rfl | assumption | exact beq_int _ | exact bne_int _) ?_ | ((fail_if_success refine ARun.plain rfl ?_); first | refine ARun.knowT rfl rfl rfl (by first | rfl | assumption | exact beq_int _ | exact bne_int _) ?_ | refine ARun.knowF rfl rfl rfl (by first | rfl | assumption | exact beq_int _ | exact bne_int _) ?_ | refine ARun.fork rfl rfl rfl (fun h => ?_) (fun h => ?_)) | refine awp_cond rfl (fun h => ?_) (fun h => ?_)))
    exact awp_ret ⟨_, ResL.cons (ResA.tmp (.val _)) .nil, rfl⟩
  rw [fewW_yes hf] at cf
  have hl : l.length ≤ 60 := by have := hf.1; omega
  have cr := ref_right_c l (by omega) (few_in hf hin)
  by_cases hr : RightW l
  case neg =>
    rw [rightW_no hr] at cr
    refine FnC.of_awp (T := tt) (ok := tok) Try.func4 (by kernel_rfl) rfl (by kernel_rfl) (closedL_cons (.agg (closedL_cons (closed_ws _) (closedL_cons (.val _) (closedL_cons (.val _) (closedL_cons (.val _) (closedL_cons (.val _) closedL_nil)))))) closedL_nil) (fun w0 st0 => ?_)
    dsimp only [frOf]
    (repeat' (first | refine awp_seq ?_ | refine awp_block ?_ | refine awp_region (fun _ => hmix) ?_ | refine ARun.op rfl (by first | exact True.intro | exact rfl | (unfold inR; omega) | omega | (unfold inR; simp only [List.length_map, List.length_append, List.length_take, List.length_drop, List.length_replicate, List.length_cons, List.length_nil] at *; omega) | ((try unfold inR); simp only [decide_eq_true_eq, decide_eq_false_iff_not, beq_iff_eq, beq_eq_false_iff_ne, ne_eq, Bool.not_eq_true', Bool.not_eq_false', List.length_map, List.length_append, List.length_take, List.length_drop, List.length_replicate, List.length_cons, List.length_nil] at *; omega)) ?_ | refine callX (c0) rfl rfl rfl rfl ?_ | refine callX (cf) rfl rfl rfl rfl ?_ | refine callX (cr) rfl rfl rfl rfl ?_ | (refine ARun.fin (by first | (intro h; cases h; done) | (intro _; kernel_rfl)) ?_; dsimp only [thenA, blockA, AS.bump, List.length_cons, List.length_nil, reduceIte, Nat.reduceEqDiff]) | (refine awp_skip ?_; dsimp only [thenA, blockA, AS.bump, List.length_cons, List.length_nil, reduceIte, Nat.reduceEqDiff]) | (refine awp_exit ?_; dsimp only [thenA, blockA, AS.bump, List.length_cons, List.length_nil, reduceIte, Nat.reduceEqDiff]) | refine awp_condT rfl (by first | rfl | assumption | exact beq_int _ | exact bne_int _) ?_ | refine awp_condF rfl (by first | rfl | assumption | exact beq_int _ | exact bne_int _) ?_ | ((fail_if_success refine ARun.plain rfl ?_); first | refine ARun.knowT rfl rfl rfl (by first | rfl | assumption | exact beq_int _ | exact bne_int _) ?_ | refine ARun.knowF rfl rfl rfl (by first | rfl | assumption | exact beq_int _ | exact bne_int _) ?_ | refine ARun.fork rfl rfl rfl (fun h => ?_) (fun h => ?_)) | refine awp_cond rfl (fun h => ?_) (fun h => ?_)))
    exact awp_ret ⟨_, ResL.cons (ResA.tmp (.val _)) .nil, rfl⟩
  rw [rightW_yes hr] at cr
  have hz : (ByteArray.mk name.toArray).size = name.length := rfl
  by_cases hn : 60 < name.length
  · have d : decide ((60 : Int) < ((ByteArray.mk name.toArray).size : Nat)) = true := decide_eq_true (by omega)
    refine FnC.of_awp (T := tt) (ok := tok) Try.func4 (by kernel_rfl) rfl (by kernel_rfl) (closedL_cons (.agg (closedL_cons (closed_ws _) (closedL_cons (.val _) (closedL_cons (.val _) (closedL_cons (.val _) (closedL_cons (.val _) closedL_nil)))))) closedL_nil) (fun w0 st0 => ?_)
    dsimp only [frOf]
    (repeat' (first | refine awp_seq ?_ | refine awp_block ?_ | refine awp_region (fun _ => hmix) ?_ | refine ARun.op rfl (by first | exact True.intro | exact rfl | (unfold inR; omega) | omega | (unfold inR; simp only [List.length_map, List.length_append, List.length_take, List.length_drop, List.length_replicate, List.length_cons, List.length_nil] at *; omega) | ((try unfold inR); simp only [decide_eq_true_eq, decide_eq_false_iff_not, beq_iff_eq, beq_eq_false_iff_ne, ne_eq, Bool.not_eq_true', Bool.not_eq_false', List.length_map, List.length_append, List.length_take, List.length_drop, List.length_replicate, List.length_cons, List.length_nil] at *; omega)) ?_ | refine callX (c0) rfl rfl rfl rfl ?_ | refine callX (cf) rfl rfl rfl rfl ?_ | refine callX (cr) rfl rfl rfl rfl ?_ | (refine ARun.fin (by first | (intro h; cases h; done) | (intro _; kernel_rfl)) ?_; dsimp only [thenA, blockA, AS.bump, List.length_cons, List.length_nil, reduceIte, Nat.reduceEqDiff]) | (refine awp_skip ?_; dsimp only [thenA, blockA, AS.bump, List.length_cons, List.length_nil, reduceIte, Nat.reduceEqDiff]) | (refine awp_exit ?_; dsimp only [thenA, blockA, AS.bump, List.length_cons, List.length_nil, reduceIte, Nat.reduceEqDiff]) | refine awp_condT rfl (by first | rfl | assumption | exact beq_int _ | exact bne_int _) ?_ | refine awp_condF rfl (by first | rfl | assumption | exact beq_int _ | exact bne_int _) ?_ | ((fail_if_success refine ARun.plain rfl ?_); first | refine ARun.knowT rfl rfl rfl (by first | rfl | assumption | exact beq_int _ | exact bne_int _) ?_ | refine ARun.knowF rfl rfl rfl (by first | rfl | assumption | exact beq_int _ | exact bne_int _) ?_ | refine ARun.fork rfl rfl rfl (fun h => ?_) (fun h => ?_)) | refine awp_cond rfl (fun h => ?_) (fun h => ?_)))
    exact awp_ret ⟨_, ResL.cons (ResA.tmp (.val _)) .nil, rfl⟩
  have d : decide ((60 : Int) < ((ByteArray.mk name.toArray).size : Nat)) = false := decide_eq_false (by omega)
  have c1 := add_c l name xt fl n (by omega) (by omega) hfl
  have c2 := ref_add_c l name xt fl n (by omega) (by omega)
  have c3 := flag_c l n fl (by omega) hfl
  have c4 := ref_flag_c l n fl (by omega)
  have c5 := cut_c l n (by omega)
  have c6 := ref_cut_c l n (by omega)
  have s1 := ref_same_c (addD l name xt fl n).1 (addD l name xt fl n).1 (by have := addD_len l name xt fl n; omega)
  have s2 := ref_same_c (flagD l n fl).1 (flagD l n fl).1 (by have := flagD_len l n fl; omega)
  have s3 := ref_same_c (cutD l n).1 (cutD l n).1 (by have := cutD_len l n; omega)
  rw [sameW_refl] at s1 s2 s3
  generalize addD l name xt fl n = p1 at *
  generalize flagD l n fl = p2 at *
  generalize cutD l n = p3 at *
  simp only [encWE] at c1 c2 c3 c4 c5 c6
  refine FnC.of_awp (T := tt) (ok := tok) Try.func4 (by kernel_rfl) rfl (by kernel_rfl) (closedL_cons (.agg (closedL_cons (closed_ws _) (closedL_cons (.val _) (closedL_cons (.val _) (closedL_cons (.val _) (closedL_cons (.val _) closedL_nil)))))) closedL_nil) (fun w0 st0 => ?_)
  dsimp only [frOf]
  (repeat' (first | refine awp_seq ?_ | refine awp_block ?_ | refine awp_region (fun _ => hmix) ?_ | refine ARun.op rfl (by first | exact True.intro | exact rfl | (unfold inR; omega) | omega | (unfold inR; simp only [List.length_map, List.length_append, List.length_take, List.length_drop, List.length_replicate, List.length_cons, List.length_nil] at *; omega) | ((try unfold inR); simp only [decide_eq_true_eq, decide_eq_false_iff_not, beq_iff_eq, beq_eq_false_iff_ne, ne_eq, Bool.not_eq_true', Bool.not_eq_false', List.length_map, List.length_append, List.length_take, List.length_drop, List.length_replicate, List.length_cons, List.length_nil] at *; omega)) ?_ | refine callX (c0) rfl rfl rfl rfl ?_ | refine callX (cf) rfl rfl rfl rfl ?_ | refine callX (cr) rfl rfl rfl rfl ?_ | refine callX (c1) rfl rfl rfl rfl ?_ | refine callX (c2) rfl rfl rfl rfl ?_ | refine callX (c3) rfl rfl rfl rfl ?_ | refine callX (c4) rfl rfl rfl rfl ?_ | refine callX (c5) rfl rfl rfl rfl ?_ | refine callX (c6) rfl rfl rfl rfl ?_ | refine callX (s1) rfl rfl rfl rfl ?_ | refine callX (s2) rfl rfl rfl rfl ?_ | refine callX (s3) rfl rfl rfl rfl ?_ | (refine ARun.fin (by first | (intro h; cases h; done) | (intro _; kernel_rfl)) ?_; dsimp only [thenA, blockA, AS.bump, List.length_cons, List.length_nil, reduceIte, Nat.reduceEqDiff]) | (refine awp_skip ?_; dsimp only [thenA, blockA, AS.bump, List.length_cons, List.length_nil, reduceIte, Nat.reduceEqDiff]) | (refine awp_exit ?_; dsimp only [thenA, blockA, AS.bump, List.length_cons, List.length_nil, reduceIte, Nat.reduceEqDiff]) | refine awp_condT rfl (by first | rfl | assumption | exact beq_int _ | exact bne_int _) ?_ | refine awp_condF rfl (by first | rfl | assumption | exact beq_int _ | exact bne_int _) ?_ | ((fail_if_success refine ARun.plain rfl ?_); first | refine ARun.knowT rfl rfl rfl (by first | rfl | assumption | exact beq_int _ | exact bne_int _) ?_ | refine ARun.knowF rfl rfl rfl (by first | rfl | assumption | exact beq_int _ | exact bne_int _) ?_ | refine ARun.fork rfl rfl rfl (fun h => ?_) (fun h => ?_)) | refine awp_cond rfl (fun h => ?_) (fun h => ?_)))
  exact awp_ret ⟨_, ResL.cons (ResA.tmp (.val _)) .nil, congrArg (fun b => AV.val (.bool b)) (beq_int _).symm⟩
end Go.Proofs.Ytedfegoafallhaa
