/- Dictionaries: DictCuts returns true. -/
import Derived.Test.YtedfegoafallhaadL3
namespace Go.Proofs.Ytedfegoafallhaa
set_option linter.unusedVariables false
set_option linter.unusedSimpArgs false
open Go Go.RowKit
set_option maxRecDepth 100000

theorem cutD_to {l : List Wd} {n : Int} {m : Nat} (h : n = (m : Int)) (hm : m ≤ l.length) : cutD l n = (l.take m, 0) := by
  subst h
  unfold cutD
  rw [if_neg (by omega), Int.toNat_natCast]
attribute [local irreducible] Decidable.decide awp ARun regK toK
set_option maxHeartbeats 8000000 in
theorem cuts_c (l : List Wd) (a b : Int) (name : Bs) (hin : FlIn l) (ha : 0 ≤ a ∧ a ≤ 255) (hb : 0 ≤ b ∧ b ≤ 255) : FnC Try.prog 8 [.agg [encWs l, .val (.int .u8 a), .val (.int .u8 b), St name]] (.val (.bool true)) := by
  have c0 := shown_c
  have cf := few_c l 60 (by omega)
  by_cases hf : FewW l 60
  case neg =>
    rw [fewW_no hf] at cf
    refine FnC.of_awp (T := tt) (ok := tok) Try.func8 (by kernel_rfl) rfl (by kernel_rfl) (closedL_cons (.agg (closedL_cons (closed_ws _) (closedL_cons (.val _) (closedL_cons (.val _) (closedL_cons (.val _) closedL_nil))))) closedL_nil) (fun w0 st0 => ?_)
    dsimp only [frOf]
    (repeat' (first | refine awp_seq ?_ | refine awp_block ?_ | refine awp_region (fun _ => hmix) ?_ | refine ARun.op rfl (by first | exact True.intro | exact rfl | (unfold inR; omega) | omega | (unfold inR; simp only [List.length_map, List.length_append, List.length_take, List.length_drop, List.length_replicate, List.length_cons, List.length_nil] at *; omega) | ((try unfold inR); simp only [decide_eq_true_eq, decide_eq_false_iff_not, beq_iff_eq, beq_eq_false_iff_ne, ne_eq, Bool.not_eq_true', Bool.not_eq_false', List.length_map, List.length_append, List.length_take, List.length_drop, List.length_replicate, List.length_cons, List.length_nil] at *; omega)) ?_ | refine callX (c0) rfl rfl rfl rfl ?_ | refine callX (cf) rfl rfl rfl rfl ?_ | (refine ARun.fin (by first | (intro h; cases h; done) | (intro _; kernel_rfl)) ?_; dsimp only [thenA, blockA, AS.bump, List.length_cons, List.length_nil, reduceIte, Nat.reduceEqDiff]) | (refine awp_skip ?_; dsimp only [thenA, blockA, AS.bump, List.length_cons, List.length_nil, reduceIte, Nat.reduceEqDiff]) | (refine awp_exit ?_; dsimp only [thenA, blockA, AS.bump, List.length_cons, List.length_nil, reduceIte, Nat.reduceEqDiff]) | refine awp_condT rfl (by first | rfl | assumption | exact beq_int _ | exact bne_int _) ?_ | refine awp_condF rfl (by first | rfl | assumption | exact beq_int _ | exact bne_int _) ?_ | ((fail_if_success refine ARun.plain rfl ?_); first | refine ARun.knowT rfl rfl rfl (by first | rfl | assumption | exact beq_int _ | exact bne_int _) ?_ | refine ARun.knowF rfl rfl rfl (by first | rfl | assumption | exact beq_int _ | exact bne_int _) ?_ | refine ARun.fork rfl rfl rfl (fun h => ?_) (fun h => ?_)) | refine awp_cond rfl (fun h => ?_) (fun h => ?_)))
    exact awp_ret ⟨_, ResL.cons (ResA.tmp (.val _)) .nil, rfl⟩
  rw [fewW_yes hf] at cf
  have hl : l.length ≤ 60 := by have := hf.1; omega
  have cr := ref_right_c l (by omega) (few_in hf hin)
  by_cases hr : RightW l
  case neg =>
    rw [rightW_no hr] at cr
    refine FnC.of_awp (T := tt) (ok := tok) Try.func8 (by kernel_rfl) rfl (by kernel_rfl) (closedL_cons (.agg (closedL_cons (closed_ws _) (closedL_cons (.val _) (closedL_cons (.val _) (closedL_cons (.val _) closedL_nil))))) closedL_nil) (fun w0 st0 => ?_)
    dsimp only [frOf]
    (repeat' (first | refine awp_seq ?_ | refine awp_block ?_ | refine awp_region (fun _ => hmix) ?_ | refine ARun.op rfl (by first | exact True.intro | exact rfl | (unfold inR; omega) | omega | (unfold inR; simp only [List.length_map, List.length_append, List.length_take, List.length_drop, List.length_replicate, List.length_cons, List.length_nil] at *; omega) | ((try unfold inR); simp only [decide_eq_true_eq, decide_eq_false_iff_not, beq_iff_eq, beq_eq_false_iff_ne, ne_eq, Bool.not_eq_true', Bool.not_eq_false', List.length_map, List.length_append, List.length_take, List.length_drop, List.length_replicate, List.length_cons, List.length_nil] at *; omega)) ?_ | refine callX (c0) rfl rfl rfl rfl ?_ | refine callX (cf) rfl rfl rfl rfl ?_ | refine callX (cr) rfl rfl rfl rfl ?_ | (refine ARun.fin (by first | (intro h; cases h; done) | (intro _; kernel_rfl)) ?_; dsimp only [thenA, blockA, AS.bump, List.length_cons, List.length_nil, reduceIte, Nat.reduceEqDiff]) | (refine awp_skip ?_; dsimp only [thenA, blockA, AS.bump, List.length_cons, List.length_nil, reduceIte, Nat.reduceEqDiff]) | (refine awp_exit ?_; dsimp only [thenA, blockA, AS.bump, List.length_cons, List.length_nil, reduceIte, Nat.reduceEqDiff]) | refine awp_condT rfl (by first | rfl | assumption | exact beq_int _ | exact bne_int _) ?_ | refine awp_condF rfl (by first | rfl | assumption | exact beq_int _ | exact bne_int _) ?_ | ((fail_if_success refine ARun.plain rfl ?_); first | refine ARun.knowT rfl rfl rfl (by first | rfl | assumption | exact beq_int _ | exact bne_int _) ?_ | refine ARun.knowF rfl rfl rfl (by first | rfl | assumption | exact beq_int _ | exact bne_int _) ?_ | refine ARun.fork rfl rfl rfl (fun h => ?_) (fun h => ?_)) | refine awp_cond rfl (fun h => ?_) (fun h => ?_)))
    exact awp_ret ⟨_, ResL.cons (ResA.tmp (.val _)) .nil, rfl⟩
  rw [rightW_yes hr] at cr
  have hz : (ByteArray.mk name.toArray).size = name.length := rfl
  by_cases hn : 60 < name.length
  · have d : decide ((60 : Int) < ((ByteArray.mk name.toArray).size : Nat)) = true := decide_eq_true (by omega)
    refine FnC.of_awp (T := tt) (ok := tok) Try.func8 (by kernel_rfl) rfl (by kernel_rfl) (closedL_cons (.agg (closedL_cons (closed_ws _) (closedL_cons (.val _) (closedL_cons (.val _) (closedL_cons (.val _) closedL_nil))))) closedL_nil) (fun w0 st0 => ?_)
    dsimp only [frOf]
    (repeat' (first | refine awp_seq ?_ | refine awp_block ?_ | refine awp_region (fun _ => hmix) ?_ | refine ARun.op rfl (by first | exact True.intro | exact rfl | (unfold inR; omega) | omega | (unfold inR; simp only [List.length_map, List.length_append, List.length_take, List.length_drop, List.length_replicate, List.length_cons, List.length_nil] at *; omega) | ((try unfold inR); simp only [decide_eq_true_eq, decide_eq_false_iff_not, beq_iff_eq, beq_eq_false_iff_ne, ne_eq, Bool.not_eq_true', Bool.not_eq_false', List.length_map, List.length_append, List.length_take, List.length_drop, List.length_replicate, List.length_cons, List.length_nil] at *; omega)) ?_ | refine callX (c0) rfl rfl rfl rfl ?_ | refine callX (cf) rfl rfl rfl rfl ?_ | refine callX (cr) rfl rfl rfl rfl ?_ | (refine ARun.fin (by first | (intro h; cases h; done) | (intro _; kernel_rfl)) ?_; dsimp only [thenA, blockA, AS.bump, List.length_cons, List.length_nil, reduceIte, Nat.reduceEqDiff]) | (refine awp_skip ?_; dsimp only [thenA, blockA, AS.bump, List.length_cons, List.length_nil, reduceIte, Nat.reduceEqDiff]) | (refine awp_exit ?_; dsimp only [thenA, blockA, AS.bump, List.length_cons, List.length_nil, reduceIte, Nat.reduceEqDiff]) | refine awp_condT rfl (by first | rfl | assumption | exact beq_int _ | exact bne_int _) ?_ | refine awp_condF rfl (by first | rfl | assumption | exact beq_int _ | exact bne_int _) ?_ | ((fail_if_success refine ARun.plain rfl ?_); first | refine ARun.knowT rfl rfl rfl (by first | rfl | assumption | exact beq_int _ | exact bne_int _) ?_ | refine ARun.knowF rfl rfl rfl (by first | rfl | assumption | exact beq_int _ | exact bne_int _) ?_ | refine ARun.fork rfl rfl rfl (fun h => ?_) (fun h => ?_)) | refine awp_cond rfl (fun h => ?_) (fun h => ?_)))
    exact awp_ret ⟨_, ResL.cons (ResA.tmp (.val _)) .nil, rfl⟩
  have d : decide ((60 : Int) < ((ByteArray.mk name.toArray).size : Nat)) = false := decide_eq_false (by omega)
  have hL : (((l.map encW).length : Nat) : Int) = (l.length : Int) := by rw [List.length_map]
  have hM : ∃ m : Nat, (a.tmod ((((l.map encW).length : Nat) : Int) + 1)) = (m : Int) ∧ m ≤ l.length := by
    have e : (a.tmod ((((l.map encW).length : Nat) : Int) + 1)) = a % ((l.length : Int) + 1) := by rw [hL]; exact Int.tmod_eq_emod_of_nonneg ha.1
    have h0 : 0 ≤ a % ((l.length : Int) + 1) := Int.emod_nonneg _ (by omega)
    have h1 : a % ((l.length : Int) + 1) < (l.length : Int) + 1 := Int.emod_lt_of_pos _ (by omega)
    rw [e]
    exact ⟨(a % ((l.length : Int) + 1)).toNat, by omega, by omega⟩
  obtain ⟨m, hM, hm⟩ := hM
  have hN : ∃ n : Nat, (b.tmod ((a.tmod ((((l.map encW).length : Nat) : Int) + 1)) + 1)) = (n : Int) ∧ n ≤ m := by
    have e : (b.tmod ((a.tmod ((((l.map encW).length : Nat) : Int) + 1)) + 1)) = b % ((m : Int) + 1) := by rw [hM]; exact Int.tmod_eq_emod_of_nonneg hb.1
    have h0 : 0 ≤ b % ((m : Int) + 1) := Int.emod_nonneg _ (by omega)
    have h1 : b % ((m : Int) + 1) < (m : Int) + 1 := Int.emod_lt_of_pos _ (by omega)
    rw [e]
    exact ⟨(b % ((m : Int) + 1)).toNat, by omega, by omega⟩
  obtain ⟨n, hN, hn'⟩ := hN
  have z1 : (((l.map encW).length : Nat) : Int) + 1 ≠ 0 := by omega
  have z2 : (a.tmod ((((l.map encW).length : Nat) : Int) + 1)) + 1 ≠ 0 := by omega
  have hxl : (l.take m).length = m := by rw [List.length_take]; omega
  have c1 := cut_c l (a.tmod ((((l.map encW).length : Nat) : Int) + 1)) (by omega)
  rw [cutD_to hM hm] at c1
  have c2 := cut_c (l.take m) (b.tmod ((a.tmod ((((l.map encW).length : Nat) : Int) + 1)) + 1)) (by omega)
  rw [cutD_to hN (by omega), List.take_take, Nat.min_eq_left hn'] at c2
  have c3 := cut_c l (b.tmod ((a.tmod ((((l.map encW).length : Nat) : Int) + 1)) + 1)) (by omega)
  rw [cutD_to hN (by omega)] at c3
  have c4 := cut_c l (((l.map encW).length : Nat) : Int) (by omega)
  rw [cutD_to hL (Nat.le_refl _), List.take_length] at c4
  have hnx : NameIn (l.take m) := fun w hw => right_name hf hr w (List.mem_of_mem_take hw)
  have c5 := find_c (l.take m) name (by omega) (by omega) hnx
  have s1 := ref_same_c (l.take n) (l.take n) (by rw [List.length_take]; omega)
  have s2 := ref_same_c l l (by omega)
  rw [sameW_refl] at s1 s2
  have dx : (((((l.take m).map encW).length : Nat) : Int) != (a.tmod ((((l.map encW).length : Nat) : Int) + 1))) = false := by
    have : ((((l.take m).map encW).length : Nat) : Int) = (a.tmod ((((l.map encW).length : Nat) : Int) + 1)) := by
      have h : ((l.take m).map encW).length = m := by rw [List.length_map]; exact hxl
      omega
    rw [this]
    simp
  have r := lastD_out (findP name) (l.take m) (l.take m).length
  rw [show foundD (l.take m) (lastAt (findP name) (l.take m) (l.take m).length) = findD (l.take m) name from rfl] at r
  generalize findD (l.take m) name = p at *
  generalize l.take n = y at *
  generalize hx : l.take m = x at *
  obtain ⟨⟨pn, px, pf⟩, pi, pb⟩ := p
  dsimp only at r
  simp only [encWE, encFd] at c1 c2 c3 c4 c5
  rcases r with rfl | ⟨j, w, h1, h2, h3, h4⟩
  · refine FnC.of_awp (T := tt) (ok := tok) Try.func8 (by kernel_rfl) rfl (by kernel_rfl) (closedL_cons (.agg (closedL_cons (closed_ws _) (closedL_cons (.val _) (closedL_cons (.val _) (closedL_cons (.val _) closedL_nil))))) closedL_nil) (fun w0 st0 => ?_)
    dsimp only [frOf]
    (repeat' (first | refine awp_seq ?_ | refine awp_block ?_ | refine awp_region (fun _ => hmix) ?_ | refine ARun.op rfl (by first | exact True.intro | exact rfl | (unfold inR; omega) | omega | (unfold inR; simp only [List.length_map, List.length_append, List.length_take, List.length_drop, List.length_replicate, List.length_cons, List.length_nil] at *; omega) | ((try unfold inR); simp only [decide_eq_true_eq, decide_eq_false_iff_not, beq_iff_eq, beq_eq_false_iff_ne, ne_eq, Bool.not_eq_true', Bool.not_eq_false', List.length_map, List.length_append, List.length_take, List.length_drop, List.length_replicate, List.length_cons, List.length_nil] at *; omega)) ?_ | refine callX (c0) rfl rfl rfl rfl ?_ | refine callX (cf) rfl rfl rfl rfl ?_ | refine callX (cr) rfl rfl rfl rfl ?_ | refine callX (c1) rfl rfl rfl rfl ?_ | refine callX (c2) rfl rfl rfl rfl ?_ | refine callX (c3) rfl rfl rfl rfl ?_ | refine callX (c4) rfl rfl rfl rfl ?_ | refine callX (c5) rfl rfl rfl rfl ?_ | refine callX (s1) rfl rfl rfl rfl ?_ | refine callX (s2) rfl rfl rfl rfl ?_ | refine ARun.indexAddr rfl rfl (by first | omega | (dsimp only [maxLen]; done) | (dsimp only [maxLen]; omega) | (simp only [List.length_append, List.length_map, List.length_take, List.length_drop, List.length_replicate, List.length_cons, List.length_nil, maxLen]; done) | (simp only [List.length_append, List.length_map, List.length_take, List.length_drop, List.length_replicate, List.length_cons, List.length_nil, maxLen]; omega) | (simp only [List.length_append, List.length_map, List.length_take, List.length_drop, List.length_replicate, List.length_cons, List.length_nil, maxLen] at *; done) | (simp only [List.length_append, List.length_map, List.length_take, List.length_drop, List.length_replicate, List.length_cons, List.length_nil, maxLen] at *; omega)) (by first | assumption | rfl) rfl rfl rfl rfl rfl (guardF_spec rfl) ?_ | refine eqX flatW rfl rfl rfl rfl rfl ?_ | (refine ARun.fin (by first | (intro h; cases h; done) | (intro _; kernel_rfl)) ?_; dsimp only [thenA, blockA, AS.bump, List.length_cons, List.length_nil, reduceIte, Nat.reduceEqDiff]) | (refine awp_skip ?_; dsimp only [thenA, blockA, AS.bump, List.length_cons, List.length_nil, reduceIte, Nat.reduceEqDiff]) | (refine awp_exit ?_; dsimp only [thenA, blockA, AS.bump, List.length_cons, List.length_nil, reduceIte, Nat.reduceEqDiff]) | refine awp_condT rfl (by first | rfl | assumption | exact beq_int _ | exact bne_int _) ?_ | refine awp_condF rfl (by first | rfl | assumption | exact beq_int _ | exact bne_int _) ?_ | ((fail_if_success refine ARun.plain rfl ?_); first | refine ARun.knowT rfl rfl rfl (by first | rfl | assumption | exact beq_int _ | exact bne_int _) ?_ | refine ARun.knowF rfl rfl rfl (by first | rfl | assumption | exact beq_int _ | exact bne_int _) ?_)))
    (refine awp_ret ⟨_, ResL.cons (ResA.tmp (.val _)) .nil, congrArg (fun b => AV.val (.bool b)) ?_⟩; first | rfl | (symm; assumption) | exact (beq_int _).symm)
  · obtain ⟨wn, wx, wf⟩ := w
    injection h4 with h4 h5
    injection h4 with e1 e2 e3
    injection h5 with h5 h6
    subst e1 e2 e3 h5 h6
    have d1 : decide ((0 : Int) ≤ ((j : Nat) : Int)) = true := decide_eq_true (by omega)
    have d2 : decide (((j : Nat) : Int) < (a.tmod ((((l.map encW).length : Nat) : Int) + 1))) = true := decide_eq_true (by omega)
    have hjl : (j : Int) < (((l.map encW).length : Nat) : Int) := by omega
    have hw : l[j]? = some ⟨pn, px, pf⟩ := by
      rw [← hx, List.getElem?_take, if_pos (by omega)] at h2
      exact h2
    have he : (l.map encW)[((j : Nat) : Int).toNat]? = some (encW ⟨pn, px, pf⟩) := by rw [Int.toNat_natCast]; exact get_map hw
    have e4 := eqW ⟨pn, px, pf⟩
    dsimp only at e4
    refine FnC.of_awp (T := tt) (ok := tok) Try.func8 (by kernel_rfl) rfl (by kernel_rfl) (closedL_cons (.agg (closedL_cons (closed_ws _) (closedL_cons (.val _) (closedL_cons (.val _) (closedL_cons (.val _) closedL_nil))))) closedL_nil) (fun w0 st0 => ?_)
    dsimp only [frOf]
    (repeat' (first | refine awp_seq ?_ | refine awp_block ?_ | refine awp_region (fun _ => hmix) ?_ | refine ARun.op rfl (by first | exact True.intro | exact rfl | (unfold inR; omega) | omega | (unfold inR; simp only [List.length_map, List.length_append, List.length_take, List.length_drop, List.length_replicate, List.length_cons, List.length_nil] at *; omega) | ((try unfold inR); simp only [decide_eq_true_eq, decide_eq_false_iff_not, beq_iff_eq, beq_eq_false_iff_ne, ne_eq, Bool.not_eq_true', Bool.not_eq_false', List.length_map, List.length_append, List.length_take, List.length_drop, List.length_replicate, List.length_cons, List.length_nil] at *; omega)) ?_ | refine callX (c0) rfl rfl rfl rfl ?_ | refine callX (cf) rfl rfl rfl rfl ?_ | refine callX (cr) rfl rfl rfl rfl ?_ | refine callX (c1) rfl rfl rfl rfl ?_ | refine callX (c2) rfl rfl rfl rfl ?_ | refine callX (c3) rfl rfl rfl rfl ?_ | refine callX (c4) rfl rfl rfl rfl ?_ | refine callX (c5) rfl rfl rfl rfl ?_ | refine callX (s1) rfl rfl rfl rfl ?_ | refine callX (s2) rfl rfl rfl rfl ?_ | refine ARun.indexAddr rfl rfl (by first | omega | (dsimp only [maxLen]; done) | (dsimp only [maxLen]; omega) | (simp only [List.length_append, List.length_map, List.length_take, List.length_drop, List.length_replicate, List.length_cons, List.length_nil, maxLen]; done) | (simp only [List.length_append, List.length_map, List.length_take, List.length_drop, List.length_replicate, List.length_cons, List.length_nil, maxLen]; omega) | (simp only [List.length_append, List.length_map, List.length_take, List.length_drop, List.length_replicate, List.length_cons, List.length_nil, maxLen] at *; done) | (simp only [List.length_append, List.length_map, List.length_take, List.length_drop, List.length_replicate, List.length_cons, List.length_nil, maxLen] at *; omega)) (by first | assumption | rfl) rfl rfl rfl rfl rfl (guardF_spec rfl) ?_ | refine eqX flatW rfl rfl rfl rfl rfl ?_ | (refine ARun.fin (by first | (intro h; cases h; done) | (intro _; kernel_rfl)) ?_; dsimp only [thenA, blockA, AS.bump, List.length_cons, List.length_nil, reduceIte, Nat.reduceEqDiff]) | (refine awp_skip ?_; dsimp only [thenA, blockA, AS.bump, List.length_cons, List.length_nil, reduceIte, Nat.reduceEqDiff]) | (refine awp_exit ?_; dsimp only [thenA, blockA, AS.bump, List.length_cons, List.length_nil, reduceIte, Nat.reduceEqDiff]) | refine awp_condT rfl (by first | rfl | assumption | exact beq_int _ | exact bne_int _) ?_ | refine awp_condF rfl (by first | rfl | assumption | exact beq_int _ | exact bne_int _) ?_ | ((fail_if_success refine ARun.plain rfl ?_); first | refine ARun.knowT rfl rfl rfl (by first | rfl | assumption | exact beq_int _ | exact bne_int _) ?_ | refine ARun.knowF rfl rfl rfl (by first | rfl | assumption | exact beq_int _ | exact bne_int _) ?_)))
    (refine awp_ret ⟨_, ResL.cons (ResA.tmp (.val _)) .nil, congrArg (fun b => AV.val (.bool b)) ?_⟩; first | rfl | (symm; assumption) | exact (beq_int _).symm)
end Go.Proofs.Ytedfegoafallhaa
