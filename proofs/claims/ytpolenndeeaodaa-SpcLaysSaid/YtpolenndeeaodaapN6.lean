/- spc: SpcCells returns true. -/
import Derived.Test.YtpolenndeeaodaapN5
namespace Go.Proofs.Ytpolenndeeaodaa
set_option linter.unusedVariables false
set_option linter.unusedSimpArgs false
open Go Go.RowKit
set_option maxRecDepth 100000
attribute [local irreducible] Decidable.decide awp ARun regK toK

set_option maxHeartbeats 4000000 in
theorem cells_c (m : Mm) (here a b : Int) (ha : -9223372036854775808 ≤ a ∧ a ≤ 9223372036854775807) (hb : -9223372036854775808 ≤ b ∧ b ≤ 9223372036854775807) : FnC Try.prog 6 [.agg [encBs m.b, .sl 2 false (m.old.map encP), .val (.int .i64 here), .val (.int .i64 a), .val (.int .i64 b)]] (.val (.bool true)) := by
  have c0 := shown_c
  have cm := ref_may_c m
  by_cases hmay : MayM m
  case neg =>
    rw [mayM_no hmay] at cm
    refine FnC.of_awp (T := tt) (ok := tok) Try.func6 (by kernel_rfl) rfl (by kernel_rfl) (closedL_cons (.agg (closedL_cons (closed_bs _) (closedL_cons (closed_map encP_closed) (closedL_cons (.val _) (closedL_cons (.val _) (closedL_cons (.val _) closedL_nil)))))) closedL_nil) (fun w0 st0 => ?_)
    dsimp only [frOf]
    (repeat' (first | refine awp_seq ?_ | refine awp_block ?_ | refine awp_region (fun _ => hmix) ?_ | refine ARun.op rfl (by first | exact True.intro | exact rfl | (unfold inR; omega) | omega | (unfold inR; simp only [List.length_map, List.length_append, List.length_take, List.length_drop, List.length_cons, List.length_nil] at *; omega) | ((try unfold inR); simp only [decide_eq_true_eq, decide_eq_false_iff_not, beq_iff_eq, beq_eq_false_iff_ne, ne_eq, Bool.not_eq_true', Bool.not_eq_false', List.length_map, List.length_append, List.length_take, List.length_drop, List.length_cons, List.length_nil] at *; omega)) ?_ | refine callX (c0) rfl rfl rfl rfl ?_ | refine callX (cm) rfl rfl rfl rfl ?_ | (refine ARun.fin (by first | (intro h; cases h; done) | (intro _; kernel_rfl)) ?_; dsimp only [thenA, blockA, AS.bump, List.length_cons, List.length_nil, reduceIte, Nat.reduceEqDiff]) | (refine awp_skip ?_; dsimp only [thenA, blockA, AS.bump, List.length_cons, List.length_nil, reduceIte, Nat.reduceEqDiff]) | (refine awp_exit ?_; dsimp only [thenA, blockA, AS.bump, List.length_cons, List.length_nil, reduceIte, Nat.reduceEqDiff]) | refine awp_condT rfl (by first | rfl | assumption | exact beq_int _ | exact bne_int _) ?_ | refine awp_condF rfl (by first | rfl | assumption | exact beq_int _ | exact bne_int _) ?_ | ((fail_if_success refine ARun.plain rfl ?_); first | refine ARun.knowT rfl rfl rfl (by first | rfl | assumption | exact beq_int _ | exact bne_int _) ?_ | refine ARun.knowF rfl rfl rfl (by first | rfl | assumption | exact beq_int _ | exact bne_int _) ?_ | refine ARun.fork rfl rfl rfl (fun h => ?_) (fun h => ?_)) | refine awp_cond rfl (fun h => ?_) (fun h => ?_)))
    exact awp_ret ⟨_, ResL.cons (ResA.tmp (.val _)) .nil, rfl⟩
  rw [mayM_yes hmay] at cm
  have hlb : m.b.length ≤ 600 := by have := hmay.1.1; omega
  have hlo : m.old.length ≤ 60 := hmay.1.2.1
  have hr : m.b.length % 8 = 0 := hmay.2.2.2
  have ci := is_c m here (by omega)
  by_cases hi : 0 ≤ here ∧ here ≤ (m.b.length : Int)
  case neg =>
    rw [decide_eq_false hi] at ci
    refine FnC.of_awp (T := tt) (ok := tok) Try.func6 (by kernel_rfl) rfl (by kernel_rfl) (closedL_cons (.agg (closedL_cons (closed_bs _) (closedL_cons (closed_map encP_closed) (closedL_cons (.val _) (closedL_cons (.val _) (closedL_cons (.val _) closedL_nil)))))) closedL_nil) (fun w0 st0 => ?_)
    dsimp only [frOf]
    (repeat' (first | refine awp_seq ?_ | refine awp_block ?_ | refine awp_region (fun _ => hmix) ?_ | refine ARun.op rfl (by first | exact True.intro | exact rfl | (unfold inR; omega) | omega | (unfold inR; simp only [List.length_map, List.length_append, List.length_take, List.length_drop, List.length_cons, List.length_nil] at *; omega) | ((try unfold inR); simp only [decide_eq_true_eq, decide_eq_false_iff_not, beq_iff_eq, beq_eq_false_iff_ne, ne_eq, Bool.not_eq_true', Bool.not_eq_false', List.length_map, List.length_append, List.length_take, List.length_drop, List.length_cons, List.length_nil] at *; omega)) ?_ | refine callX (c0) rfl rfl rfl rfl ?_ | refine callX (cm) rfl rfl rfl rfl ?_ | refine callX (ci) rfl rfl rfl rfl ?_ | (refine ARun.fin (by first | (intro h; cases h; done) | (intro _; kernel_rfl)) ?_; dsimp only [thenA, blockA, AS.bump, List.length_cons, List.length_nil, reduceIte, Nat.reduceEqDiff]) | (refine awp_skip ?_; dsimp only [thenA, blockA, AS.bump, List.length_cons, List.length_nil, reduceIte, Nat.reduceEqDiff]) | (refine awp_exit ?_; dsimp only [thenA, blockA, AS.bump, List.length_cons, List.length_nil, reduceIte, Nat.reduceEqDiff]) | refine awp_condT rfl (by first | rfl | assumption | exact beq_int _ | exact bne_int _) ?_ | refine awp_condF rfl (by first | rfl | assumption | exact beq_int _ | exact bne_int _) ?_ | ((fail_if_success refine ARun.plain rfl ?_); first | refine ARun.knowT rfl rfl rfl (by first | rfl | assumption | exact beq_int _ | exact bne_int _) ?_ | refine ARun.knowF rfl rfl rfl (by first | rfl | assumption | exact beq_int _ | exact bne_int _) ?_ | refine ARun.fork rfl rfl rfl (fun h => ?_) (fun h => ?_)) | refine awp_cond rfl (fun h => ?_) (fun h => ?_)))
    exact awp_ret ⟨_, ResL.cons (ResA.tmp (.val _)) .nil, rfl⟩
  rw [decide_eq_true hi] at ci
  have c1 := align_c m here (by omega) (by omega) hi
  obtain ⟨h, rfl⟩ : ∃ h : Nat, here = (h : Int) := ⟨here.toNat, by omega⟩
  obtain ⟨p1, p2⟩ := pad_eq h
  obtain ⟨x, e1, xb, hf, xo⟩ := align_law hr (h := h) (by omega)
  rw [e1] at c1
  generalize padN (h : Int) = k at *
  have xl : x.b.length = m.b.length := by rw [xb, overL_length (by rw [List.length_replicate]; omega)]
  have c2 := align_c x ((h + k : Nat) : Int) (by omega) (by omega) (by omega)
  rw [align_again p1 (by omega)] at c2
  have s1 := ref_same_c x x (by omega) (by omega)
  rw [sameM_refl] at s1
  have d1 : ((((x.b.map encB).length : Nat) : Int) != (((m.b.map encB).length : Nat) : Int)) = false := by simp [xl]
  have d2 : ((((h + k : Nat) : Int)).tmod 8 != 0) = false := by rw [Int.tmod_eq_emod_of_nonneg (by omega), bne_eq_false_iff_eq]; omega
  have d3 : decide (((h + k : Nat) : Int) < (h : Int)) = false := decide_eq_false (by omega)
  have d4 : decide ((h : Int) + 7 < ((h + k : Nat) : Int)) = false := decide_eq_false (by omega)
  have c3 := comma_c x ((h + k : Nat) : Int) a (by omega) (by omega) (by omega)
  have el : (((m.b.map encB).length : Nat) : Int) = m.b.length := by rw [List.length_map]
  have z1 : ((-8 : Int) != 0) = true := by simp
  simp only [enc3m] at c1 c2
  refine FnC.of_awp (T := tt) (ok := tok) Try.func6 (by kernel_rfl) rfl (by kernel_rfl) (closedL_cons (.agg (closedL_cons (closed_bs _) (closedL_cons (closed_map encP_closed) (closedL_cons (.val _) (closedL_cons (.val _) (closedL_cons (.val _) closedL_nil)))))) closedL_nil) (fun w0 st0 => ?_)
  dsimp only [frOf]
  (repeat' (first | refine awp_seq ?_ | refine awp_block ?_ | refine awp_region (fun _ => hmix) ?_ | refine ARun.op rfl (by first | exact True.intro | exact rfl | (unfold inR; omega) | omega | (unfold inR; simp only [List.length_map, List.length_append, List.length_take, List.length_drop, List.length_cons, List.length_nil] at *; omega) | ((try unfold inR); simp only [decide_eq_true_eq, decide_eq_false_iff_not, beq_iff_eq, beq_eq_false_iff_ne, ne_eq, Bool.not_eq_true', Bool.not_eq_false', List.length_map, List.length_append, List.length_take, List.length_drop, List.length_cons, List.length_nil] at *; omega)) ?_ | refine callX (c0) rfl rfl rfl rfl ?_ | refine callX (cm) rfl rfl rfl rfl ?_ | refine callX (ci) rfl rfl rfl rfl ?_ | refine callX (c1) rfl rfl rfl rfl ?_ | refine callX (c2) rfl rfl rfl rfl ?_ | refine callX (s1) rfl rfl rfl rfl ?_ | (refine ARun.fin (by first | (intro h; cases h; done) | (intro _; kernel_rfl)) ?_; dsimp only [thenA, blockA, AS.bump, List.length_cons, List.length_nil, reduceIte, Nat.reduceEqDiff]) | (refine awp_skip ?_; dsimp only [thenA, blockA, AS.bump, List.length_cons, List.length_nil, reduceIte, Nat.reduceEqDiff]) | (refine awp_exit ?_; dsimp only [thenA, blockA, AS.bump, List.length_cons, List.length_nil, reduceIte, Nat.reduceEqDiff]) | refine awp_condT rfl (by first | rfl | assumption | exact beq_int _ | exact bne_int _) ?_ | refine awp_condF rfl (by first | rfl | assumption | exact beq_int _ | exact bne_int _) ?_ | ((fail_if_success refine ARun.plain rfl ?_); first | refine ARun.knowT rfl rfl rfl (by first | rfl | assumption | exact beq_int _ | exact bne_int _) ?_ | refine ARun.knowF rfl rfl rfl (by first | rfl | assumption | exact beq_int _ | exact bne_int _) ?_ | refine ARun.fork rfl rfl rfl (fun h => ?_) (fun h => ?_)) | refine awp_cond rfl (fun h => ?_) (fun h => ?_)))
  refine awp_loopT (T := Nat × Nat × Nat × Nat) (fun t => ⟨[(14, .val (.int .i64 ((h + t.1 : Nat) : Int))), (9, .val (.int .i64 ((h + k : Nat) : Int))), (8, .ptr 8 t.2.1 0 0), (3, .ptr 3 t.2.2.1 0 0), (4, .val (.int .i64 (h : Nat))), (5, .val (.int .i64 a)), (6, .val (.int .i64 b)), (7, .val (.bool true))], [(8, some ⟨t.2.1, 2, [encM x]⟩), (3, some ⟨t.2.2.1, 2, [encM m]⟩)], t.2.2.2⟩)
    (fun t => t.1 ≤ k) (fun t => k - t.1) (0, _, _, _) (Nat.zero_le _) ⟨⟨rfl, rfl, rfl, rfl, rfl, rfl, rfl, rfl, trivial⟩, ⟨rfl, rfl, trivial⟩, Nat.le_refl _⟩ (fun t ht => ?_)
  obtain ⟨i, g1, g2, gc⟩ := t
  dsimp only at ht ⊢
  clear c0 cm ci c1 c2 s1
  by_cases hlt : i < k
  · have dl : decide (((h + i : Nat) : Int) < ((h + k : Nat) : Int)) = true := decide_eq_true (by omega)
    have hx : x.b[h + i]? = some 0 := by
      rw [xb, overL_get (by rw [List.length_replicate]; omega), if_neg (by omega), if_pos (by rw [List.length_replicate]; omega), List.getElem?_replicate, if_pos (by omega)]
    obtain ⟨c, hc, hx⟩ : ∃ c : UInt8, c = 0 ∧ x.b[h + i]? = some c := ⟨0, rfl, hx⟩
    have dc : ((c.toNat : Int) != 0) = false := by rw [hc]; simp
    (repeat' (first | refine awp_seq ?_ | refine awp_block ?_ | refine awp_region (fun _ => hmix) ?_ | refine ARun.op rfl (by first | exact True.intro | exact rfl | (unfold inR; omega) | omega | (unfold inR; simp only [List.length_map, List.length_append, List.length_take, List.length_drop, List.length_cons, List.length_nil] at *; omega) | ((try unfold inR); simp only [decide_eq_true_eq, decide_eq_false_iff_not, beq_iff_eq, beq_eq_false_iff_ne, ne_eq, Bool.not_eq_true', Bool.not_eq_false', List.length_map, List.length_append, List.length_take, List.length_drop, List.length_cons, List.length_nil] at *; omega)) ?_ | refine ARun.indexAddr rfl rfl (by omega) (by first | with_reducible exact get_map hx | with_reducible exact get_map hx) rfl rfl rfl rfl rfl (guardF_spec rfl) ?_ | (refine ARun.fin (by first | (intro h; cases h; done) | (intro _; kernel_rfl)) ?_; dsimp only [thenA, blockA, AS.bump, List.length_cons, List.length_nil, reduceIte, Nat.reduceEqDiff]) | (refine awp_skip ?_; dsimp only [thenA, blockA, AS.bump, List.length_cons, List.length_nil, reduceIte, Nat.reduceEqDiff]) | (refine awp_exit ?_; dsimp only [thenA, blockA, AS.bump, List.length_cons, List.length_nil, reduceIte, Nat.reduceEqDiff]) | refine awp_condT rfl (by first | rfl | assumption | exact beq_int _ | exact bne_int _) ?_ | refine awp_condF rfl (by first | rfl | assumption | exact beq_int _ | exact bne_int _) ?_ | ((fail_if_success refine ARun.plain rfl ?_); first | refine ARun.knowT rfl rfl rfl (by first | rfl | assumption | exact beq_int _ | exact bne_int _) ?_ | refine ARun.knowF rfl rfl rfl (by first | rfl | assumption | exact beq_int _ | exact bne_int _) ?_ | refine ARun.fork rfl rfl rfl (fun h => ?_) (fun h => ?_)) | refine awp_cond rfl (fun h => ?_) (fun h => ?_)))
    exact ⟨(i + 1, _, _, _), ⟨⟨succI (h + i), rfl, rfl, rfl, rfl, rfl, rfl, rfl, trivial⟩, ⟨rfl, rfl, trivial⟩, Nat.le_refl _⟩, hlt, (by dsimp only; omega)⟩
  · have hik : i = k := by omega
    subst hik
    have dl : decide (((h + i : Nat) : Int) < ((h + i : Nat) : Int)) = false := decide_eq_false (by omega)
    by_cases hA : h + i + 8 ≤ m.b.length
    · obtain ⟨p, e2, pb, po⟩ := comma_fits a p1 (by rw [xl]; omega : h + i + 8 ≤ x.b.length)
      rw [e2] at c3
      have pl : p.b.length = m.b.length := by rw [pb, overL_length (by rw [putB_len]; omega), xl]
      have c4 := comma_c p ((h + i + 8 : Nat) : Int) b (by omega) (by omega) (by omega)
      by_cases hB : h + i + 16 ≤ m.b.length
      · obtain ⟨q, e3, qb, qo⟩ := comma_fits b (h := h + i + 8) (by omega) (by rw [pl]; omega : h + i + 8 + 8 ≤ p.b.length)
        rw [e3] at c4
        have ql : q.b.length = m.b.length := by rw [qb, overL_length (by rw [putB_len]; omega), pl]
        have c5 := ref_fetch_c q ((h + i : Nat) : Int) (by omega)
        have c6 := ref_fetch_c q ((h + i + 8 : Nat) : Int) (by omega)
        have f1 : (q.b.drop (h + i)).take 8 = putB a := by
          rw [qb, over_part2 (by rw [putB_len, pl]; omega) (by omega), pb]
          have := over_part (l := x.b) (b := putB a) (a := h + i) (by rw [putB_len]; omega)
          rwa [putB_len] at this
        have f2 : (q.b.drop (h + i + 8)).take 8 = putB b := by
          rw [qb]
          have := over_part (l := p.b) (b := putB b) (a := h + i + 8) (by rw [putB_len]; omega)
          rwa [putB_len] at this
        rw [fetch_there ha p1 (by omega) f1] at c5
        rw [fetch_there hb (by omega) (by omega) f2] at c6
        simp only [enc3m] at c3 c4
        dsimp only at c5 c6
        (repeat' (first | refine awp_seq ?_ | refine awp_block ?_ | refine awp_region (fun _ => hmix) ?_ | refine ARun.op rfl (by first | exact True.intro | exact rfl | (unfold inR; omega) | omega | (unfold inR; simp only [List.length_map, List.length_append, List.length_take, List.length_drop, List.length_cons, List.length_nil] at *; omega) | ((try unfold inR); simp only [decide_eq_true_eq, decide_eq_false_iff_not, beq_iff_eq, beq_eq_false_iff_ne, ne_eq, Bool.not_eq_true', Bool.not_eq_false', List.length_map, List.length_append, List.length_take, List.length_drop, List.length_cons, List.length_nil] at *; omega)) ?_ | refine callX (c3) rfl rfl rfl rfl ?_ | refine callX (c4) rfl rfl rfl rfl ?_ | refine callX (c5) rfl rfl rfl rfl ?_ | refine callX (c6) rfl rfl rfl rfl ?_ | (refine ARun.fin (by first | (intro h; cases h; done) | (intro _; kernel_rfl)) ?_; dsimp only [thenA, blockA, AS.bump, List.length_cons, List.length_nil, reduceIte, Nat.reduceEqDiff]) | (refine awp_skip ?_; dsimp only [thenA, blockA, AS.bump, List.length_cons, List.length_nil, reduceIte, Nat.reduceEqDiff]) | (refine awp_exit ?_; dsimp only [thenA, blockA, AS.bump, List.length_cons, List.length_nil, reduceIte, Nat.reduceEqDiff]) | refine awp_condT rfl (by first | rfl | assumption | exact beq_int _ | exact bne_int _) ?_ | refine awp_condF rfl (by first | rfl | assumption | exact beq_int _ | exact bne_int _) ?_ | ((fail_if_success refine ARun.plain rfl ?_); first | refine ARun.knowT rfl rfl rfl (by first | rfl | assumption | exact beq_int _ | exact bne_int _) ?_ | refine ARun.knowF rfl rfl rfl (by first | rfl | assumption | exact beq_int _ | exact bne_int _) ?_ | refine ARun.fork rfl rfl rfl (fun h => ?_) (fun h => ?_)) | refine awp_cond rfl (fun h => ?_) (fun h => ?_)))
        exact awp_ret ⟨_, ResL.cons (ResA.tmp (.val _)) .nil, congrArg (fun b => AV.val (.bool b)) (beq_int _).symm⟩
      · rw [comma_over b (h := h + i + 8) (by omega) (by rw [pl]; omega)] at c4
        simp only [enc3m] at c3 c4
        have df : decide ((((m.b.map encB).length : Nat) : Int) - ((h + i : Nat) : Int) < 16) = true := decide_eq_true (by omega)
        (repeat' (first | refine awp_seq ?_ | refine awp_block ?_ | refine awp_region (fun _ => hmix) ?_ | refine ARun.op rfl (by first | exact True.intro | exact rfl | (unfold inR; omega) | omega | (unfold inR; simp only [List.length_map, List.length_append, List.length_take, List.length_drop, List.length_cons, List.length_nil] at *; omega) | ((try unfold inR); simp only [decide_eq_true_eq, decide_eq_false_iff_not, beq_iff_eq, beq_eq_false_iff_ne, ne_eq, Bool.not_eq_true', Bool.not_eq_false', List.length_map, List.length_append, List.length_take, List.length_drop, List.length_cons, List.length_nil] at *; omega)) ?_ | refine callX (c3) rfl rfl rfl rfl ?_ | refine callX (c4) rfl rfl rfl rfl ?_ | (refine ARun.fin (by first | (intro h; cases h; done) | (intro _; kernel_rfl)) ?_; dsimp only [thenA, blockA, AS.bump, List.length_cons, List.length_nil, reduceIte, Nat.reduceEqDiff]) | (refine awp_skip ?_; dsimp only [thenA, blockA, AS.bump, List.length_cons, List.length_nil, reduceIte, Nat.reduceEqDiff]) | (refine awp_exit ?_; dsimp only [thenA, blockA, AS.bump, List.length_cons, List.length_nil, reduceIte, Nat.reduceEqDiff]) | refine awp_condT rfl (by first | rfl | assumption | exact beq_int _ | exact bne_int _) ?_ | refine awp_condF rfl (by first | rfl | assumption | exact beq_int _ | exact bne_int _) ?_ | ((fail_if_success refine ARun.plain rfl ?_); first | refine ARun.knowT rfl rfl rfl (by first | rfl | assumption | exact beq_int _ | exact bne_int _) ?_ | refine ARun.knowF rfl rfl rfl (by first | rfl | assumption | exact beq_int _ | exact bne_int _) ?_ | refine ARun.fork rfl rfl rfl (fun h => ?_) (fun h => ?_)) | refine awp_cond rfl (fun h => ?_) (fun h => ?_)))
        exact awp_ret ⟨_, ResL.cons (ResA.tmp (.val _)) .nil, congrArg (fun b => AV.val (.bool b)) df.symm⟩
    · rw [comma_over a p1 (by rw [xl]; omega)] at c3
      have c4 := comma_c x ((h + i : Nat) : Int) b (by omega) (by omega) (by omega)
      rw [comma_over b p1 (by rw [xl]; omega)] at c4
      simp only [enc3m] at c3 c4
      have df : decide ((((m.b.map encB).length : Nat) : Int) - ((h + i : Nat) : Int) < 16) = true := decide_eq_true (by omega)
      (repeat' (first | refine awp_seq ?_ | refine awp_block ?_ | refine awp_region (fun _ => hmix) ?_ | refine ARun.op rfl (by first | exact True.intro | exact rfl | (unfold inR; omega) | omega | (unfold inR; simp only [List.length_map, List.length_append, List.length_take, List.length_drop, List.length_cons, List.length_nil] at *; omega) | ((try unfold inR); simp only [decide_eq_true_eq, decide_eq_false_iff_not, beq_iff_eq, beq_eq_false_iff_ne, ne_eq, Bool.not_eq_true', Bool.not_eq_false', List.length_map, List.length_append, List.length_take, List.length_drop, List.length_cons, List.length_nil] at *; omega)) ?_ | refine callX (c3) rfl rfl rfl rfl ?_ | refine callX (c4) rfl rfl rfl rfl ?_ | (refine ARun.fin (by first | (intro h; cases h; done) | (intro _; kernel_rfl)) ?_; dsimp only [thenA, blockA, AS.bump, List.length_cons, List.length_nil, reduceIte, Nat.reduceEqDiff]) | (refine awp_skip ?_; dsimp only [thenA, blockA, AS.bump, List.length_cons, List.length_nil, reduceIte, Nat.reduceEqDiff]) | (refine awp_exit ?_; dsimp only [thenA, blockA, AS.bump, List.length_cons, List.length_nil, reduceIte, Nat.reduceEqDiff]) | refine awp_condT rfl (by first | rfl | assumption | exact beq_int _ | exact bne_int _) ?_ | refine awp_condF rfl (by first | rfl | assumption | exact beq_int _ | exact bne_int _) ?_ | ((fail_if_success refine ARun.plain rfl ?_); first | refine ARun.knowT rfl rfl rfl (by first | rfl | assumption | exact beq_int _ | exact bne_int _) ?_ | refine ARun.knowF rfl rfl rfl (by first | rfl | assumption | exact beq_int _ | exact bne_int _) ?_ | refine ARun.fork rfl rfl rfl (fun h => ?_) (fun h => ?_)) | refine awp_cond rfl (fun h => ?_) (fun h => ?_)))
      exact awp_ret ⟨_, ResL.cons (ResA.tmp (.val _)) .nil, congrArg (fun b => AV.val (.bool b)) df.symm⟩
end Go.Proofs.Ytpolenndeeaodaa
