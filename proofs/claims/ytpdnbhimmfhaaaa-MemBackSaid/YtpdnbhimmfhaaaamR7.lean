/- mem: MemBack returns true. -/
import Derived.Test.YtpdnbhimmfhaaaamR6
namespace Go.Proofs.Ytpdnbhimmfhaaaa
set_option linter.unusedVariables false
set_option linter.unusedSimpArgs false
open Go Go.RowKit
set_option maxRecDepth 100000
attribute [local irreducible] Decidable.decide awp ARun regK toK

structure Ac where
  kind : Int
  at' : Int
  to : Int
  n : Int
  b : List UInt8
def encAc (a : Ac) : List AV := [.val (.int .u8 a.kind), .val (.int .i64 a.at'), .val (.int .i64 a.to), .val (.int .i64 a.n), encBs a.b]
theorem encAc_closed (a : Ac) : ∀ x, x ∈ encAc a → Closed x := closedL_cons (.val _) (closedL_cons (.val _) (closedL_cons (.val _) (closedL_cons (.val _) (closedL_cons (closed_bs _) closedL_nil))))
def doneD (x : Mm) (a : Ac) : Mm := if a.kind.tmod 5 = 0 then (storeD x a.at' a.n).1 else if a.kind.tmod 5 = 1 then (sbyteD x a.at' a.n).1 else if a.kind.tmod 5 = 2 then (writeD x a.at' a.b).1 else if a.kind.tmod 5 = 3 then (fillD x a.at' a.n a.to).1 else (moveD x a.at' a.to a.n).1
theorem done_c (x : Mm) (a : Ac) (hl : x.b.length ≤ 1000000) (ho : x.old.length ≤ 1000000) (hb : a.b.length ≤ 1000000) (hk : 0 ≤ a.kind ∧ a.kind ≤ 255) : FnC Try.prog 42 [.agg (encM x), .agg (encAc a)] (.agg (encM (doneD x a))) := by
  have c1 := store_c x a.at' a.n hl ho
  have c2 := sbyte_c x a.at' a.n hl ho
  have c3 := write_c x a.at' a.b hl ho hb
  have c4 := fill_c x a.at' a.n a.to hl ho
  have c5 := move_c x a.at' a.to a.n hl ho
  simp only [enc2m] at c1 c2 c4 c5
  by_cases h0 : a.kind.tmod 5 = 0
  · rw [show doneD x a = (storeD x a.at' a.n).1 from if_pos h0]
    have z0 : (a.kind.tmod 5 == 0) = true := by simp [h0]
    refine FnC.of_awp (T := tt) (ok := tok) Try.func42 (by kernel_rfl) rfl (by kernel_rfl) (closedL_cons (closed_m x) (closedL_cons (.agg (encAc_closed a)) closedL_nil)) (fun w0 st0 => ?_)
    dsimp only [frOf]
    (repeat' (first | refine awp_seq ?_ | refine awp_block ?_ | refine awp_region (fun _ => hmix) ?_ | refine ARun.op rfl (by first | exact True.intro | exact rfl | (unfold inR; omega) | omega | (unfold inR; simp only [List.length_map, List.length_append, List.length_take, List.length_drop, List.length_replicate, List.length_cons, List.length_nil] at *; omega) | ((try unfold inR); simp only [decide_eq_true_eq, decide_eq_false_iff_not, beq_iff_eq, beq_eq_false_iff_ne, ne_eq, Bool.not_eq_true', Bool.not_eq_false', List.length_map, List.length_append, List.length_take, List.length_drop, List.length_replicate, List.length_cons, List.length_nil] at *; omega)) ?_ | refine callX (c1) rfl rfl rfl rfl ?_ | refine callX (c2) rfl rfl rfl rfl ?_ | refine callX (c3) rfl rfl rfl rfl ?_ | refine callX (c4) rfl rfl rfl rfl ?_ | refine callX (c5) rfl rfl rfl rfl ?_ | (refine ARun.fin (by first | (intro h; cases h; done) | (intro _; kernel_rfl)) ?_; dsimp only [thenA, blockA, AS.bump, List.length_cons, List.length_nil, reduceIte, Nat.reduceEqDiff]) | (refine awp_skip ?_; dsimp only [thenA, blockA, AS.bump, List.length_cons, List.length_nil, reduceIte, Nat.reduceEqDiff]) | (refine awp_exit ?_; dsimp only [thenA, blockA, AS.bump, List.length_cons, List.length_nil, reduceIte, Nat.reduceEqDiff]) | refine awp_condT rfl (by first | rfl | assumption | exact beq_int _ | exact bne_int _) ?_ | refine awp_condF rfl (by first | rfl | assumption | exact beq_int _ | exact bne_int _) ?_ | ((fail_if_success refine ARun.plain rfl ?_); first | refine ARun.knowT rfl rfl rfl (by first | rfl | assumption | exact beq_int _ | exact bne_int _) ?_ | refine ARun.knowF rfl rfl rfl (by first | rfl | assumption | exact beq_int _ | exact bne_int _) ?_ | refine ARun.fork rfl rfl rfl (fun h => ?_) (fun h => ?_)) | refine awp_cond rfl (fun h => ?_) (fun h => ?_)))
    exact awp_ret ⟨_, (ResL.cons (ResA.agg rfl rfl rfl rfl rfl rfl rfl (RL.cons (.closed _ (closed_bs _)) (RL.cons (.closed _ (closed_map encP_closed)) (RL.nil _)))) .nil), rfl⟩
  have z0 : (a.kind.tmod 5 == 0) = false := by simp [h0]
  by_cases h1 : a.kind.tmod 5 = 1
  · rw [show doneD x a = (sbyteD x a.at' a.n).1 by unfold doneD; rw [if_neg h0, if_pos h1]]
    have z1 : (a.kind.tmod 5 == 1) = true := by simp [h1]
    refine FnC.of_awp (T := tt) (ok := tok) Try.func42 (by kernel_rfl) rfl (by kernel_rfl) (closedL_cons (closed_m x) (closedL_cons (.agg (encAc_closed a)) closedL_nil)) (fun w0 st0 => ?_)
    dsimp only [frOf]
    (repeat' (first | refine awp_seq ?_ | refine awp_block ?_ | refine awp_region (fun _ => hmix) ?_ | refine ARun.op rfl (by first | exact True.intro | exact rfl | (unfold inR; omega) | omega | (unfold inR; simp only [List.length_map, List.length_append, List.length_take, List.length_drop, List.length_replicate, List.length_cons, List.length_nil] at *; omega) | ((try unfold inR); simp only [decide_eq_true_eq, decide_eq_false_iff_not, beq_iff_eq, beq_eq_false_iff_ne, ne_eq, Bool.not_eq_true', Bool.not_eq_false', List.length_map, List.length_append, List.length_take, List.length_drop, List.length_replicate, List.length_cons, List.length_nil] at *; omega)) ?_ | refine callX (c1) rfl rfl rfl rfl ?_ | refine callX (c2) rfl rfl rfl rfl ?_ | refine callX (c3) rfl rfl rfl rfl ?_ | refine callX (c4) rfl rfl rfl rfl ?_ | refine callX (c5) rfl rfl rfl rfl ?_ | (refine ARun.fin (by first | (intro h; cases h; done) | (intro _; kernel_rfl)) ?_; dsimp only [thenA, blockA, AS.bump, List.length_cons, List.length_nil, reduceIte, Nat.reduceEqDiff]) | (refine awp_skip ?_; dsimp only [thenA, blockA, AS.bump, List.length_cons, List.length_nil, reduceIte, Nat.reduceEqDiff]) | (refine awp_exit ?_; dsimp only [thenA, blockA, AS.bump, List.length_cons, List.length_nil, reduceIte, Nat.reduceEqDiff]) | refine awp_condT rfl (by first | rfl | assumption | exact beq_int _ | exact bne_int _) ?_ | refine awp_condF rfl (by first | rfl | assumption | exact beq_int _ | exact bne_int _) ?_ | ((fail_if_success refine ARun.plain rfl ?_); first | refine ARun.knowT rfl rfl rfl (by first | rfl | assumption | exact beq_int _ | exact bne_int _) ?_ | refine ARun.knowF rfl rfl rfl (by first | rfl | assumption | exact beq_int _ | exact bne_int _) ?_ | refine ARun.fork rfl rfl rfl (fun h => ?_) (fun h => ?_)) | refine awp_cond rfl (fun h => ?_) (fun h => ?_)))
    exact awp_ret ⟨_, (ResL.cons (ResA.agg rfl rfl rfl rfl rfl rfl rfl (RL.cons (.closed _ (closed_bs _)) (RL.cons (.closed _ (closed_map encP_closed)) (RL.nil _)))) .nil), rfl⟩
  have z1 : (a.kind.tmod 5 == 1) = false := by simp [h1]
  by_cases h2 : a.kind.tmod 5 = 2
  · rw [show doneD x a = (writeD x a.at' a.b).1 by unfold doneD; rw [if_neg h0, if_neg h1, if_pos h2]]
    have z2 : (a.kind.tmod 5 == 2) = true := by simp [h2]
    refine FnC.of_awp (T := tt) (ok := tok) Try.func42 (by kernel_rfl) rfl (by kernel_rfl) (closedL_cons (closed_m x) (closedL_cons (.agg (encAc_closed a)) closedL_nil)) (fun w0 st0 => ?_)
    dsimp only [frOf]
    (repeat' (first | refine awp_seq ?_ | refine awp_block ?_ | refine awp_region (fun _ => hmix) ?_ | refine ARun.op rfl (by first | exact True.intro | exact rfl | (unfold inR; omega) | omega | (unfold inR; simp only [List.length_map, List.length_append, List.length_take, List.length_drop, List.length_replicate, List.length_cons, List.length_nil] at *; omega) | ((try unfold inR); simp only [decide_eq_true_eq, decide_eq_false_iff_not, beq_iff_eq, beq_eq_false_iff_ne, ne_eq, Bool.not_eq_true', Bool.not_eq_false', List.length_map, List.length_append, List.length_take, List.length_drop, List.length_replicate, List.length_cons, List.length_nil] at *; omega)) ?_ | refine callX (c1) rfl rfl rfl rfl ?_ | refine callX (c2) rfl rfl rfl rfl ?_ | refine callX (c3) rfl rfl rfl rfl ?_ | refine callX (c4) rfl rfl rfl rfl ?_ | refine callX (c5) rfl rfl rfl rfl ?_ | (refine ARun.fin (by first | (intro h; cases h; done) | (intro _; kernel_rfl)) ?_; dsimp only [thenA, blockA, AS.bump, List.length_cons, List.length_nil, reduceIte, Nat.reduceEqDiff]) | (refine awp_skip ?_; dsimp only [thenA, blockA, AS.bump, List.length_cons, List.length_nil, reduceIte, Nat.reduceEqDiff]) | (refine awp_exit ?_; dsimp only [thenA, blockA, AS.bump, List.length_cons, List.length_nil, reduceIte, Nat.reduceEqDiff]) | refine awp_condT rfl (by first | rfl | assumption | exact beq_int _ | exact bne_int _) ?_ | refine awp_condF rfl (by first | rfl | assumption | exact beq_int _ | exact bne_int _) ?_ | ((fail_if_success refine ARun.plain rfl ?_); first | refine ARun.knowT rfl rfl rfl (by first | rfl | assumption | exact beq_int _ | exact bne_int _) ?_ | refine ARun.knowF rfl rfl rfl (by first | rfl | assumption | exact beq_int _ | exact bne_int _) ?_ | refine ARun.fork rfl rfl rfl (fun h => ?_) (fun h => ?_)) | refine awp_cond rfl (fun h => ?_) (fun h => ?_)))
    exact awp_ret ⟨_, (ResL.cons (ResA.agg rfl rfl rfl rfl rfl rfl rfl (RL.cons (.closed _ (closed_bs _)) (RL.cons (.closed _ (closed_map encP_closed)) (RL.nil _)))) .nil), rfl⟩
  have z2 : (a.kind.tmod 5 == 2) = false := by simp [h2]
  by_cases h3 : a.kind.tmod 5 = 3
  · rw [show doneD x a = (fillD x a.at' a.n a.to).1 by unfold doneD; rw [if_neg h0, if_neg h1, if_neg h2, if_pos h3]]
    have z3 : (a.kind.tmod 5 == 3) = true := by simp [h3]
    refine FnC.of_awp (T := tt) (ok := tok) Try.func42 (by kernel_rfl) rfl (by kernel_rfl) (closedL_cons (closed_m x) (closedL_cons (.agg (encAc_closed a)) closedL_nil)) (fun w0 st0 => ?_)
    dsimp only [frOf]
    (repeat' (first | refine awp_seq ?_ | refine awp_block ?_ | refine awp_region (fun _ => hmix) ?_ | refine ARun.op rfl (by first | exact True.intro | exact rfl | (unfold inR; omega) | omega | (unfold inR; simp only [List.length_map, List.length_append, List.length_take, List.length_drop, List.length_replicate, List.length_cons, List.length_nil] at *; omega) | ((try unfold inR); simp only [decide_eq_true_eq, decide_eq_false_iff_not, beq_iff_eq, beq_eq_false_iff_ne, ne_eq, Bool.not_eq_true', Bool.not_eq_false', List.length_map, List.length_append, List.length_take, List.length_drop, List.length_replicate, List.length_cons, List.length_nil] at *; omega)) ?_ | refine callX (c1) rfl rfl rfl rfl ?_ | refine callX (c2) rfl rfl rfl rfl ?_ | refine callX (c3) rfl rfl rfl rfl ?_ | refine callX (c4) rfl rfl rfl rfl ?_ | refine callX (c5) rfl rfl rfl rfl ?_ | (refine ARun.fin (by first | (intro h; cases h; done) | (intro _; kernel_rfl)) ?_; dsimp only [thenA, blockA, AS.bump, List.length_cons, List.length_nil, reduceIte, Nat.reduceEqDiff]) | (refine awp_skip ?_; dsimp only [thenA, blockA, AS.bump, List.length_cons, List.length_nil, reduceIte, Nat.reduceEqDiff]) | (refine awp_exit ?_; dsimp only [thenA, blockA, AS.bump, List.length_cons, List.length_nil, reduceIte, Nat.reduceEqDiff]) | refine awp_condT rfl (by first | rfl | assumption | exact beq_int _ | exact bne_int _) ?_ | refine awp_condF rfl (by first | rfl | assumption | exact beq_int _ | exact bne_int _) ?_ | ((fail_if_success refine ARun.plain rfl ?_); first | refine ARun.knowT rfl rfl rfl (by first | rfl | assumption | exact beq_int _ | exact bne_int _) ?_ | refine ARun.knowF rfl rfl rfl (by first | rfl | assumption | exact beq_int _ | exact bne_int _) ?_ | refine ARun.fork rfl rfl rfl (fun h => ?_) (fun h => ?_)) | refine awp_cond rfl (fun h => ?_) (fun h => ?_)))
    exact awp_ret ⟨_, (ResL.cons (ResA.agg rfl rfl rfl rfl rfl rfl rfl (RL.cons (.closed _ (closed_bs _)) (RL.cons (.closed _ (closed_map encP_closed)) (RL.nil _)))) .nil), rfl⟩
  have z3 : (a.kind.tmod 5 == 3) = false := by simp [h3]
  rw [show doneD x a = (moveD x a.at' a.to a.n).1 by unfold doneD; rw [if_neg h0, if_neg h1, if_neg h2, if_neg h3]]
  refine FnC.of_awp (T := tt) (ok := tok) Try.func42 (by kernel_rfl) rfl (by kernel_rfl) (closedL_cons (closed_m x) (closedL_cons (.agg (encAc_closed a)) closedL_nil)) (fun w0 st0 => ?_)
  dsimp only [frOf]
  (repeat' (first | refine awp_seq ?_ | refine awp_block ?_ | refine awp_region (fun _ => hmix) ?_ | refine ARun.op rfl (by first | exact True.intro | exact rfl | (unfold inR; omega) | omega | (unfold inR; simp only [List.length_map, List.length_append, List.length_take, List.length_drop, List.length_replicate, List.length_cons, List.length_nil] at *; omega) | ((try unfold inR); simp only [decide_eq_true_eq, decide_eq_false_iff_not, beq_iff_eq, beq_eq_false_iff_ne, ne_eq, Bool.not_eq_true', Bool.not_eq_false', List.length_map, List.length_append, List.length_take, List.length_drop, List.length_replicate, List.length_cons, List.length_nil] at *; omega)) ?_ | refine callX (c1) rfl rfl rfl rfl ?_ | refine callX (c2) rfl rfl rfl rfl ?_ | refine callX (c3) rfl rfl rfl rfl ?_ | refine callX (c4) rfl rfl rfl rfl ?_ | refine callX (c5) rfl rfl rfl rfl ?_ | (refine ARun.fin (by first | (intro h; cases h; done) | (intro _; kernel_rfl)) ?_; dsimp only [thenA, blockA, AS.bump, List.length_cons, List.length_nil, reduceIte, Nat.reduceEqDiff]) | (refine awp_skip ?_; dsimp only [thenA, blockA, AS.bump, List.length_cons, List.length_nil, reduceIte, Nat.reduceEqDiff]) | (refine awp_exit ?_; dsimp only [thenA, blockA, AS.bump, List.length_cons, List.length_nil, reduceIte, Nat.reduceEqDiff]) | refine awp_condT rfl (by first | rfl | assumption | exact beq_int _ | exact bne_int _) ?_ | refine awp_condF rfl (by first | rfl | assumption | exact beq_int _ | exact bne_int _) ?_ | ((fail_if_success refine ARun.plain rfl ?_); first | refine ARun.knowT rfl rfl rfl (by first | rfl | assumption | exact beq_int _ | exact bne_int _) ?_ | refine ARun.knowF rfl rfl rfl (by first | rfl | assumption | exact beq_int _ | exact bne_int _) ?_ | refine ARun.fork rfl rfl rfl (fun h => ?_) (fun h => ?_)) | refine awp_cond rfl (fun h => ?_) (fun h => ?_)))
  exact awp_ret ⟨_, (ResL.cons (ResA.agg rfl rfl rfl rfl rfl rfl rfl (RL.cons (.closed _ (closed_bs _)) (RL.cons (.closed _ (closed_map encP_closed)) (RL.nil _)))) .nil), rfl⟩
theorem doneD_out (x : Mm) (a : Ac) : doneD x a = x ∨ ∃ p b, doneD x a = (writeD x p b).1 := by
  unfold doneD
  split
  · unfold storeD
    split
    · exact .inl rfl
    · exact .inr ⟨_, _, rfl⟩
  · split
    · exact .inr ⟨_, _, rfl⟩
    · split
      · exact .inr ⟨_, _, rfl⟩
      · split
        · unfold fillD
          split
          · exact .inl rfl
          · exact .inr ⟨_, _, rfl⟩
        · unfold moveD
          split
          · exact .inl rfl
          · exact .inr ⟨_, _, rfl⟩
theorem over_back {α : Type} {l b : List α} {a : Nat} (h : a + b.length ≤ l.length) : overL (overL l a b) a ((l.drop a).take b.length) = l := by
  have hl : (overL l a b).length = l.length := overL_length h
  have hk : ((l.drop a).take b.length).length = b.length := by rw [List.length_take, List.length_drop]; omega
  apply List.ext_getElem?
  intro i
  rw [overL_get (by omega), overL_get h, hk]
  by_cases h1 : i < a
  · rw [if_pos h1, if_pos h1]
  · rw [if_neg h1, if_neg h1]
    by_cases h2 : i < a + b.length
    · rw [if_pos h2, List.getElem?_take, if_pos (by omega), List.getElem?_drop, show a + (i - a) = i by omega]
    · rw [if_neg h2, if_neg h2]
/-- What writes behind a mark leave. -/
def Since (m x : Mm) (i : Nat) : Prop := x.b.length = m.b.length ∧ OldIn m.b.length x.old ∧ ∃ ext, x.old = m.old ++ ext ∧ ext.length ≤ i ∧ undoL x.b ext.reverse = m.b
theorem since_zero {m : Mm} (h : OldIn m.b.length m.old) : Since m m 0 := ⟨rfl, h, [], by simp, Nat.le_refl _, rfl⟩
theorem since_done {m x : Mm} {i : Nat} (a : Ac) (h : Since m x i) : Since m (doneD x a) (i + 1) := by
  obtain ⟨h1, h2, ext, h3, h4, h5⟩ := h
  have same : Since m x (i + 1) := ⟨h1, h2, ext, h3, by omega, h5⟩
  rcases doneD_out x a with h | ⟨p, b, h⟩
  · rw [h]; exact same
  · rw [h]
    rcases write_out x p b with ⟨_, k⟩ | ⟨_, k⟩ | ⟨q, rfl, k1, k2, k⟩
    · rw [k]; exact same
    · rw [k]; exact same
    · rw [k]
      have hb := List.length_pos_iff.2 k1
      refine ⟨by dsimp only; rw [overL_length k2, h1], fun pt hp => ?_, ext ++ [((q : Int), (x.b.drop q).take b.length)], by dsimp only; rw [h3, List.append_assoc], by rw [List.length_append, List.length_singleton]; omega, ?_⟩
      · rcases List.mem_append.1 hp with hp | hp
        · exact h2 pt hp
        · rw [List.mem_singleton.1 hp]
          refine there_iff.2 (.inr ⟨?_, ?_, ?_, ?_⟩) <;> simp only [List.length_take, List.length_drop] <;> omega
      · dsimp only
        rw [List.reverse_append]
        show undoL (overL (overL x.b q b) ((q : Int)).toNat ((x.b.drop q).take b.length)) ext.reverse = m.b
        rw [Int.toNat_natCast, over_back k2, h5]
theorem since_back {m x : Mm} {i : Nat} (h : Since m x i) : backD x (m.old.length : Nat) = (m, 0) := by
  obtain ⟨h1, h2, ext, h3, h4, h5⟩ := h
  have hl : x.old.length = m.old.length + ext.length := by rw [h3, List.length_append]
  unfold backD
  rw [if_neg (by omega), Int.toNat_natCast]
  have e1 : behind x m.old.length = ext.reverse := by unfold behind; rw [h3, List.drop_left']; rfl
  have e2 : x.old.take m.old.length = m.old := by rw [h3, List.take_left']; rfl
  rw [e1, e2, h5]
theorem back_all (x : Mm) : backD x (x.old.length : Nat) = (x, 0) := by
  unfold backD
  rw [if_neg (by omega), Int.toNat_natCast]
  have e1 : behind x x.old.length = [] := by unfold behind; rw [List.drop_length]; rfl
  rw [e1, List.take_length]
  rfl
theorem since_right {m x : Mm} {i : Nat} (h : Since m x i) (hr : RightM m) : RightM x := by
  obtain ⟨h1, h2, _⟩ := h
  exact ⟨by rw [h1]; exact h2, by rw [h1]; exact hr.2.1, by rw [h1]; exact hr.2.2⟩
set_option maxHeartbeats 8000000 in
theorem back_law (m : Mm) (l : List Ac) (hk : ∀ a, a ∈ l → 0 ≤ a.kind ∧ a.kind ≤ 255) : FnC Try.prog 10 [.agg (encM m), .sl 5 false (l.map encAc)] (.val (.bool true)) := by
  have c0 := shown_c
  have cm := ref_may_c m
  by_cases hmay : MayM m
  case neg =>
    rw [mayM_no hmay] at cm
    refine FnC.of_awp (T := tt) (ok := tok) Try.func10 (by kernel_rfl) rfl (by kernel_rfl) (closedL_cons (closed_m m) (closedL_cons (closed_map encAc_closed) closedL_nil)) (fun w0 st0 => ?_)
    dsimp only [frOf]
    (repeat' (first | refine awp_seq ?_ | refine awp_block ?_ | refine awp_region (fun _ => hmix) ?_ | refine ARun.op rfl (by first | exact True.intro | exact rfl | (unfold inR; omega) | omega | (unfold inR; simp only [List.length_map, List.length_append, List.length_take, List.length_drop, List.length_replicate, List.length_cons, List.length_nil] at *; omega) | ((try unfold inR); simp only [decide_eq_true_eq, decide_eq_false_iff_not, beq_iff_eq, beq_eq_false_iff_ne, ne_eq, Bool.not_eq_true', Bool.not_eq_false', List.length_map, List.length_append, List.length_take, List.length_drop, List.length_replicate, List.length_cons, List.length_nil] at *; omega)) ?_ | refine callX (c0) rfl rfl rfl rfl ?_ | refine callX (cm) rfl rfl rfl rfl ?_ | (refine ARun.fin (by first | (intro h; cases h; done) | (intro _; kernel_rfl)) ?_; dsimp only [thenA, blockA, AS.bump, List.length_cons, List.length_nil, reduceIte, Nat.reduceEqDiff]) | (refine awp_skip ?_; dsimp only [thenA, blockA, AS.bump, List.length_cons, List.length_nil, reduceIte, Nat.reduceEqDiff]) | (refine awp_exit ?_; dsimp only [thenA, blockA, AS.bump, List.length_cons, List.length_nil, reduceIte, Nat.reduceEqDiff]) | refine awp_condT rfl (by first | rfl | assumption | exact beq_int _ | exact bne_int _) ?_ | refine awp_condF rfl (by first | rfl | assumption | exact beq_int _ | exact bne_int _) ?_ | ((fail_if_success refine ARun.plain rfl ?_); first | refine ARun.knowT rfl rfl rfl (by first | rfl | assumption | exact beq_int _ | exact bne_int _) ?_ | refine ARun.knowF rfl rfl rfl (by first | rfl | assumption | exact beq_int _ | exact bne_int _) ?_ | refine ARun.fork rfl rfl rfl (fun h => ?_) (fun h => ?_)) | refine awp_cond rfl (fun h => ?_) (fun h => ?_)))
    exact awp_ret ⟨_, ResL.cons (ResA.tmp (.val _)) .nil, rfl⟩
  rw [mayM_yes hmay] at cm
  have hlb : m.b.length ≤ 600 := by have := hmay.1.1; omega
  have hlo : m.old.length ≤ 60 := hmay.1.2.1
  by_cases hb : (20 : Int) < (((l.map encAc).length : Nat) : Int)
  · have d : decide ((20 : Int) < (((l.map encAc).length : Nat) : Int)) = true := decide_eq_true hb
    refine FnC.of_awp (T := tt) (ok := tok) Try.func10 (by kernel_rfl) rfl (by kernel_rfl) (closedL_cons (closed_m m) (closedL_cons (closed_map encAc_closed) closedL_nil)) (fun w0 st0 => ?_)
    dsimp only [frOf]
    (repeat' (first | refine awp_seq ?_ | refine awp_block ?_ | refine awp_region (fun _ => hmix) ?_ | refine ARun.op rfl (by first | exact True.intro | exact rfl | (unfold inR; omega) | omega | (unfold inR; simp only [List.length_map, List.length_append, List.length_take, List.length_drop, List.length_replicate, List.length_cons, List.length_nil] at *; omega) | ((try unfold inR); simp only [decide_eq_true_eq, decide_eq_false_iff_not, beq_iff_eq, beq_eq_false_iff_ne, ne_eq, Bool.not_eq_true', Bool.not_eq_false', List.length_map, List.length_append, List.length_take, List.length_drop, List.length_replicate, List.length_cons, List.length_nil] at *; omega)) ?_ | refine callX (c0) rfl rfl rfl rfl ?_ | refine callX (cm) rfl rfl rfl rfl ?_ | (refine ARun.fin (by first | (intro h; cases h; done) | (intro _; kernel_rfl)) ?_; dsimp only [thenA, blockA, AS.bump, List.length_cons, List.length_nil, reduceIte, Nat.reduceEqDiff]) | (refine awp_skip ?_; dsimp only [thenA, blockA, AS.bump, List.length_cons, List.length_nil, reduceIte, Nat.reduceEqDiff]) | (refine awp_exit ?_; dsimp only [thenA, blockA, AS.bump, List.length_cons, List.length_nil, reduceIte, Nat.reduceEqDiff]) | refine awp_condT rfl (by first | rfl | assumption | exact beq_int _ | exact bne_int _) ?_ | refine awp_condF rfl (by first | rfl | assumption | exact beq_int _ | exact bne_int _) ?_ | ((fail_if_success refine ARun.plain rfl ?_); first | refine ARun.knowT rfl rfl rfl (by first | rfl | assumption | exact beq_int _ | exact bne_int _) ?_ | refine ARun.knowF rfl rfl rfl (by first | rfl | assumption | exact beq_int _ | exact bne_int _) ?_ | refine ARun.fork rfl rfl rfl (fun h => ?_) (fun h => ?_)) | refine awp_cond rfl (fun h => ?_) (fun h => ?_)))
    exact awp_ret ⟨_, ResL.cons (ResA.tmp (.val _)) .nil, rfl⟩
  have d : decide ((20 : Int) < (((l.map encAc).length : Nat) : Int)) = false := decide_eq_false hb
  rw [List.length_map] at hb
  have c1 := mark_c m (by omega)
  refine FnC.of_awp (T := tt) (ok := tok) Try.func10 (by kernel_rfl) rfl (by kernel_rfl) (closedL_cons (closed_m m) (closedL_cons (closed_map encAc_closed) closedL_nil)) (fun w0 st0 => ?_)
  dsimp only [frOf]
  (repeat' (first | refine awp_seq ?_ | refine awp_block ?_ | refine awp_region (fun _ => hmix) ?_ | refine ARun.op rfl (by first | exact True.intro | exact rfl | (unfold inR; omega) | omega | (unfold inR; simp only [List.length_map, List.length_append, List.length_take, List.length_drop, List.length_replicate, List.length_cons, List.length_nil] at *; omega) | ((try unfold inR); simp only [decide_eq_true_eq, decide_eq_false_iff_not, beq_iff_eq, beq_eq_false_iff_ne, ne_eq, Bool.not_eq_true', Bool.not_eq_false', List.length_map, List.length_append, List.length_take, List.length_drop, List.length_replicate, List.length_cons, List.length_nil] at *; omega)) ?_ | refine callX (c0) rfl rfl rfl rfl ?_ | refine callX (cm) rfl rfl rfl rfl ?_ | refine callX (c1) rfl rfl rfl rfl ?_ | (refine ARun.fin (by first | (intro h; cases h; done) | (intro _; kernel_rfl)) ?_; dsimp only [thenA, blockA, AS.bump, List.length_cons, List.length_nil, reduceIte, Nat.reduceEqDiff]) | (refine awp_skip ?_; dsimp only [thenA, blockA, AS.bump, List.length_cons, List.length_nil, reduceIte, Nat.reduceEqDiff]) | (refine awp_exit ?_; dsimp only [thenA, blockA, AS.bump, List.length_cons, List.length_nil, reduceIte, Nat.reduceEqDiff]) | refine awp_condT rfl (by first | rfl | assumption | exact beq_int _ | exact bne_int _) ?_ | refine awp_condF rfl (by first | rfl | assumption | exact beq_int _ | exact bne_int _) ?_ | ((fail_if_success refine ARun.plain rfl ?_); first | refine ARun.knowT rfl rfl rfl (by first | rfl | assumption | exact beq_int _ | exact bne_int _) ?_ | refine ARun.knowF rfl rfl rfl (by first | rfl | assumption | exact beq_int _ | exact bne_int _) ?_ | refine ARun.fork rfl rfl rfl (fun h => ?_) (fun h => ?_)) | refine awp_cond rfl (fun h => ?_) (fun h => ?_)))
  refine awp_loopT (T := Nat × Mm × Nat × Nat) (fun t => ⟨[(8, .val (.int .i64 (t.1 : Nat))), (7, .ptr 7 t.2.2.1 0 0), (2, .ptr 2 0 0 0), (6, .val (.int .i64 (m.old.length : Nat))), (5, .val (.bool true)), (1, .sl 5 false (l.map encAc))], [(7, some ⟨t.2.2.1, 2, [encM t.2.1]⟩), (2, some ⟨0, 2, [encM m]⟩)], t.2.2.2⟩)
    (fun t => t.1 ≤ l.length ∧ Since m t.2.1 t.1) (fun t => l.length - t.1) (0, m, _, _) ⟨Nat.zero_le _, since_zero hmay.2.1⟩ ⟨⟨rfl, rfl, rfl, rfl, rfl, rfl, trivial⟩, ⟨rfl, rfl, trivial⟩, Nat.le_refl _⟩ (fun t ht => ?_)
  obtain ⟨i, x, g, gc⟩ := t
  obtain ⟨hi, hs⟩ := ht
  dsimp only at hi hs ⊢
  clear c0 cm c1
  have hxl : x.b.length ≤ 600 := by have := hs.1; omega
  have hxo : x.old.length ≤ 60 + i := by obtain ⟨_, _, ext, h3, h4, _⟩ := hs; rw [h3, List.length_append]; omega
  by_cases hlt : i < l.length
  · have dl : decide (((i : Nat) : Int) < (((l.map encAc).length : Nat) : Int)) = true := by simp; omega
    have hp : l[i]? = some l[i] := List.getElem?_eq_getElem hlt
    have hka := hk _ (List.getElem_mem hlt)
    generalize l[i] = a at hp hka
    by_cases hB : (200 : Int) < (((a.b.map encB).length : Nat) : Int)
    · have dB : decide ((200 : Int) < (((a.b.map encB).length : Nat) : Int)) = true := decide_eq_true hB
      (repeat' (first | refine awp_seq ?_ | refine awp_block ?_ | refine awp_region (fun _ => hmix) ?_ | refine ARun.op rfl (by first | exact True.intro | exact rfl | (unfold inR; omega) | omega | (unfold inR; simp only [List.length_map, List.length_append, List.length_take, List.length_drop, List.length_replicate, List.length_cons, List.length_nil] at *; omega) | ((try unfold inR); simp only [decide_eq_true_eq, decide_eq_false_iff_not, beq_iff_eq, beq_eq_false_iff_ne, ne_eq, Bool.not_eq_true', Bool.not_eq_false', List.length_map, List.length_append, List.length_take, List.length_drop, List.length_replicate, List.length_cons, List.length_nil] at *; omega)) ?_ | refine ARun.indexAddr rfl rfl (by omega) (by first | with_reducible exact get_map hp | with_reducible exact get_map hp) rfl rfl rfl rfl rfl (guardF_spec rfl) ?_ | (refine ARun.fin (by first | (intro h; cases h; done) | (intro _; kernel_rfl)) ?_; dsimp only [thenA, blockA, AS.bump, List.length_cons, List.length_nil, reduceIte, Nat.reduceEqDiff]) | (refine awp_skip ?_; dsimp only [thenA, blockA, AS.bump, List.length_cons, List.length_nil, reduceIte, Nat.reduceEqDiff]) | (refine awp_exit ?_; dsimp only [thenA, blockA, AS.bump, List.length_cons, List.length_nil, reduceIte, Nat.reduceEqDiff]) | refine awp_condT rfl (by first | rfl | assumption | exact beq_int _ | exact bne_int _) ?_ | refine awp_condF rfl (by first | rfl | assumption | exact beq_int _ | exact bne_int _) ?_ | ((fail_if_success refine ARun.plain rfl ?_); first | refine ARun.knowT rfl rfl rfl (by first | rfl | assumption | exact beq_int _ | exact bne_int _) ?_ | refine ARun.knowF rfl rfl rfl (by first | rfl | assumption | exact beq_int _ | exact bne_int _) ?_ | refine ARun.fork rfl rfl rfl (fun h => ?_) (fun h => ?_)) | refine awp_cond rfl (fun h => ?_) (fun h => ?_)))
      exact awp_ret ⟨_, ResL.cons (ResA.tmp (.val _)) .nil, rfl⟩
    have dB : decide ((200 : Int) < (((a.b.map encB).length : Nat) : Int)) = false := decide_eq_false hB
    rw [List.length_map] at hB
    have hs' := since_done a hs
    have c2 := done_c x a (by omega) (by omega) (by omega) hka
    generalize doneD x a = y at hs' c2
    have hyl : y.b.length = m.b.length := hs'.1
    have hyo : m.old.length ≤ y.old.length ∧ y.old.length ≤ 61 + i := by obtain ⟨_, _, ext, h3, h4, _⟩ := hs'; rw [h3, List.length_append]; omega
    have c3 := ref_right_c y (by omega) (by omega)
    rw [rightM_yes (since_right hs' hmay.2)] at c3
    have c4 := mark_c y (by omega)
    have d1 : ((((y.b.map encB).length : Nat) : Int) != (((m.b.map encB).length : Nat) : Int)) = false := by simp [hyl]
    have d2 : decide (((y.old.length : Nat) : Int) < ((m.old.length : Nat) : Int)) = false := decide_eq_false (by omega)
    (repeat' (first | refine awp_seq ?_ | refine awp_block ?_ | refine awp_region (fun _ => hmix) ?_ | refine ARun.op rfl (by first | exact True.intro | exact rfl | (unfold inR; omega) | omega | (unfold inR; simp only [List.length_map, List.length_append, List.length_take, List.length_drop, List.length_replicate, List.length_cons, List.length_nil] at *; omega) | ((try unfold inR); simp only [decide_eq_true_eq, decide_eq_false_iff_not, beq_iff_eq, beq_eq_false_iff_ne, ne_eq, Bool.not_eq_true', Bool.not_eq_false', List.length_map, List.length_append, List.length_take, List.length_drop, List.length_replicate, List.length_cons, List.length_nil] at *; omega)) ?_ | refine ARun.indexAddr rfl rfl (by omega) (by first | with_reducible exact get_map hp | with_reducible exact get_map hp) rfl rfl rfl rfl rfl (guardF_spec rfl) ?_ | refine callX (c2) rfl rfl rfl rfl ?_ | refine callX (c3) rfl rfl rfl rfl ?_ | refine callX (c4) rfl rfl rfl rfl ?_ | (refine ARun.fin (by first | (intro h; cases h; done) | (intro _; kernel_rfl)) ?_; dsimp only [thenA, blockA, AS.bump, List.length_cons, List.length_nil, reduceIte, Nat.reduceEqDiff]) | (refine awp_skip ?_; dsimp only [thenA, blockA, AS.bump, List.length_cons, List.length_nil, reduceIte, Nat.reduceEqDiff]) | (refine awp_exit ?_; dsimp only [thenA, blockA, AS.bump, List.length_cons, List.length_nil, reduceIte, Nat.reduceEqDiff]) | refine awp_condT rfl (by first | rfl | assumption | exact beq_int _ | exact bne_int _) ?_ | refine awp_condF rfl (by first | rfl | assumption | exact beq_int _ | exact bne_int _) ?_ | ((fail_if_success refine ARun.plain rfl ?_); first | refine ARun.knowT rfl rfl rfl (by first | rfl | assumption | exact beq_int _ | exact bne_int _) ?_ | refine ARun.knowF rfl rfl rfl (by first | rfl | assumption | exact beq_int _ | exact bne_int _) ?_ | refine ARun.fork rfl rfl rfl (fun h => ?_) (fun h => ?_)) | refine awp_cond rfl (fun h => ?_) (fun h => ?_)))
    exact ⟨(i + 1, y, _, _), ⟨⟨succI i, rfl, rfl, rfl, rfl, rfl, trivial⟩, ⟨rfl, rfl, trivial⟩, Nat.le_refl _⟩, ⟨hlt, hs'⟩, (by dsimp only; omega)⟩
  · have hii : i = l.length := by omega
    subst hii
    have dl : decide (((l.length : Nat) : Int) < (((l.map encAc).length : Nat) : Int)) = false := by simp
    have hr := since_right hs hmay.2
    have c2 := back_c x (m.old.length : Nat) (by omega) (by omega) hr.1
    have c3 := back_c x (x.old.length : Nat) (by omega) (by omega) hr.1
    have c4 := mark_c x (by omega)
    rw [since_back hs] at c2
    rw [back_all] at c3
    simp only [enc2m] at c2 c3
    have s1 := ref_same_c m m (by omega) (by omega)
    have s2 := ref_same_c x x (by omega) (by omega)
    rw [sameM_refl] at s1 s2
    (repeat' (first | refine awp_seq ?_ | refine awp_block ?_ | refine awp_region (fun _ => hmix) ?_ | refine ARun.op rfl (by first | exact True.intro | exact rfl | (unfold inR; omega) | omega | (unfold inR; simp only [List.length_map, List.length_append, List.length_take, List.length_drop, List.length_replicate, List.length_cons, List.length_nil] at *; omega) | ((try unfold inR); simp only [decide_eq_true_eq, decide_eq_false_iff_not, beq_iff_eq, beq_eq_false_iff_ne, ne_eq, Bool.not_eq_true', Bool.not_eq_false', List.length_map, List.length_append, List.length_take, List.length_drop, List.length_replicate, List.length_cons, List.length_nil] at *; omega)) ?_ | refine callX (c2) rfl rfl rfl rfl ?_ | refine callX (c3) rfl rfl rfl rfl ?_ | refine callX (c4) rfl rfl rfl rfl ?_ | refine callX (s1) rfl rfl rfl rfl ?_ | refine callX (s2) rfl rfl rfl rfl ?_ | (refine ARun.fin (by first | (intro h; cases h; done) | (intro _; kernel_rfl)) ?_; dsimp only [thenA, blockA, AS.bump, List.length_cons, List.length_nil, reduceIte, Nat.reduceEqDiff]) | (refine awp_skip ?_; dsimp only [thenA, blockA, AS.bump, List.length_cons, List.length_nil, reduceIte, Nat.reduceEqDiff]) | (refine awp_exit ?_; dsimp only [thenA, blockA, AS.bump, List.length_cons, List.length_nil, reduceIte, Nat.reduceEqDiff]) | refine awp_condT rfl (by first | rfl | assumption | exact beq_int _ | exact bne_int _) ?_ | refine awp_condF rfl (by first | rfl | assumption | exact beq_int _ | exact bne_int _) ?_ | ((fail_if_success refine ARun.plain rfl ?_); first | refine ARun.knowT rfl rfl rfl (by first | rfl | assumption | exact beq_int _ | exact bne_int _) ?_ | refine ARun.knowF rfl rfl rfl (by first | rfl | assumption | exact beq_int _ | exact bne_int _) ?_ | refine ARun.fork rfl rfl rfl (fun h => ?_) (fun h => ?_)) | refine awp_cond rfl (fun h => ?_) (fun h => ?_)))
    (refine awp_ret ⟨_, ResL.cons (ResA.tmp (.val _)) .nil, congrArg (fun b => AV.val (.bool b)) ?_⟩; first | rfl | (symm; assumption) | exact (beq_int _).symm)
end Go.Proofs.Ytpdnbhimmfhaaaa
