/- mem: what writes leave; MemHolds returns true. -/
import Derived.Test.YtpdnbhimmfhaaaamR2
namespace Go.Proofs.Ytpdnbhimmfhaaaa
set_option linter.unusedVariables false
set_option linter.unusedSimpArgs false
open Go Go.RowKit
set_option maxRecDepth 100000
attribute [local irreducible] Decidable.decide awp ARun regK toK

theorem there_iff {len at' n : Int} : thereD len at' n = true ↔ (n = 0 ∨ (0 < n ∧ 0 ≤ at' ∧ at' ≤ len ∧ n ≤ len - at')) := by
  unfold thereD
  rw [decide_eq_true_eq]
theorem writeD_nil' (m : Mm) (at' : Int) : writeD m at' [] = (m, 0) := writeD_nil (there_iff.2 (.inl rfl)) rfl
theorem over_part {α : Type} {l b : List α} {a : Nat} (h : a + b.length ≤ l.length) : ((overL l a b).drop a).take b.length = b := by
  unfold overL
  rw [List.drop_append_of_le_length (by rw [List.length_take]; omega), List.drop_eq_nil_of_le (by rw [List.length_take]; omega), List.nil_append, List.take_left']
  rfl
/-- A write, told by its outcomes. -/
theorem write_out (m : Mm) (at' : Int) (b : List UInt8) : (thereD m.b.length at' b.length = false ∧ writeD m at' b = (m, -9)) ∨ (b = [] ∧ writeD m at' b = (m, 0)) ∨
    ∃ a : Nat, at' = (a : Int) ∧ b ≠ [] ∧ a + b.length ≤ m.b.length ∧ writeD m at' b = (⟨overL m.b a b, m.old ++ [(at', (m.b.drop a).take b.length)]⟩, 0) := by
  cases ht : thereD m.b.length at' b.length with
  | false => exact .inl ⟨rfl, writeD_no ht⟩
  | true =>
    by_cases hb : b = []
    · exact .inr (.inl ⟨hb, writeD_nil ht hb⟩)
    · have h4 := there_yes ht (by have := List.length_pos_iff.2 hb; omega)
      obtain ⟨a, rfl⟩ : ∃ a : Nat, at' = (a : Int) := ⟨at'.toNat, by omega⟩
      refine .inr (.inr ⟨a, rfl, hb, by omega, ?_⟩)
      rw [writeD_yes ht hb]
      unfold partD
      rw [Int.toNat_natCast, Int.toNat_natCast]
theorem fbyte_same (l : List UInt8) (old old' : List Pt) (a : Nat) (b : List UInt8) (o : Int) (h : a + b.length ≤ l.length) : (fbyteD ⟨l, old⟩ o).2 = (fbyteD ⟨overL l a b, old'⟩ o).2 ∧ (o < a ∨ (a : Int) + b.length ≤ o → (fbyteD ⟨l, old⟩ o).1 = (fbyteD ⟨overL l a b, old'⟩ o).1) := by
  have hl : (overL l a b).length = l.length := overL_length h
  unfold fbyteD
  dsimp only
  rw [hl]
  cases ht : thereD l.length o 1 with
  | false => exact ⟨rfl, fun _ => rfl⟩
  | true =>
    have h4 := there_yes ht (by omega)
    rw [if_neg (by simp), if_neg (by simp)]
    refine ⟨rfl, fun ho => ?_⟩
    dsimp only
    have : l.getD o.toNat 0 = (overL l a b).getD o.toNat 0 := by
      rw [List.getD_eq_getElem?_getD, List.getD_eq_getElem?_getD, overL_get h]
      by_cases h1 : o < a
      · rw [if_pos (by omega)]
      · rw [if_neg (by omega), if_neg (by omega)]
    rw [this]
theorem fetch_at {m : Mm} {at' : Nat} {n : Int} (hn : -9223372036854775808 ≤ n ∧ n ≤ 9223372036854775807) (h8 : cellAtD m (at' : Int) = 0) (hp : (m.b.drop at').take 8 = putB n) : fetchD m (at' : Int) = (n, 0) := by
  unfold fetchD
  rw [h8, if_neg (by simp)]
  have hp' : partD m.b (at' : Int) 8 = putB n := by
    unfold partD
    rw [Int.toNat_natCast]
    exact hp
  rw [hp', get_put n hn]
theorem store_out (m : Mm) (at' n : Int) (hn : -9223372036854775808 ≤ n ∧ n ≤ 9223372036854775807) : (storeD m at' n = (m, cellAtD m at') ∧ cellAtD m at' ≠ 0) ∨
    ∃ a : Nat, at' = (a : Int) ∧ a + 8 ≤ m.b.length ∧ storeD m at' n = (⟨overL m.b a (putB n), m.old ++ [(at', (m.b.drop a).take 8)]⟩, 0) ∧ fetchD ⟨overL m.b a (putB n), m.old ++ [(at', (m.b.drop a).take 8)]⟩ at' = (n, 0) := by
  by_cases h0 : cellAtD m at' = 0
  · right
    have h4 := (cellAt_there h0).1
    have h5 := there_yes h4 (by omega)
    obtain ⟨a, rfl⟩ : ∃ a : Nat, at' = (a : Int) := ⟨at'.toNat, by omega⟩
    have hf : a + (putB n).length ≤ m.b.length := by rw [putB_len]; omega
    refine ⟨a, rfl, by omega, ?_, ?_⟩
    · unfold storeD
      rw [if_neg (by simp [h0])]
      rcases write_out m a (putB n) with ⟨h, _⟩ | ⟨h, _⟩ | ⟨a', h1, h2, h3, h6⟩
      · rw [putB_len] at h
        rw [show ((8 : Nat) : Int) = 8 from rfl, h4] at h
        cases h
      · have := congrArg List.length h
        rw [putB_len] at this
        cases this
      · obtain rfl : a = a' := by omega
        rw [h6, putB_len]
    · refine fetch_at hn ?_ ?_
      · unfold cellAtD at h0 ⊢
        dsimp only
        rw [overL_length hf]
        exact h0
      · dsimp only
        have := over_part hf
        rw [putB_len] at this
        exact this
  · left
    exact ⟨if_pos h0, h0⟩
set_option maxHeartbeats 8000000 in
theorem holds_c (m : Mm) (at' n : Int) (b : List UInt8) (o : Int) (hn : -9223372036854775808 ≤ n ∧ n ≤ 9223372036854775807) : FnC Try.prog 4 [.agg [encBs m.b, .sl 2 false (m.old.map encP), .val (.int .i64 at'), .val (.int .i64 n), encBs b, .val (.int .i64 o)]] (.val (.bool true)) := by
  have c0 := shown_c
  have cm := ref_may_c m
  by_cases hmay : MayM m
  case neg =>
    rw [mayM_no hmay] at cm
    refine FnC.of_awp (T := tt) (ok := tok) Try.func4 (by kernel_rfl) rfl (by kernel_rfl) (closedL_cons (.agg (closedL_cons (closed_bs _) (closedL_cons (closed_map encP_closed) (closedL_cons (.val _) (closedL_cons (.val _) (closedL_cons (closed_bs _) (closedL_cons (.val _) closedL_nil))))))) closedL_nil) (fun w0 st0 => ?_)
    dsimp only [frOf]
    (repeat' (first | refine awp_seq ?_ | refine awp_block ?_ | refine awp_region (fun _ => hmix) ?_ | refine ARun.op rfl (by first | exact True.intro | exact rfl | (unfold inR; omega) | omega | (unfold inR; simp only [List.length_map, List.length_append, List.length_take, List.length_drop, List.length_replicate, List.length_cons, List.length_nil] at *; omega) | ((try unfold inR); simp only [decide_eq_true_eq, decide_eq_false_iff_not, beq_iff_eq, beq_eq_false_iff_ne, ne_eq, Bool.not_eq_true', Bool.not_eq_false', List.length_map, List.length_append, List.length_take, List.length_drop, List.length_replicate, List.length_cons, List.length_nil] at *; omega)) ?_ | refine callX (c0) rfl rfl rfl rfl ?_ | refine callX (cm) rfl rfl rfl rfl ?_ | (refine ARun.fin (by first | (intro h; cases h; done) | (intro _; kernel_rfl)) ?_; dsimp only [thenA, blockA, AS.bump, List.length_cons, List.length_nil, reduceIte, Nat.reduceEqDiff]) | (refine awp_skip ?_; dsimp only [thenA, blockA, AS.bump, List.length_cons, List.length_nil, reduceIte, Nat.reduceEqDiff]) | (refine awp_exit ?_; dsimp only [thenA, blockA, AS.bump, List.length_cons, List.length_nil, reduceIte, Nat.reduceEqDiff]) | refine awp_condT rfl (by first | rfl | assumption | exact beq_int _ | exact bne_int _) ?_ | refine awp_condF rfl (by first | rfl | assumption | exact beq_int _ | exact bne_int _) ?_ | ((fail_if_success refine ARun.plain rfl ?_); first | refine ARun.knowT rfl rfl rfl (by first | rfl | assumption | exact beq_int _ | exact bne_int _) ?_ | refine ARun.knowF rfl rfl rfl (by first | rfl | assumption | exact beq_int _ | exact bne_int _) ?_ | refine ARun.fork rfl rfl rfl (fun h => ?_) (fun h => ?_)) | refine awp_cond rfl (fun h => ?_) (fun h => ?_)))
    exact awp_ret ⟨_, ResL.cons (ResA.tmp (.val _)) .nil, rfl⟩
  rw [mayM_yes hmay] at cm
  have hlb : m.b.length ≤ 600 := by have := hmay.1.1; omega
  have hlo : m.old.length ≤ 60 := hmay.1.2.1
  by_cases hb : (200 : Int) < (((b.map encB).length : Nat) : Int)
  · have d : decide ((200 : Int) < (((b.map encB).length : Nat) : Int)) = true := decide_eq_true hb
    refine FnC.of_awp (T := tt) (ok := tok) Try.func4 (by kernel_rfl) rfl (by kernel_rfl) (closedL_cons (.agg (closedL_cons (closed_bs _) (closedL_cons (closed_map encP_closed) (closedL_cons (.val _) (closedL_cons (.val _) (closedL_cons (closed_bs _) (closedL_cons (.val _) closedL_nil))))))) closedL_nil) (fun w0 st0 => ?_)
    dsimp only [frOf]
    (repeat' (first | refine awp_seq ?_ | refine awp_block ?_ | refine awp_region (fun _ => hmix) ?_ | refine ARun.op rfl (by first | exact True.intro | exact rfl | (unfold inR; omega) | omega | (unfold inR; simp only [List.length_map, List.length_append, List.length_take, List.length_drop, List.length_replicate, List.length_cons, List.length_nil] at *; omega) | ((try unfold inR); simp only [decide_eq_true_eq, decide_eq_false_iff_not, beq_iff_eq, beq_eq_false_iff_ne, ne_eq, Bool.not_eq_true', Bool.not_eq_false', List.length_map, List.length_append, List.length_take, List.length_drop, List.length_replicate, List.length_cons, List.length_nil] at *; omega)) ?_ | refine callX (c0) rfl rfl rfl rfl ?_ | refine callX (cm) rfl rfl rfl rfl ?_ | (refine ARun.fin (by first | (intro h; cases h; done) | (intro _; kernel_rfl)) ?_; dsimp only [thenA, blockA, AS.bump, List.length_cons, List.length_nil, reduceIte, Nat.reduceEqDiff]) | (refine awp_skip ?_; dsimp only [thenA, blockA, AS.bump, List.length_cons, List.length_nil, reduceIte, Nat.reduceEqDiff]) | (refine awp_exit ?_; dsimp only [thenA, blockA, AS.bump, List.length_cons, List.length_nil, reduceIte, Nat.reduceEqDiff]) | refine awp_condT rfl (by first | rfl | assumption | exact beq_int _ | exact bne_int _) ?_ | refine awp_condF rfl (by first | rfl | assumption | exact beq_int _ | exact bne_int _) ?_ | ((fail_if_success refine ARun.plain rfl ?_); first | refine ARun.knowT rfl rfl rfl (by first | rfl | assumption | exact beq_int _ | exact bne_int _) ?_ | refine ARun.knowF rfl rfl rfl (by first | rfl | assumption | exact beq_int _ | exact bne_int _) ?_ | refine ARun.fork rfl rfl rfl (fun h => ?_) (fun h => ?_)) | refine awp_cond rfl (fun h => ?_) (fun h => ?_)))
    exact awp_ret ⟨_, ResL.cons (ResA.tmp (.val _)) .nil, rfl⟩
  have d : decide ((200 : Int) < (((b.map encB).length : Nat) : Int)) = false := decide_eq_false hb
  have elb : (((b.map encB).length : Nat) : Int) = b.length := by rw [List.length_map]
  rw [List.length_map] at hb
  have c1 := store_c m at' n (by omega) (by omega)
  have c2 := write_c m at' b (by omega) (by omega) (by omega)
  have c4 := fbyte_c m o (by omega)
  -- what is stored
  have E : ∃ (x : Mm) (e u v u' : Int), storeD m at' n = (x, e) ∧ fbyteD m o = (u, v) ∧ (((e == 0) = false ∧ x.b.length = m.b.length) ∨ ((e == 0) = true ∧ x.b.length = m.b.length ∧ 0 ≤ at' ∧ at' ≤ 600 ∧ fetchD x at' = (n, 0) ∧ fbyteD x o = (u', v) ∧ (o < at' ∨ at' + 8 ≤ o → u = u'))) := by
    rcases store_out m at' n hn with ⟨h1, h2⟩ | ⟨a, h1, h2, h3, h4⟩
    · exact ⟨m, _, _, _, 0, h1, rfl, .inl ⟨by simp [h2], rfl⟩⟩
    · have hf : a + (putB n).length ≤ m.b.length := by rw [putB_len]; omega
      obtain ⟨k1, k2⟩ := fbyte_same m.b m.old (m.old ++ [(at', (m.b.drop a).take 8)]) a (putB n) o hf
      refine ⟨_, 0, _, _, (fbyteD ⟨overL m.b a (putB n), m.old ++ [(at', (m.b.drop a).take 8)]⟩ o).1, h3, rfl, .inr ⟨by simp, overL_length hf, by omega, by omega, h4, ?_, fun ho => k2 (by rw [putB_len]; omega)⟩⟩
      show _ = (_, (fbyteD ⟨m.b, m.old⟩ o).2)
      rw [k1]
  have F : ∃ (y : Mm) (f w : Int), writeD m at' b = (y, f) ∧ ((f != 0) = true ∧ y = m ∨ ((f != 0) = false ∧ b = [] ∧ y = m) ∨ ((f != 0) = false ∧ b ≠ [] ∧ y.b.length = m.b.length ∧ 0 ≤ at' ∧ at' ≤ 600 ∧ textD y at' b.length = (b, 0) ∧ fbyteD y o = (w, (fbyteD m o).2) ∧ (o < at' ∨ at' + b.length ≤ o → (fbyteD m o).1 = w))) := by
    rcases write_out m at' b with ⟨h1, h2⟩ | ⟨h1, h2⟩ | ⟨a, h1, h2, h3, h4⟩
    · exact ⟨m, _, 0, h2, .inl ⟨by simp, rfl⟩⟩
    · exact ⟨m, _, 0, h2, .inr (.inl ⟨by simp, h1, rfl⟩)⟩
    · obtain ⟨k1, k2⟩ := fbyte_same m.b m.old (m.old ++ [(at', (m.b.drop a).take b.length)]) a b o h3
      refine ⟨_, 0, (fbyteD ⟨overL m.b a b, m.old ++ [(at', (m.b.drop a).take b.length)]⟩ o).1, h4, .inr (.inr ⟨by simp, h2, overL_length h3, by omega, by omega, ?_, ?_, fun ho => k2 (by omega)⟩)⟩
      · rw [textD_yes (by dsimp only; rw [overL_length h3]; exact there_iff.2 (.inr ⟨by have := List.length_pos_iff.2 h2; omega, by omega, by omega, by omega⟩))]
        unfold partD
        rw [h1, Int.toNat_natCast, Int.toNat_natCast, over_part h3]
      · show _ = (_, (fbyteD ⟨m.b, m.old⟩ o).2)
        rw [k1]
  obtain ⟨x, e, u, v, u', e1, e2, E⟩ := E
  obtain ⟨y, f, w, f1, F⟩ := F
  rw [e1] at c1
  rw [f1] at c2
  rw [e2] at c4 F
  dsimp only at F
  simp only [enc2m] at c1 c2
  have o1 : decide (o < at') = true ∨ decide (o < at') = false := Bool.eq_false_or_eq_true _
  have o2 : decide (at' + 8 ≤ o) = true ∨ decide (at' + 8 ≤ o) = false := Bool.eq_false_or_eq_true _
  have o3 : decide (at' ≤ o) = true ∨ decide (at' ≤ o) = false := Bool.eq_false_or_eq_true _
  have o4 : decide (o < at' + (((b.map encB).length : Nat) : Int)) = true ∨ decide (o < at' + (((b.map encB).length : Nat) : Int)) = false := Bool.eq_false_or_eq_true _
  have s1 := ref_same_c m m (by omega) (by omega)
  rw [sameM_refl] at s1
  have step : ∀ (g1 g2 g3 g4 : Int) (q1 : FnC Try.prog 22 [.agg (encM x), .val (.int .i64 at')] (.tup [.val (.int .i64 g1), .val (.int .i64 g2)])) (q2 : FnC Try.prog 23 [.agg (encM x), .val (.int .i64 o)] (.tup [.val (.int .i64 g3), .val (.int .i64 g4)])), ((e == 0) = false ∨ ((e == 0) = true ∧ 0 ≤ at' ∧ at' ≤ 600 ∧ g1 = n ∧ g2 = 0 ∧ g4 = v ∧ ((decide (o < at') = true ∧ u = g3) ∨ (decide (o < at') = false ∧ decide (at' + 8 ≤ o) = true ∧ u = g3) ∨ (decide (o < at') = false ∧ decide (at' + 8 ≤ o) = false)))) → FnC Try.prog 4 [.agg [encBs m.b, .sl 2 false (m.old.map encP), .val (.int .i64 at'), .val (.int .i64 n), encBs b, .val (.int .i64 o)]] (.val (.bool true)) := by
    intro g1 g2 g3 g4 q1 q2 hE
    rcases F with ⟨z1, rfl⟩ | ⟨z1, rfl, rfl⟩ | ⟨z1, hbn, yl, p1, p2, f3, f4, f5⟩
    · rcases hE with z0 | ⟨z0, r1, r2, rfl, rfl, rfl, ⟨z2, rfl⟩ | ⟨z2, z3, rfl⟩ | ⟨z2, z3⟩⟩
      all_goals
        refine FnC.of_awp (T := tt) (ok := tok) Try.func4 (by kernel_rfl) rfl (by kernel_rfl) (closedL_cons (.agg (closedL_cons (closed_bs _) (closedL_cons (closed_map encP_closed) (closedL_cons (.val _) (closedL_cons (.val _) (closedL_cons (closed_bs _) (closedL_cons (.val _) closedL_nil))))))) closedL_nil) (fun w0 st0 => ?_)
        dsimp only [frOf]
        (repeat' (first | refine awp_seq ?_ | refine awp_block ?_ | refine awp_region_ne 16 rfl (fun _ => hmix) ?_ | refine ARun.op rfl (by first | exact True.intro | exact rfl | (unfold inR; omega) | omega | (unfold inR; simp only [List.length_map, List.length_append, List.length_take, List.length_drop, List.length_replicate, List.length_cons, List.length_nil] at *; omega) | ((try unfold inR); simp only [decide_eq_true_eq, decide_eq_false_iff_not, beq_iff_eq, beq_eq_false_iff_ne, ne_eq, Bool.not_eq_true', Bool.not_eq_false', List.length_map, List.length_append, List.length_take, List.length_drop, List.length_replicate, List.length_cons, List.length_nil] at *; omega)) ?_ | refine callX (c0) rfl rfl rfl rfl ?_ | refine callX (cm) rfl rfl rfl rfl ?_ | refine callX (c1) rfl rfl rfl rfl ?_ | refine callX (c2) rfl rfl rfl rfl ?_ | refine callX (c4) rfl rfl rfl rfl ?_ | refine callX (q1) rfl rfl rfl rfl ?_ | refine callX (q2) rfl rfl rfl rfl ?_ | (refine ARun.fin (by first | (intro h; cases h; done) | (intro _; kernel_rfl)) ?_; dsimp only [thenA, blockA, AS.bump, List.length_cons, List.length_nil, reduceIte, Nat.reduceEqDiff]) | (refine awp_skip ?_; dsimp only [thenA, blockA, AS.bump, List.length_cons, List.length_nil, reduceIte, Nat.reduceEqDiff]) | (refine awp_exit ?_; dsimp only [thenA, blockA, AS.bump, List.length_cons, List.length_nil, reduceIte, Nat.reduceEqDiff]) | refine awp_condT rfl (by first | rfl | assumption | exact beq_int _ | exact bne_int _) ?_ | refine awp_condF rfl (by first | rfl | assumption | exact beq_int _ | exact bne_int _) ?_ | ((fail_if_success refine ARun.plain rfl ?_); first | refine ARun.knowT rfl rfl rfl (by first | rfl | assumption | exact beq_int _ | exact bne_int _) ?_ | refine ARun.knowF rfl rfl rfl (by first | rfl | assumption | exact beq_int _ | exact bne_int _) ?_ | refine ARun.fork rfl rfl rfl (fun h => ?_) (fun h => ?_)) | refine awp_cond rfl (fun h => ?_) (fun h => ?_)))
        (repeat' (first | refine awp_seq ?_ | refine awp_block ?_ | refine awp_region (fun _ => hmix) ?_ | refine ARun.op rfl (by first | exact True.intro | exact rfl | (unfold inR; omega) | omega | (unfold inR; simp only [List.length_map, List.length_append, List.length_take, List.length_drop, List.length_replicate, List.length_cons, List.length_nil] at *; omega) | ((try unfold inR); simp only [decide_eq_true_eq, decide_eq_false_iff_not, beq_iff_eq, beq_eq_false_iff_ne, ne_eq, Bool.not_eq_true', Bool.not_eq_false', List.length_map, List.length_append, List.length_take, List.length_drop, List.length_replicate, List.length_cons, List.length_nil] at *; omega)) ?_ | refine callX (s1) rfl rfl rfl rfl ?_ | (refine ARun.fin (by first | (intro h; cases h; done) | (intro _; kernel_rfl)) ?_; dsimp only [thenA, blockA, AS.bump, List.length_cons, List.length_nil, reduceIte, Nat.reduceEqDiff]) | (refine awp_skip ?_; dsimp only [thenA, blockA, AS.bump, List.length_cons, List.length_nil, reduceIte, Nat.reduceEqDiff]) | (refine awp_exit ?_; dsimp only [thenA, blockA, AS.bump, List.length_cons, List.length_nil, reduceIte, Nat.reduceEqDiff]) | refine awp_condT rfl (by first | rfl | assumption | exact beq_int _ | exact bne_int _) ?_ | refine awp_condF rfl (by first | rfl | assumption | exact beq_int _ | exact bne_int _) ?_ | ((fail_if_success refine ARun.plain rfl ?_); first | refine ARun.knowT rfl rfl rfl (by first | rfl | assumption | exact beq_int _ | exact bne_int _) ?_ | refine ARun.knowF rfl rfl rfl (by first | rfl | assumption | exact beq_int _ | exact bne_int _) ?_ | refine ARun.fork rfl rfl rfl (fun h => ?_) (fun h => ?_)) | refine awp_cond rfl (fun h => ?_) (fun h => ?_)))
        (refine awp_ret ⟨_, ResL.cons (ResA.tmp (.val _)) .nil, congrArg (fun b => AV.val (.bool b)) ?_⟩; first | rfl | (symm; assumption) | exact (beq_int _).symm)
    · have z4 : ((((([] : List UInt8).map encB).length : Nat) : Int) == 0) = true := by simp
      rcases hE with z0 | ⟨z0, r1, r2, rfl, rfl, rfl, ⟨z2, rfl⟩ | ⟨z2, z3, rfl⟩ | ⟨z2, z3⟩⟩
      all_goals
        refine FnC.of_awp (T := tt) (ok := tok) Try.func4 (by kernel_rfl) rfl (by kernel_rfl) (closedL_cons (.agg (closedL_cons (closed_bs _) (closedL_cons (closed_map encP_closed) (closedL_cons (.val _) (closedL_cons (.val _) (closedL_cons (closed_bs _) (closedL_cons (.val _) closedL_nil))))))) closedL_nil) (fun w0 st0 => ?_)
        dsimp only [frOf]
        (repeat' (first | refine awp_seq ?_ | refine awp_block ?_ | refine awp_region_ne 16 rfl (fun _ => hmix) ?_ | refine ARun.op rfl (by first | exact True.intro | exact rfl | (unfold inR; omega) | omega | (unfold inR; simp only [List.length_map, List.length_append, List.length_take, List.length_drop, List.length_replicate, List.length_cons, List.length_nil] at *; omega) | ((try unfold inR); simp only [decide_eq_true_eq, decide_eq_false_iff_not, beq_iff_eq, beq_eq_false_iff_ne, ne_eq, Bool.not_eq_true', Bool.not_eq_false', List.length_map, List.length_append, List.length_take, List.length_drop, List.length_replicate, List.length_cons, List.length_nil] at *; omega)) ?_ | refine callX (c0) rfl rfl rfl rfl ?_ | refine callX (cm) rfl rfl rfl rfl ?_ | refine callX (c1) rfl rfl rfl rfl ?_ | refine callX (c2) rfl rfl rfl rfl ?_ | refine callX (c4) rfl rfl rfl rfl ?_ | refine callX (q1) rfl rfl rfl rfl ?_ | refine callX (q2) rfl rfl rfl rfl ?_ | (refine ARun.fin (by first | (intro h; cases h; done) | (intro _; kernel_rfl)) ?_; dsimp only [thenA, blockA, AS.bump, List.length_cons, List.length_nil, reduceIte, Nat.reduceEqDiff]) | (refine awp_skip ?_; dsimp only [thenA, blockA, AS.bump, List.length_cons, List.length_nil, reduceIte, Nat.reduceEqDiff]) | (refine awp_exit ?_; dsimp only [thenA, blockA, AS.bump, List.length_cons, List.length_nil, reduceIte, Nat.reduceEqDiff]) | refine awp_condT rfl (by first | rfl | assumption | exact beq_int _ | exact bne_int _) ?_ | refine awp_condF rfl (by first | rfl | assumption | exact beq_int _ | exact bne_int _) ?_ | ((fail_if_success refine ARun.plain rfl ?_); first | refine ARun.knowT rfl rfl rfl (by first | rfl | assumption | exact beq_int _ | exact bne_int _) ?_ | refine ARun.knowF rfl rfl rfl (by first | rfl | assumption | exact beq_int _ | exact bne_int _) ?_ | refine ARun.fork rfl rfl rfl (fun h => ?_) (fun h => ?_)) | refine awp_cond rfl (fun h => ?_) (fun h => ?_)))
        (repeat' (first | refine awp_seq ?_ | refine awp_block ?_ | refine awp_region (fun _ => hmix) ?_ | refine ARun.op rfl (by first | exact True.intro | exact rfl | (unfold inR; omega) | omega | (unfold inR; simp only [List.length_map, List.length_append, List.length_take, List.length_drop, List.length_replicate, List.length_cons, List.length_nil] at *; omega) | ((try unfold inR); simp only [decide_eq_true_eq, decide_eq_false_iff_not, beq_iff_eq, beq_eq_false_iff_ne, ne_eq, Bool.not_eq_true', Bool.not_eq_false', List.length_map, List.length_append, List.length_take, List.length_drop, List.length_replicate, List.length_cons, List.length_nil] at *; omega)) ?_ | refine callX (s1) rfl rfl rfl rfl ?_ | (refine ARun.fin (by first | (intro h; cases h; done) | (intro _; kernel_rfl)) ?_; dsimp only [thenA, blockA, AS.bump, List.length_cons, List.length_nil, reduceIte, Nat.reduceEqDiff]) | (refine awp_skip ?_; dsimp only [thenA, blockA, AS.bump, List.length_cons, List.length_nil, reduceIte, Nat.reduceEqDiff]) | (refine awp_exit ?_; dsimp only [thenA, blockA, AS.bump, List.length_cons, List.length_nil, reduceIte, Nat.reduceEqDiff]) | refine awp_condT rfl (by first | rfl | assumption | exact beq_int _ | exact bne_int _) ?_ | refine awp_condF rfl (by first | rfl | assumption | exact beq_int _ | exact bne_int _) ?_ | ((fail_if_success refine ARun.plain rfl ?_); first | refine ARun.knowT rfl rfl rfl (by first | rfl | assumption | exact beq_int _ | exact bne_int _) ?_ | refine ARun.knowF rfl rfl rfl (by first | rfl | assumption | exact beq_int _ | exact bne_int _) ?_ | refine ARun.fork rfl rfl rfl (fun h => ?_) (fun h => ?_)) | refine awp_cond rfl (fun h => ?_) (fun h => ?_)))
        (refine awp_ret ⟨_, ResL.cons (ResA.tmp (.val _)) .nil, congrArg (fun b => AV.val (.bool b)) ?_⟩; first | rfl | (symm; assumption) | exact (beq_int _).symm)
    · have z4 : ((((b.map encB).length : Nat) : Int) == 0) = false := by simp [hbn]
      have c7 := text_c y at' (((b.map encB).length : Nat) : Int) (by omega)
      have c8 := fbyte_c y o (by omega)
      rw [elb, f3] at c7
      rw [← elb] at c7
      rw [f4] at c8
      dsimp only at c7 c8
      have e7 : ((ByteArray.mk b.toArray).toList == (ByteArray.mk b.toArray).toList) = true := by rw [bs_eq]; exact decide_eq_true rfl
      have f6 : (decide (at' ≤ o) = true ∧ decide (o < at' + (((b.map encB).length : Nat) : Int)) = true) ∨ ((decide (at' ≤ o) = false ∨ (decide (at' ≤ o) = true ∧ decide (o < at' + (((b.map encB).length : Nat) : Int)) = false)) ∧ u = w) := by
        rcases o3 with o3 | o3
        · rcases o4 with o4 | o4
          · exact .inl ⟨o3, o4⟩
          · exact .inr ⟨.inr ⟨o3, o4⟩, f5 (by have := of_decide_eq_false o4; omega)⟩
        · exact .inr ⟨.inl o3, f5 (by have := of_decide_eq_false o3; omega)⟩
      clear o1 o2 o3 o4
      rcases hE with z0 | ⟨z0, r1, r2, rfl, rfl, rfl, ⟨z2, rfl⟩ | ⟨z2, z3, rfl⟩ | ⟨z2, z3⟩⟩
      all_goals
        rcases f6 with ⟨z5, z6⟩ | ⟨z5 | ⟨z5, z6⟩, rfl⟩
        all_goals
          refine FnC.of_awp (T := tt) (ok := tok) Try.func4 (by kernel_rfl) rfl (by kernel_rfl) (closedL_cons (.agg (closedL_cons (closed_bs _) (closedL_cons (closed_map encP_closed) (closedL_cons (.val _) (closedL_cons (.val _) (closedL_cons (closed_bs _) (closedL_cons (.val _) closedL_nil))))))) closedL_nil) (fun w0 st0 => ?_)
          dsimp only [frOf]
          (repeat' (first | refine awp_seq ?_ | refine awp_block ?_ | refine awp_region_ne 16 rfl (fun _ => hmix) ?_ | refine ARun.op rfl (by first | exact True.intro | exact rfl | (unfold inR; omega) | omega | (unfold inR; simp only [List.length_map, List.length_append, List.length_take, List.length_drop, List.length_replicate, List.length_cons, List.length_nil] at *; omega) | ((try unfold inR); simp only [decide_eq_true_eq, decide_eq_false_iff_not, beq_iff_eq, beq_eq_false_iff_ne, ne_eq, Bool.not_eq_true', Bool.not_eq_false', List.length_map, List.length_append, List.length_take, List.length_drop, List.length_replicate, List.length_cons, List.length_nil] at *; omega)) ?_ | refine callX (c0) rfl rfl rfl rfl ?_ | refine callX (cm) rfl rfl rfl rfl ?_ | refine callX (c1) rfl rfl rfl rfl ?_ | refine callX (c2) rfl rfl rfl rfl ?_ | refine callX (c4) rfl rfl rfl rfl ?_ | refine callX (q1) rfl rfl rfl rfl ?_ | refine callX (q2) rfl rfl rfl rfl ?_ | (refine ARun.fin (by first | (intro h; cases h; done) | (intro _; kernel_rfl)) ?_; dsimp only [thenA, blockA, AS.bump, List.length_cons, List.length_nil, reduceIte, Nat.reduceEqDiff]) | (refine awp_skip ?_; dsimp only [thenA, blockA, AS.bump, List.length_cons, List.length_nil, reduceIte, Nat.reduceEqDiff]) | (refine awp_exit ?_; dsimp only [thenA, blockA, AS.bump, List.length_cons, List.length_nil, reduceIte, Nat.reduceEqDiff]) | refine awp_condT rfl (by first | rfl | assumption | exact beq_int _ | exact bne_int _) ?_ | refine awp_condF rfl (by first | rfl | assumption | exact beq_int _ | exact bne_int _) ?_ | ((fail_if_success refine ARun.plain rfl ?_); first | refine ARun.knowT rfl rfl rfl (by first | rfl | assumption | exact beq_int _ | exact bne_int _) ?_ | refine ARun.knowF rfl rfl rfl (by first | rfl | assumption | exact beq_int _ | exact bne_int _) ?_ | refine ARun.fork rfl rfl rfl (fun h => ?_) (fun h => ?_)) | refine awp_cond rfl (fun h => ?_) (fun h => ?_)))
          (repeat' (first | refine awp_seq ?_ | refine awp_block ?_ | refine awp_region (fun _ => hmix) ?_ | refine ARun.op rfl (by first | exact True.intro | exact rfl | (unfold inR; omega) | omega | (unfold inR; simp only [List.length_map, List.length_append, List.length_take, List.length_drop, List.length_replicate, List.length_cons, List.length_nil] at *; omega) | ((try unfold inR); simp only [decide_eq_true_eq, decide_eq_false_iff_not, beq_iff_eq, beq_eq_false_iff_ne, ne_eq, Bool.not_eq_true', Bool.not_eq_false', List.length_map, List.length_append, List.length_take, List.length_drop, List.length_replicate, List.length_cons, List.length_nil] at *; omega)) ?_ | refine callX (c4) rfl rfl rfl rfl ?_ | refine callX (c7) rfl rfl rfl rfl ?_ | refine callX (c8) rfl rfl rfl rfl ?_ | refine ARun.bytesStr (by first | exact SrcA.sl rfl (.inr rfl) | exact SrcA.sl rfl (.inl rfl) | exact SrcA.ownW rfl rfl rfl rfl) rfl rfl rfl rfl rfl rfl rfl rfl (guardF_spec rfl) ?_ | (refine ARun.fin (by first | (intro h; cases h; done) | (intro _; kernel_rfl)) ?_; dsimp only [thenA, blockA, AS.bump, List.length_cons, List.length_nil, reduceIte, Nat.reduceEqDiff]) | (refine awp_skip ?_; dsimp only [thenA, blockA, AS.bump, List.length_cons, List.length_nil, reduceIte, Nat.reduceEqDiff]) | (refine awp_exit ?_; dsimp only [thenA, blockA, AS.bump, List.length_cons, List.length_nil, reduceIte, Nat.reduceEqDiff]) | refine awp_condT rfl (by first | rfl | assumption | exact beq_int _ | exact bne_int _) ?_ | refine awp_condF rfl (by first | rfl | assumption | exact beq_int _ | exact bne_int _) ?_ | ((fail_if_success refine ARun.plain rfl ?_); first | refine ARun.knowT rfl rfl rfl (by first | rfl | assumption | exact beq_int _ | exact bne_int _) ?_ | refine ARun.knowF rfl rfl rfl (by first | rfl | assumption | exact beq_int _ | exact bne_int _) ?_ | refine ARun.fork rfl rfl rfl (fun h => ?_) (fun h => ?_)) | refine awp_cond rfl (fun h => ?_) (fun h => ?_)))
          (refine awp_ret ⟨_, ResL.cons (ResA.tmp (.val _)) .nil, congrArg (fun b => AV.val (.bool b)) ?_⟩; first | rfl | (symm; assumption) | exact (beq_int _).symm)
  rcases E with ⟨z0, xl⟩ | ⟨z0, xl, p1, p2, e3, e4, e5⟩
  · exact step _ _ _ _ (fetch_c x at' (by omega)) (fbyte_c x o (by omega)) (.inl z0)
  · have c5 := fetch_c x at' (by omega)
    have c6 := fbyte_c x o (by omega)
    rw [e3] at c5
    rw [e4] at c6
    refine step _ _ _ _ c5 c6 (.inr ⟨z0, p1, p2, rfl, rfl, rfl, ?_⟩)
    rcases o1 with o1 | o1
    · exact .inl ⟨o1, e5 (.inl (of_decide_eq_true o1))⟩
    · rcases o2 with o2 | o2
      · exact .inr (.inl ⟨o1, o2, e5 (.inr (of_decide_eq_true o2))⟩)
      · exact .inr (.inr ⟨o1, o2⟩)
end Go.Proofs.Ytpdnbhimmfhaaaa
