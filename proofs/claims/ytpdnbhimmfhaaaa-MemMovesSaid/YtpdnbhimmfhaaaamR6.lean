/- mem: MemMoves returns true. -/
import Derived.Test.YtpdnbhimmfhaaaamR5
namespace Go.Proofs.Ytpdnbhimmfhaaaa
set_option linter.unusedVariables false
set_option linter.unusedSimpArgs false
open Go Go.RowKit
set_option maxRecDepth 100000
attribute [local irreducible] Decidable.decide awp ARun regK toK

theorem there_nat {l a k : Nat} (h : a + k ≤ l) : thereD l a k = true := there_iff.2 (by omega)
theorem text_at {m : Mm} {a k : Nat} (h : a + k ≤ m.b.length) : textD m a k = ((m.b.drop a).take k, 0) := by
  rw [textD_yes (there_nat h)]
  rfl
theorem write_at {m : Mm} {a : Nat} {b : List UInt8} (h : a + b.length ≤ m.b.length) : ∃ x : Mm, writeD m a b = (x, 0) ∧ x.b = overL m.b a b ∧ x.old.length ≤ m.old.length + 1 := by
  have hl := writeD_len m a b
  rcases write_out m a b with ⟨h1, _⟩ | ⟨h1, h2⟩ | ⟨a', h1, h2, h3, h4⟩
  · rw [there_nat h] at h1; cases h1
  · rw [h1, overL_nil]
    rw [h1] at h2
    exact ⟨m, h2, rfl, Nat.le_succ _⟩
  · obtain rfl : a = a' := by omega
    rw [h4] at hl ⊢
    exact ⟨_, rfl, rfl, hl⟩
theorem move_at {m : Mm} {a b k : Nat} (h : a + k ≤ m.b.length) (h' : b + k ≤ m.b.length) : ∃ x : Mm, moveD m a b k = (x, 0) ∧ x.b.length = m.b.length ∧ textD x b k = ((m.b.drop a).take k, 0) ∧ x.old.length ≤ m.old.length + 1 := by
  have hk : ((m.b.drop a).take k).length = k := by rw [List.length_take, List.length_drop]; omega
  obtain ⟨x, h1, h2, h3⟩ := write_at (m := m) (a := b) (b := (m.b.drop a).take k) (by omega)
  have hl : x.b.length = m.b.length := by rw [h2, overL_length (by omega)]
  refine ⟨x, ?_, hl, ?_, h3⟩
  · unfold moveD
    rw [text_at h, if_neg (by simp), h1]
  · rw [text_at (by omega), h2]
    have := over_part (l := m.b) (b := (m.b.drop a).take k) (a := b) (by omega)
    rw [hk] at this
    rw [this]
theorem fill_at {m : Mm} {a k : Nat} (c : Int) (h : a + k ≤ m.b.length) : ∃ x : Mm, fillD m a k c = (x, 0) ∧ x.b.length = m.b.length ∧ textD x a k = (List.replicate k (byteOf c), 0) ∧ x.old.length ≤ m.old.length + 1 := by
  have hk : (List.replicate k (byteOf c)).length = k := List.length_replicate
  obtain ⟨x, h1, h2, h3⟩ := write_at (m := m) (a := a) (b := List.replicate k (byteOf c)) (by omega)
  have hl : x.b.length = m.b.length := by rw [h2, overL_length (by omega)]
  refine ⟨x, ?_, hl, ?_, h3⟩
  · unfold fillD
    rw [there_nat h, if_neg (by simp), Int.toNat_natCast, h1]
  · rw [text_at (by omega), h2]
    have := over_part (l := m.b) (b := List.replicate k (byteOf c)) (a := a) (by omega)
    rw [hk] at this
    rw [this]
set_option maxHeartbeats 8000000 in
theorem moves_c (m : Mm) (frm to n c : Int) (h1 : 0 ≤ frm ∧ frm ≤ 65535) (h2 : 0 ≤ to ∧ to ≤ 65535) (h3 : 0 ≤ n ∧ n ≤ 255) : FnC Try.prog 9 [.agg [encBs m.b, .sl 2 false (m.old.map encP), .val (.int .u16 frm), .val (.int .u16 to), .val (.int .u8 n), .val (.int .i64 c)]] (.val (.bool true)) := by
  have c0 := shown_c
  have cm := ref_may_c m
  by_cases hmay : MayM m
  case neg =>
    rw [mayM_no hmay] at cm
    refine FnC.of_awp (T := tt) (ok := tok) Try.func9 (by kernel_rfl) rfl (by kernel_rfl) (closedL_cons (.agg (closedL_cons (closed_bs _) (closedL_cons (closed_map encP_closed) (closedL_cons (.val _) (closedL_cons (.val _) (closedL_cons (.val _) (closedL_cons (.val _) closedL_nil))))))) closedL_nil) (fun w0 st0 => ?_)
    dsimp only [frOf]
    (repeat' (first | refine awp_seq ?_ | refine awp_block ?_ | refine awp_region (fun _ => hmix) ?_ | refine ARun.op rfl (by first | exact True.intro | exact rfl | (unfold inR; omega) | omega | (unfold inR; simp only [List.length_map, List.length_append, List.length_take, List.length_drop, List.length_replicate, List.length_cons, List.length_nil] at *; omega) | ((try unfold inR); simp only [decide_eq_true_eq, decide_eq_false_iff_not, beq_iff_eq, beq_eq_false_iff_ne, ne_eq, Bool.not_eq_true', Bool.not_eq_false', List.length_map, List.length_append, List.length_take, List.length_drop, List.length_replicate, List.length_cons, List.length_nil] at *; omega)) ?_ | refine callX (c0) rfl rfl rfl rfl ?_ | refine callX (cm) rfl rfl rfl rfl ?_ | (refine ARun.fin (by first | (intro h; cases h; done) | (intro _; kernel_rfl)) ?_; dsimp only [thenA, blockA, AS.bump, List.length_cons, List.length_nil, reduceIte, Nat.reduceEqDiff]) | (refine awp_skip ?_; dsimp only [thenA, blockA, AS.bump, List.length_cons, List.length_nil, reduceIte, Nat.reduceEqDiff]) | (refine awp_exit ?_; dsimp only [thenA, blockA, AS.bump, List.length_cons, List.length_nil, reduceIte, Nat.reduceEqDiff]) | refine awp_condT rfl (by first | rfl | assumption | exact beq_int _ | exact bne_int _) ?_ | refine awp_condF rfl (by first | rfl | assumption | exact beq_int _ | exact bne_int _) ?_ | ((fail_if_success refine ARun.plain rfl ?_); first | refine ARun.knowT rfl rfl rfl (by first | rfl | assumption | exact beq_int _ | exact bne_int _) ?_ | refine ARun.knowF rfl rfl rfl (by first | rfl | assumption | exact beq_int _ | exact bne_int _) ?_ | refine ARun.fork rfl rfl rfl (fun h => ?_) (fun h => ?_)) | refine awp_cond rfl (fun h => ?_) (fun h => ?_)))
    exact awp_ret ⟨_, ResL.cons (ResA.tmp (.val _)) .nil, rfl⟩
  rw [mayM_yes hmay] at cm
  have hlb : m.b.length ≤ 600 := by have := hmay.1.1; omega
  have hlo : m.old.length ≤ 60 := hmay.1.2.1
  have el : (((m.b.map encB).length : Nat) : Int) = m.b.length := by rw [List.length_map]
  by_cases h8 : (((m.b.map encB).length : Nat) : Int) < 8
  · have d : decide ((((m.b.map encB).length : Nat) : Int) < 8) = true := decide_eq_true h8
    refine FnC.of_awp (T := tt) (ok := tok) Try.func9 (by kernel_rfl) rfl (by kernel_rfl) (closedL_cons (.agg (closedL_cons (closed_bs _) (closedL_cons (closed_map encP_closed) (closedL_cons (.val _) (closedL_cons (.val _) (closedL_cons (.val _) (closedL_cons (.val _) closedL_nil))))))) closedL_nil) (fun w0 st0 => ?_)
    dsimp only [frOf]
    (repeat' (first | refine awp_seq ?_ | refine awp_block ?_ | refine awp_region (fun _ => hmix) ?_ | refine ARun.op rfl (by first | exact True.intro | exact rfl | (unfold inR; omega) | omega | (unfold inR; simp only [List.length_map, List.length_append, List.length_take, List.length_drop, List.length_replicate, List.length_cons, List.length_nil] at *; omega) | ((try unfold inR); simp only [decide_eq_true_eq, decide_eq_false_iff_not, beq_iff_eq, beq_eq_false_iff_ne, ne_eq, Bool.not_eq_true', Bool.not_eq_false', List.length_map, List.length_append, List.length_take, List.length_drop, List.length_replicate, List.length_cons, List.length_nil] at *; omega)) ?_ | refine callX (c0) rfl rfl rfl rfl ?_ | refine callX (cm) rfl rfl rfl rfl ?_ | (refine ARun.fin (by first | (intro h; cases h; done) | (intro _; kernel_rfl)) ?_; dsimp only [thenA, blockA, AS.bump, List.length_cons, List.length_nil, reduceIte, Nat.reduceEqDiff]) | (refine awp_skip ?_; dsimp only [thenA, blockA, AS.bump, List.length_cons, List.length_nil, reduceIte, Nat.reduceEqDiff]) | (refine awp_exit ?_; dsimp only [thenA, blockA, AS.bump, List.length_cons, List.length_nil, reduceIte, Nat.reduceEqDiff]) | refine awp_condT rfl (by first | rfl | assumption | exact beq_int _ | exact bne_int _) ?_ | refine awp_condF rfl (by first | rfl | assumption | exact beq_int _ | exact bne_int _) ?_ | ((fail_if_success refine ARun.plain rfl ?_); first | refine ARun.knowT rfl rfl rfl (by first | rfl | assumption | exact beq_int _ | exact bne_int _) ?_ | refine ARun.knowF rfl rfl rfl (by first | rfl | assumption | exact beq_int _ | exact bne_int _) ?_ | refine ARun.fork rfl rfl rfl (fun h => ?_) (fun h => ?_)) | refine awp_cond rfl (fun h => ?_) (fun h => ?_)))
    exact awp_ret ⟨_, ResL.cons (ResA.tmp (.val _)) .nil, rfl⟩
  have d : decide ((((m.b.map encB).length : Nat) : Int) < 8) = false := decide_eq_false h8
  have hW : (IntKind.i64.wrap ((((m.b.map encB).length : Nat) : Int).tdiv 2)) = ((m.b.length / 2 : Nat) : Int) := by
    rw [el, Int.tdiv_eq_ediv_of_nonneg (by omega)]
    exact (IntWalk.i64_in _ (by omega)).trans (by omega)
  have hW0 : (IntKind.i64.wrap ((((m.b.map encB).length : Nat) : Int).tdiv 2)) ≠ 0 := by omega
  have hK0 : n.tmod (IntKind.i64.wrap ((((m.b.map encB).length : Nat) : Int).tdiv 2)) = n % ((m.b.length / 2 : Nat) : Int) := by rw [hW]; exact Int.tmod_eq_emod_of_nonneg h3.1
  obtain ⟨k, hk, hkl⟩ : ∃ k : Nat, (n.tmod (IntKind.i64.wrap ((((m.b.map encB).length : Nat) : Int).tdiv 2))) = (k : Int) ∧ k < m.b.length / 2 := by
    have := Int.emod_nonneg n (b := ((m.b.length / 2 : Nat) : Int)) (by omega)
    have := Int.emod_lt_of_pos n (b := ((m.b.length / 2 : Nat) : Int)) (by omega)
    exact ⟨(n % ((m.b.length / 2 : Nat) : Int)).toNat, by rw [hK0]; omega, by omega⟩
  have hD0 : (((m.b.map encB).length : Nat) : Int) - (n.tmod (IntKind.i64.wrap ((((m.b.map encB).length : Nat) : Int).tdiv 2))) ≠ 0 := by omega
  have hDp : 0 < (((m.b.map encB).length : Nat) : Int) - (n.tmod (IntKind.i64.wrap ((((m.b.map encB).length : Nat) : Int).tdiv 2))) := by omega
  obtain ⟨a, ha, hal⟩ : ∃ a : Nat, (frm.tmod ((((m.b.map encB).length : Nat) : Int) - (n.tmod (IntKind.i64.wrap ((((m.b.map encB).length : Nat) : Int).tdiv 2))))) = (a : Int) ∧ a + k < m.b.length := by
    have e : (frm.tmod ((((m.b.map encB).length : Nat) : Int) - (n.tmod (IntKind.i64.wrap ((((m.b.map encB).length : Nat) : Int).tdiv 2))))) = frm % ((((m.b.map encB).length : Nat) : Int) - (n.tmod (IntKind.i64.wrap ((((m.b.map encB).length : Nat) : Int).tdiv 2)))) := Int.tmod_eq_emod_of_nonneg h1.1
    have := Int.emod_nonneg frm (b := (((m.b.map encB).length : Nat) : Int) - (n.tmod (IntKind.i64.wrap ((((m.b.map encB).length : Nat) : Int).tdiv 2)))) (by omega)
    have := Int.emod_lt_of_pos frm (b := (((m.b.map encB).length : Nat) : Int) - (n.tmod (IntKind.i64.wrap ((((m.b.map encB).length : Nat) : Int).tdiv 2)))) (by omega)
    exact ⟨(frm % ((((m.b.map encB).length : Nat) : Int) - (n.tmod (IntKind.i64.wrap ((((m.b.map encB).length : Nat) : Int).tdiv 2))))).toNat, by rw [e]; omega, by omega⟩
  obtain ⟨b, hb, hbl⟩ : ∃ b : Nat, (to.tmod ((((m.b.map encB).length : Nat) : Int) - (n.tmod (IntKind.i64.wrap ((((m.b.map encB).length : Nat) : Int).tdiv 2))))) = (b : Int) ∧ b + k < m.b.length := by
    have e : (to.tmod ((((m.b.map encB).length : Nat) : Int) - (n.tmod (IntKind.i64.wrap ((((m.b.map encB).length : Nat) : Int).tdiv 2))))) = to % ((((m.b.map encB).length : Nat) : Int) - (n.tmod (IntKind.i64.wrap ((((m.b.map encB).length : Nat) : Int).tdiv 2)))) := Int.tmod_eq_emod_of_nonneg h2.1
    have := Int.emod_nonneg to (b := (((m.b.map encB).length : Nat) : Int) - (n.tmod (IntKind.i64.wrap ((((m.b.map encB).length : Nat) : Int).tdiv 2)))) (by omega)
    have := Int.emod_lt_of_pos to (b := (((m.b.map encB).length : Nat) : Int) - (n.tmod (IntKind.i64.wrap ((((m.b.map encB).length : Nat) : Int).tdiv 2)))) (by omega)
    exact ⟨(to % ((((m.b.map encB).length : Nat) : Int) - (n.tmod (IntKind.i64.wrap ((((m.b.map encB).length : Nat) : Int).tdiv 2))))).toNat, by rw [e]; omega, by omega⟩
  obtain ⟨x, x1, x2, x3, x4⟩ := move_at (m := m) (a := a) (b := b) (k := k) (by omega) (by omega)
  obtain ⟨y, y1, y2, y3, y4⟩ := fill_at (m := m) (a := a) (k := k) c (by omega)
  have c1 := move_c m a b k (by omega) (by omega)
  have c2 := text_c m a k (by omega)
  have c3 := text_c x b k (by omega)
  have c4 := fill_c m a k c (by omega) (by omega)
  have c5 := text_c y a k (by omega)
  rw [x1] at c1
  rw [text_at (by omega)] at c2
  rw [x3] at c3
  rw [y1] at c4
  rw [y3] at c5
  simp only [enc2m] at c1 c2 c3 c4 c5
  generalize (m.b.drop a).take k = s at c2 c3
  rw [← ha, ← hk] at c2 c4 c5
  rw [← hb, ← hk] at c3
  rw [← ha, ← hb, ← hk] at c1
  have e1 : (!((ByteArray.mk s.toArray).toList == (ByteArray.mk s.toArray).toList)) = false := by rw [bs_eq, decide_eq_true rfl]; rfl
  have e2 : ((((List.replicate k (byteOf c)).map encB).length : Nat) : Int) = (n.tmod (IntKind.i64.wrap ((((m.b.map encB).length : Nat) : Int).tdiv 2))) := by rw [hk]; simp
  have e3 : (((((List.replicate k (byteOf c)).map encB).length : Nat) : Int) != (n.tmod (IntKind.i64.wrap ((((m.b.map encB).length : Nat) : Int).tdiv 2)))) = false := by rw [e2]; exact bne_int _
  refine FnC.of_awp (T := tt) (ok := tok) Try.func9 (by kernel_rfl) rfl (by kernel_rfl) (closedL_cons (.agg (closedL_cons (closed_bs _) (closedL_cons (closed_map encP_closed) (closedL_cons (.val _) (closedL_cons (.val _) (closedL_cons (.val _) (closedL_cons (.val _) closedL_nil))))))) closedL_nil) (fun w0 st0 => ?_)
  dsimp only [frOf]
  (repeat' (first | refine awp_seq ?_ | refine awp_block ?_ | refine awp_region (fun _ => hmix) ?_ | refine ARun.op rfl (by first | exact True.intro | exact rfl | (unfold inR; omega) | omega | (unfold inR; simp only [List.length_map, List.length_append, List.length_take, List.length_drop, List.length_replicate, List.length_cons, List.length_nil] at *; omega) | ((try unfold inR); simp only [decide_eq_true_eq, decide_eq_false_iff_not, beq_iff_eq, beq_eq_false_iff_ne, ne_eq, Bool.not_eq_true', Bool.not_eq_false', List.length_map, List.length_append, List.length_take, List.length_drop, List.length_replicate, List.length_cons, List.length_nil] at *; omega)) ?_ | refine callX (c0) rfl rfl rfl rfl ?_ | refine callX (cm) rfl rfl rfl rfl ?_ | refine callX (c1) rfl rfl rfl rfl ?_ | refine callX (c2) rfl rfl rfl rfl ?_ | refine callX (c3) rfl rfl rfl rfl ?_ | refine callX (c4) rfl rfl rfl rfl ?_ | refine callX (c5) rfl rfl rfl rfl ?_ | refine ARun.bytesStr (by first | exact SrcA.sl rfl (.inr rfl) | exact SrcA.sl rfl (.inl rfl) | exact SrcA.ownW rfl rfl rfl rfl) rfl rfl rfl rfl rfl rfl rfl rfl (guardF_spec rfl) ?_ | (refine ARun.fin (by first | (intro h; cases h; done) | (intro _; kernel_rfl)) ?_; dsimp only [thenA, blockA, AS.bump, List.length_cons, List.length_nil, reduceIte, Nat.reduceEqDiff]) | (refine awp_skip ?_; dsimp only [thenA, blockA, AS.bump, List.length_cons, List.length_nil, reduceIte, Nat.reduceEqDiff]) | (refine awp_exit ?_; dsimp only [thenA, blockA, AS.bump, List.length_cons, List.length_nil, reduceIte, Nat.reduceEqDiff]) | refine awp_condT rfl (by first | rfl | assumption | exact beq_int _ | exact bne_int _) ?_ | refine awp_condF rfl (by first | rfl | assumption | exact beq_int _ | exact bne_int _) ?_ | ((fail_if_success refine ARun.plain rfl ?_); first | refine ARun.knowT rfl rfl rfl (by first | rfl | assumption | exact beq_int _ | exact bne_int _) ?_ | refine ARun.knowF rfl rfl rfl (by first | rfl | assumption | exact beq_int _ | exact bne_int _) ?_ | refine ARun.fork rfl rfl rfl (fun h => ?_) (fun h => ?_)) | refine awp_cond rfl (fun h => ?_) (fun h => ?_)))
  refine awp_loopT (T := Nat × Nat) (fun t => ⟨[(22, .val (.int .i64 (t.1 : Nat))), (20, encBs (List.replicate k (byteOf c))), (9, .val (.int .i64 (n.tmod (IntKind.i64.wrap ((((m.b.map encB).length : Nat) : Int).tdiv 2))))), (7, .val (.int .i64 c)), (8, .val (.bool true))], [], t.2⟩)
    (fun t => t.1 ≤ k) (fun t => k - t.1) (0, _) (Nat.zero_le _) ⟨⟨rfl, rfl, rfl, rfl, rfl, trivial⟩, trivial, Nat.le_refl _⟩ (fun t ht => ?_)
  obtain ⟨j, gc⟩ := t
  dsimp only at ht ⊢
  clear c1 c2 c3 c4 c5 e1
  by_cases hj : j < k
  · have dj : decide (((j : Nat) : Int) < (n.tmod (IntKind.i64.wrap ((((m.b.map encB).length : Nat) : Int).tdiv 2)))) = true := decide_eq_true (by omega)
    have hp : (List.replicate k (byteOf c))[j]? = some (byteOf c) := by rw [List.getElem?_replicate, if_pos hj]
    have hbyte : ((((byteOf c).toNat : Nat) : Int) != IntKind.u8.wrap c) = false := by rw [byteOf_nat]; exact bne_int _
    (repeat' (first | refine awp_seq ?_ | refine awp_block ?_ | refine awp_region (fun _ => hmix) ?_ | refine ARun.op rfl (by first | exact True.intro | exact rfl | (unfold inR; omega) | omega | (unfold inR; simp only [List.length_map, List.length_append, List.length_take, List.length_drop, List.length_replicate, List.length_cons, List.length_nil] at *; omega) | ((try unfold inR); simp only [decide_eq_true_eq, decide_eq_false_iff_not, beq_iff_eq, beq_eq_false_iff_ne, ne_eq, Bool.not_eq_true', Bool.not_eq_false', List.length_map, List.length_append, List.length_take, List.length_drop, List.length_replicate, List.length_cons, List.length_nil] at *; omega)) ?_ | refine ARun.indexAddr rfl rfl (by omega) (by first | with_reducible exact get_map hp | with_reducible exact get_map hp) rfl rfl rfl rfl rfl (guardF_spec rfl) ?_ | refine ARun.convInt rfl rfl rfl rfl rfl (guardF_spec rfl) ?_ | (refine ARun.fin (by first | (intro h; cases h; done) | (intro _; kernel_rfl)) ?_; dsimp only [thenA, blockA, AS.bump, List.length_cons, List.length_nil, reduceIte, Nat.reduceEqDiff]) | (refine awp_skip ?_; dsimp only [thenA, blockA, AS.bump, List.length_cons, List.length_nil, reduceIte, Nat.reduceEqDiff]) | (refine awp_exit ?_; dsimp only [thenA, blockA, AS.bump, List.length_cons, List.length_nil, reduceIte, Nat.reduceEqDiff]) | refine awp_condT rfl (by first | rfl | assumption | exact beq_int _ | exact bne_int _) ?_ | refine awp_condF rfl (by first | rfl | assumption | exact beq_int _ | exact bne_int _) ?_ | ((fail_if_success refine ARun.plain rfl ?_); first | refine ARun.knowT rfl rfl rfl (by first | rfl | assumption | exact beq_int _ | exact bne_int _) ?_ | refine ARun.knowF rfl rfl rfl (by first | rfl | assumption | exact beq_int _ | exact bne_int _) ?_ | refine ARun.fork rfl rfl rfl (fun h => ?_) (fun h => ?_)) | refine awp_cond rfl (fun h => ?_) (fun h => ?_)))
    exact ⟨(j + 1, _), ⟨⟨succI j, rfl, rfl, rfl, rfl, trivial⟩, trivial, Nat.le_refl _⟩, hj, (by dsimp only; omega)⟩
  · have hjk : j = k := by omega
    subst hjk
    have dj : decide (((j : Nat) : Int) < (n.tmod (IntKind.i64.wrap ((((m.b.map encB).length : Nat) : Int).tdiv 2)))) = false := decide_eq_false (by omega)
    (repeat' (first | refine awp_seq ?_ | refine awp_block ?_ | refine awp_region (fun _ => hmix) ?_ | refine ARun.op rfl (by first | exact True.intro | exact rfl | (unfold inR; omega) | omega | (unfold inR; simp only [List.length_map, List.length_append, List.length_take, List.length_drop, List.length_replicate, List.length_cons, List.length_nil] at *; omega) | ((try unfold inR); simp only [decide_eq_true_eq, decide_eq_false_iff_not, beq_iff_eq, beq_eq_false_iff_ne, ne_eq, Bool.not_eq_true', Bool.not_eq_false', List.length_map, List.length_append, List.length_take, List.length_drop, List.length_replicate, List.length_cons, List.length_nil] at *; omega)) ?_ | (refine ARun.fin (by first | (intro h; cases h; done) | (intro _; kernel_rfl)) ?_; dsimp only [thenA, blockA, AS.bump, List.length_cons, List.length_nil, reduceIte, Nat.reduceEqDiff]) | (refine awp_skip ?_; dsimp only [thenA, blockA, AS.bump, List.length_cons, List.length_nil, reduceIte, Nat.reduceEqDiff]) | (refine awp_exit ?_; dsimp only [thenA, blockA, AS.bump, List.length_cons, List.length_nil, reduceIte, Nat.reduceEqDiff]) | refine awp_condT rfl (by first | rfl | assumption | exact beq_int _ | exact bne_int _) ?_ | refine awp_condF rfl (by first | rfl | assumption | exact beq_int _ | exact bne_int _) ?_ | ((fail_if_success refine ARun.plain rfl ?_); first | refine ARun.knowT rfl rfl rfl (by first | rfl | assumption | exact beq_int _ | exact bne_int _) ?_ | refine ARun.knowF rfl rfl rfl (by first | rfl | assumption | exact beq_int _ | exact bne_int _) ?_ | refine ARun.fork rfl rfl rfl (fun h => ?_) (fun h => ?_)) | refine awp_cond rfl (fun h => ?_) (fun h => ?_)))
    exact awp_ret ⟨_, ResL.cons (ResA.tmp (.val _)) .nil, rfl⟩
end Go.Proofs.Ytpdnbhimmfhaaaa
