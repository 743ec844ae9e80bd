/- mem: cells and bytes, by the program. -/
import Derived.Test.YtpdnbhimmfhaaaamM7
import Derived.Test.YtpdnbhimmfhaaaaE4
namespace Go.Proofs.Ytpdnbhimmfhaaaa
set_option linter.unusedVariables false
set_option linter.unusedSimpArgs false
open Go Go.RowKit
set_option maxRecDepth 100000
attribute [local irreducible] Decidable.decide awp ARun regK toK

theorem cellAt_c (m : Mm) (at' : Int) (hl : m.b.length ≤ 1000000) : FnC Try.prog 45 [.agg (encM m), .val (.int .i64 at')] (.val (.int .i64 (cellAtD m at'))) := by
  have c1 := there_c m at' 8 hl
  cases ht : thereD m.b.length at' 8 with
  | false =>
    rw [ht] at c1
    rw [show cellAtD m at' = -9 from if_pos ht]
    refine FnC.of_awp (T := tt) (ok := tok) Try.func45 (by kernel_rfl) rfl (by kernel_rfl) (closedL_cons (closed_m m) (closedL_cons (.val _) closedL_nil)) (fun w0 st0 => ?_)
    dsimp only [frOf]
    (repeat' (first | refine awp_seq ?_ | refine awp_block ?_ | refine awp_region (fun _ => hmix) ?_ | refine ARun.op rfl (by first | exact True.intro | exact rfl | (unfold inR; omega) | omega | (unfold inR; simp only [List.length_map, List.length_append, List.length_take, List.length_drop, List.length_cons, List.length_nil] at *; omega) | ((try unfold inR); simp only [decide_eq_true_eq, decide_eq_false_iff_not, beq_iff_eq, beq_eq_false_iff_ne, ne_eq, Bool.not_eq_true', Bool.not_eq_false', List.length_map, List.length_append, List.length_take, List.length_drop, List.length_cons, List.length_nil] at *; omega)) ?_ | refine callX (c1) rfl rfl rfl rfl ?_ | (refine ARun.fin (by first | (intro h; cases h; done) | (intro _; kernel_rfl)) ?_; dsimp only [thenA, blockA, AS.bump, List.length_cons, List.length_nil, reduceIte, Nat.reduceEqDiff]) | (refine awp_skip ?_; dsimp only [thenA, blockA, AS.bump, List.length_cons, List.length_nil, reduceIte, Nat.reduceEqDiff]) | (refine awp_exit ?_; dsimp only [thenA, blockA, AS.bump, List.length_cons, List.length_nil, reduceIte, Nat.reduceEqDiff]) | refine awp_condT rfl (by first | rfl | assumption | exact beq_int _ | exact bne_int _) ?_ | refine awp_condF rfl (by first | rfl | assumption | exact beq_int _ | exact bne_int _) ?_ | ((fail_if_success refine ARun.plain rfl ?_); first | refine ARun.knowT rfl rfl rfl (by first | rfl | assumption | exact beq_int _ | exact bne_int _) ?_ | refine ARun.knowF rfl rfl rfl (by first | rfl | assumption | exact beq_int _ | exact bne_int _) ?_ | refine ARun.fork rfl rfl rfl (fun h => ?_) (fun h => ?_)) | refine awp_cond rfl (fun h => ?_) (fun h => ?_)))
    exact awp_ret ⟨_, ResL.cons (ResA.tmp (.val _)) .nil, rfl⟩
  | true =>
    rw [ht] at c1
    have h0 : ¬ thereD m.b.length at' 8 = false := by simp [ht]
    by_cases hm : at'.tmod 8 = 0
    · have h1 : (at'.tmod 8 != 0) = false := by simp [hm]
      rw [show cellAtD m at' = 0 by unfold cellAtD; rw [if_neg h0, if_neg (by simp [hm])]]
      refine FnC.of_awp (T := tt) (ok := tok) Try.func45 (by kernel_rfl) rfl (by kernel_rfl) (closedL_cons (closed_m m) (closedL_cons (.val _) closedL_nil)) (fun w0 st0 => ?_)
      dsimp only [frOf]
      (repeat' (first | refine awp_seq ?_ | refine awp_block ?_ | refine awp_region (fun _ => hmix) ?_ | refine ARun.op rfl (by first | exact True.intro | exact rfl | (unfold inR; omega) | omega | (unfold inR; simp only [List.length_map, List.length_append, List.length_take, List.length_drop, List.length_cons, List.length_nil] at *; omega) | ((try unfold inR); simp only [decide_eq_true_eq, decide_eq_false_iff_not, beq_iff_eq, beq_eq_false_iff_ne, ne_eq, Bool.not_eq_true', Bool.not_eq_false', List.length_map, List.length_append, List.length_take, List.length_drop, List.length_cons, List.length_nil] at *; omega)) ?_ | refine callX (c1) rfl rfl rfl rfl ?_ | (refine ARun.fin (by first | (intro h; cases h; done) | (intro _; kernel_rfl)) ?_; dsimp only [thenA, blockA, AS.bump, List.length_cons, List.length_nil, reduceIte, Nat.reduceEqDiff]) | (refine awp_skip ?_; dsimp only [thenA, blockA, AS.bump, List.length_cons, List.length_nil, reduceIte, Nat.reduceEqDiff]) | (refine awp_exit ?_; dsimp only [thenA, blockA, AS.bump, List.length_cons, List.length_nil, reduceIte, Nat.reduceEqDiff]) | refine awp_condT rfl (by first | rfl | assumption | exact beq_int _ | exact bne_int _) ?_ | refine awp_condF rfl (by first | rfl | assumption | exact beq_int _ | exact bne_int _) ?_ | ((fail_if_success refine ARun.plain rfl ?_); first | refine ARun.knowT rfl rfl rfl (by first | rfl | assumption | exact beq_int _ | exact bne_int _) ?_ | refine ARun.knowF rfl rfl rfl (by first | rfl | assumption | exact beq_int _ | exact bne_int _) ?_ | refine ARun.fork rfl rfl rfl (fun h => ?_) (fun h => ?_)) | refine awp_cond rfl (fun h => ?_) (fun h => ?_)))
      exact awp_ret ⟨_, ResL.cons (ResA.tmp (.val _)) .nil, rfl⟩
    · have h1 : (at'.tmod 8 != 0) = true := by simp [hm]
      rw [show cellAtD m at' = -23 by unfold cellAtD; rw [if_neg h0, if_pos hm]]
      refine FnC.of_awp (T := tt) (ok := tok) Try.func45 (by kernel_rfl) rfl (by kernel_rfl) (closedL_cons (closed_m m) (closedL_cons (.val _) closedL_nil)) (fun w0 st0 => ?_)
      dsimp only [frOf]
      (repeat' (first | refine awp_seq ?_ | refine awp_block ?_ | refine awp_region (fun _ => hmix) ?_ | refine ARun.op rfl (by first | exact True.intro | exact rfl | (unfold inR; omega) | omega | (unfold inR; simp only [List.length_map, List.length_append, List.length_take, List.length_drop, List.length_cons, List.length_nil] at *; omega) | ((try unfold inR); simp only [decide_eq_true_eq, decide_eq_false_iff_not, beq_iff_eq, beq_eq_false_iff_ne, ne_eq, Bool.not_eq_true', Bool.not_eq_false', List.length_map, List.length_append, List.length_take, List.length_drop, List.length_cons, List.length_nil] at *; omega)) ?_ | refine callX (c1) rfl rfl rfl rfl ?_ | (refine ARun.fin (by first | (intro h; cases h; done) | (intro _; kernel_rfl)) ?_; dsimp only [thenA, blockA, AS.bump, List.length_cons, List.length_nil, reduceIte, Nat.reduceEqDiff]) | (refine awp_skip ?_; dsimp only [thenA, blockA, AS.bump, List.length_cons, List.length_nil, reduceIte, Nat.reduceEqDiff]) | (refine awp_exit ?_; dsimp only [thenA, blockA, AS.bump, List.length_cons, List.length_nil, reduceIte, Nat.reduceEqDiff]) | refine awp_condT rfl (by first | rfl | assumption | exact beq_int _ | exact bne_int _) ?_ | refine awp_condF rfl (by first | rfl | assumption | exact beq_int _ | exact bne_int _) ?_ | ((fail_if_success refine ARun.plain rfl ?_); first | refine ARun.knowT rfl rfl rfl (by first | rfl | assumption | exact beq_int _ | exact bne_int _) ?_ | refine ARun.knowF rfl rfl rfl (by first | rfl | assumption | exact beq_int _ | exact bne_int _) ?_ | refine ARun.fork rfl rfl rfl (fun h => ?_) (fun h => ?_)) | refine awp_cond rfl (fun h => ?_) (fun h => ?_)))
      exact awp_ret ⟨_, ResL.cons (ResA.tmp (.val _)) .nil, rfl⟩
theorem numB_snoc (c : UInt8) : ∀ l : List UInt8, numB (l ++ [c]) = numB l + (c.toNat : Int) * 256 ^ l.length
  | [] => by simp [numB]
  | d :: l => by
    rw [List.cons_append, numB, numB_snoc c l, numB, List.length_cons, Int.pow_succ, Int.mul_add, Int.mul_comm ((256 : Int) ^ l.length) 256, ← Int.mul_assoc (c.toNat : Int) 256, Int.mul_comm (c.toNat : Int) 256, Int.mul_assoc 256 (c.toNat : Int)]
    omega
theorem or_add (a : Int) (c k : Nat) (h0 : 0 ≤ a) (ha : a < 256 ^ k) (hc : c < 256) (hk : k < 8) : bitsV .or .u64 a (shlV .u64 (c : Int) (8 * (k : Int))) = a + (c : Int) * 256 ^ k := by
  obtain ⟨A, rfl⟩ : ∃ A : Nat, a = (A : Int) := ⟨a.toNat, by omega⟩
  have hA : A < 256 ^ k := by
    have : (A : Int) < ((256 ^ k : Nat) : Int) := by rw [Int.natCast_pow]; exact ha
    exact Int.ofNat_lt.1 this
  have e256 : (256 : Nat) ^ k = 2 ^ (8 * k) := by rw [Nat.pow_mul]
  have hle : 256 ^ (k + 1) ≤ 256 ^ 8 := Nat.pow_le_pow_right (by omega) (by omega)
  have hX : c * 2 ^ (8 * k) + 2 ^ (8 * k) ≤ 18446744073709551616 := by
    rw [← e256]
    have : c * 256 ^ k + 256 ^ k = (c + 1) * 256 ^ k := by rw [Nat.add_mul, Nat.one_mul]
    rw [this]
    have h1 : (c + 1) * 256 ^ k ≤ 256 * 256 ^ k := Nat.mul_le_mul_right _ (by omega)
    rw [Nat.pow_succ, Nat.mul_comm] at hle
    exact Nat.le_trans h1 hle
  have hp : 0 < 2 ^ (8 * k) := Nat.pow_pos (by omega)
  rw [e256] at hA
  have es : shlV .u64 (c : Int) (8 * (k : Int)) = ((c * 2 ^ (8 * k) : Nat) : Int) := by
    unfold shlV
    have e : min (8 * (k : Int)).toNat IntKind.u64.bits = 8 * k := by
      rw [show IntKind.u64.bits = 64 from rfl]
      omega
    rw [e, IntKind.wrap_u64, Int.natCast_mul, Int.natCast_pow]
    have : ((c * 2 ^ (8 * k) : Nat) : Int) = (c : Int) * (2 : Int) ^ (8 * k) := by rw [Int.natCast_mul, Int.natCast_pow]; rfl
    have h2 : (c : Int) * (2 : Int) ^ (8 * k) < 18446744073709551616 := by rw [← this]; omega
    have h3 : (0 : Int) ≤ (c : Int) * (2 : Int) ^ (8 * k) := by rw [← this]; omega
    exact Int.emod_eq_of_lt h3 h2
  rw [es]
  unfold bitsV
  simp only
  have hor : (BitVec.ofInt IntKind.u64.bits (A : Int) ||| BitVec.ofInt IntKind.u64.bits ((c * 2 ^ (8 * k) : Nat) : Int)).toNat = c * 2 ^ (8 * k) + A := by
    rw [BitVec.toNat_or, BitVec.ofInt_natCast, BitVec.ofInt_natCast, BitVec.toNat_ofNat, BitVec.toNat_ofNat, show (2 : Nat) ^ IntKind.u64.bits = 18446744073709551616 from rfl, Nat.mod_eq_of_lt (by omega), Nat.mod_eq_of_lt (by omega), Nat.or_comm]
    have := Nat.shiftLeft_add_eq_or_of_lt hA c
    rw [Nat.shiftLeft_eq] at this
    exact this.symm
  rw [hor, IntKind.wrap_u64]
  have : ((c * 2 ^ (8 * k) + A : Nat) : Int) = (A : Int) + (c : Int) * 256 ^ k := by
    rw [← e256, Int.natCast_add, Int.natCast_mul, Int.natCast_pow, Int.add_comm]
    rfl
  rw [← this]
  omega
set_option maxHeartbeats 4000000 in
theorem get_c (l : List UInt8) (hl : l.length ≤ 1000000) : FnC Try.prog 50 [encBs l] (.tup [.val (.int .i64 (getD l).1), .val (.int .i64 (getD l).2)]) := by
  refine FnC.of_awp (T := tt) (ok := tok) Try.func50 (by kernel_rfl) rfl (by kernel_rfl) (closedL_cons (closed_bs l) closedL_nil) (fun w0 st0 => ?_)
  dsimp only [frOf]
  by_cases h8 : l.length = 8
  · have e : getD l = (IntKind.i64.wrap (numB l), 0) := if_pos h8
    rw [e]
    have h0 : ((((l.map encB).length : Nat) : Int) != 8) = false := by simp [h8]
    (repeat' (first | refine awp_seq ?_ | refine awp_block ?_ | refine awp_region (fun _ => hmix) ?_ | refine ARun.op rfl (by first | exact True.intro | exact rfl | (unfold inR; omega) | omega | (unfold inR; simp only [List.length_map, List.length_append, List.length_take, List.length_drop, List.length_cons, List.length_nil] at *; omega) | ((try unfold inR); simp only [decide_eq_true_eq, decide_eq_false_iff_not, beq_iff_eq, beq_eq_false_iff_ne, ne_eq, Bool.not_eq_true', Bool.not_eq_false', List.length_map, List.length_append, List.length_take, List.length_drop, List.length_cons, List.length_nil] at *; omega)) ?_ | (refine ARun.fin (by first | (intro h; cases h; done) | (intro _; kernel_rfl)) ?_; dsimp only [thenA, blockA, AS.bump, List.length_cons, List.length_nil, reduceIte, Nat.reduceEqDiff]) | (refine awp_skip ?_; dsimp only [thenA, blockA, AS.bump, List.length_cons, List.length_nil, reduceIte, Nat.reduceEqDiff]) | (refine awp_exit ?_; dsimp only [thenA, blockA, AS.bump, List.length_cons, List.length_nil, reduceIte, Nat.reduceEqDiff]) | refine awp_condT rfl (by first | rfl | assumption | exact beq_int _ | exact bne_int _) ?_ | refine awp_condF rfl (by first | rfl | assumption | exact beq_int _ | exact bne_int _) ?_ | ((fail_if_success refine ARun.plain rfl ?_); first | refine ARun.knowT rfl rfl rfl (by first | rfl | assumption | exact beq_int _ | exact bne_int _) ?_ | refine ARun.knowF rfl rfl rfl (by first | rfl | assumption | exact beq_int _ | exact bne_int _) ?_ | refine ARun.fork rfl rfl rfl (fun h => ?_) (fun h => ?_)) | refine awp_cond rfl (fun h => ?_) (fun h => ?_)))
    refine awp_loopT (T := Nat × Nat) (fun t => ⟨[(12, .val (.int .i64 (t.1 : Nat))), (11, .val (.int .i64 (((l.map encB).length : Nat)))), (10, encBs l), (4, .val (.int .u64 (numB (l.take t.1))))], [], t.2⟩)
      (fun t => t.1 ≤ 8) (fun t => 8 - t.1) (0, _) (Nat.zero_le _) ⟨⟨rfl, rfl, rfl, rfl, trivial⟩, trivial, Nat.le_refl _⟩ (fun t ht => ?_)
    obtain ⟨k, gc⟩ := t
    dsimp only at ht ⊢
    by_cases hk : k < 8
    · have hc : decide (((k : Nat) : Int) < (((l.map encB).length : Nat) : Int)) = true := decide_eq_true (by rw [List.length_map]; omega)
      have h1 : l[k]? = some l[k] := List.getElem?_eq_getElem (by omega)
      have ht1 := take_succ' h1
      generalize l[k] = ch at h1 ht1
      have hn := numB_rng (l.take k)
      have hlt : (l.take k).length = k := by rw [List.length_take]; omega
      rw [hlt] at hn
      have hor := or_add (numB (l.take k)) ch.toNat k hn.1 hn.2 ch.toNat_lt hk
      have hcw : IntKind.u64.wrap (ch.toNat : Int) = (ch.toNat : Int) := by rw [IntKind.wrap_u64]; have := ch.toNat_lt; omega
      rw [← show shlV .u64 (IntKind.u64.wrap (ch.toNat : Int)) (8 * (k : Int)) = shlV .u64 (ch.toNat : Int) (8 * (k : Int)) by rw [hcw]] at hor
      have hsn := numB_snoc ch (l.take k)
      rw [hlt, ← hor, ← ht1] at hsn
      (repeat' (first | refine awp_seq ?_ | refine awp_block ?_ | refine awp_region (fun _ => hmix) ?_ | refine ARun.op rfl (by first | exact True.intro | exact rfl | (unfold inR; omega) | omega | (unfold inR; simp only [List.length_map, List.length_append, List.length_take, List.length_drop, List.length_cons, List.length_nil] at *; omega) | ((try unfold inR); simp only [decide_eq_true_eq, decide_eq_false_iff_not, beq_iff_eq, beq_eq_false_iff_ne, ne_eq, Bool.not_eq_true', Bool.not_eq_false', List.length_map, List.length_append, List.length_take, List.length_drop, List.length_cons, List.length_nil] at *; omega)) ?_ | refine ARun.indexAddr rfl rfl (by omega) (by first | with_reducible exact get_map h1 | with_reducible exact get_map h1) rfl rfl rfl rfl rfl (guardF_spec rfl) ?_ | (refine ARun.fin (by first | (intro h; cases h; done) | (intro _; kernel_rfl)) ?_; dsimp only [thenA, blockA, AS.bump, List.length_cons, List.length_nil, reduceIte, Nat.reduceEqDiff]) | (refine awp_skip ?_; dsimp only [thenA, blockA, AS.bump, List.length_cons, List.length_nil, reduceIte, Nat.reduceEqDiff]) | (refine awp_exit ?_; dsimp only [thenA, blockA, AS.bump, List.length_cons, List.length_nil, reduceIte, Nat.reduceEqDiff]) | refine awp_condT rfl (by first | rfl | assumption | exact beq_int _ | exact bne_int _) ?_ | refine awp_condF rfl (by first | rfl | assumption | exact beq_int _ | exact bne_int _) ?_ | ((fail_if_success refine ARun.plain rfl ?_); first | refine ARun.knowT rfl rfl rfl (by first | rfl | assumption | exact beq_int _ | exact bne_int _) ?_ | refine ARun.knowF rfl rfl rfl (by first | rfl | assumption | exact beq_int _ | exact bne_int _) ?_ | refine ARun.fork rfl rfl rfl (fun h => ?_) (fun h => ?_)) | refine awp_cond rfl (fun h => ?_) (fun h => ?_)))
      exact ⟨(k + 1, _), ⟨⟨succI k, rfl, rfl, by dsimp only; rw [hsn]; rfl, trivial⟩, trivial, Nat.le_refl _⟩, hk, (by dsimp only; omega)⟩
    · have hkk : k = 8 := by omega
      subst hkk
      have hc : decide (((8 : Nat) : Int) < (((l.map encB).length : Nat) : Int)) = false := decide_eq_false (by rw [List.length_map]; omega)
      rw [show l.take 8 = l by rw [← h8, List.take_length]]
      (repeat' (first | refine awp_seq ?_ | refine awp_block ?_ | refine awp_region (fun _ => hmix) ?_ | refine ARun.op rfl (by first | exact True.intro | exact rfl | (unfold inR; omega) | omega | (unfold inR; simp only [List.length_map, List.length_append, List.length_take, List.length_drop, List.length_cons, List.length_nil] at *; omega) | ((try unfold inR); simp only [decide_eq_true_eq, decide_eq_false_iff_not, beq_iff_eq, beq_eq_false_iff_ne, ne_eq, Bool.not_eq_true', Bool.not_eq_false', List.length_map, List.length_append, List.length_take, List.length_drop, List.length_cons, List.length_nil] at *; omega)) ?_ | refine ARun.convInt rfl rfl rfl rfl rfl (guardF_spec rfl) ?_ | (refine ARun.fin (by first | (intro h; cases h; done) | (intro _; kernel_rfl)) ?_; dsimp only [thenA, blockA, AS.bump, List.length_cons, List.length_nil, reduceIte, Nat.reduceEqDiff]) | (refine awp_skip ?_; dsimp only [thenA, blockA, AS.bump, List.length_cons, List.length_nil, reduceIte, Nat.reduceEqDiff]) | (refine awp_exit ?_; dsimp only [thenA, blockA, AS.bump, List.length_cons, List.length_nil, reduceIte, Nat.reduceEqDiff]) | refine awp_condT rfl (by first | rfl | assumption | exact beq_int _ | exact bne_int _) ?_ | refine awp_condF rfl (by first | rfl | assumption | exact beq_int _ | exact bne_int _) ?_ | ((fail_if_success refine ARun.plain rfl ?_); first | refine ARun.knowT rfl rfl rfl (by first | rfl | assumption | exact beq_int _ | exact bne_int _) ?_ | refine ARun.knowF rfl rfl rfl (by first | rfl | assumption | exact beq_int _ | exact bne_int _) ?_ | refine ARun.fork rfl rfl rfl (fun h => ?_) (fun h => ?_)) | refine awp_cond rfl (fun h => ?_) (fun h => ?_)))
      exact awp_ret ⟨_, ResL.cons (ResA.tmp (.val _)) (ResL.cons (ResA.tmp (.val _)) .nil), rfl⟩
  · have e : getD l = (0, -24) := if_neg h8
    rw [e]
    have h0 : ((((l.map encB).length : Nat) : Int) != 8) = true := by simp; omega
    (repeat' (first | refine awp_seq ?_ | refine awp_block ?_ | refine awp_region (fun _ => hmix) ?_ | refine ARun.op rfl (by first | exact True.intro | exact rfl | (unfold inR; omega) | omega | (unfold inR; simp only [List.length_map, List.length_append, List.length_take, List.length_drop, List.length_cons, List.length_nil] at *; omega) | ((try unfold inR); simp only [decide_eq_true_eq, decide_eq_false_iff_not, beq_iff_eq, beq_eq_false_iff_ne, ne_eq, Bool.not_eq_true', Bool.not_eq_false', List.length_map, List.length_append, List.length_take, List.length_drop, List.length_cons, List.length_nil] at *; omega)) ?_ | (refine ARun.fin (by first | (intro h; cases h; done) | (intro _; kernel_rfl)) ?_; dsimp only [thenA, blockA, AS.bump, List.length_cons, List.length_nil, reduceIte, Nat.reduceEqDiff]) | (refine awp_skip ?_; dsimp only [thenA, blockA, AS.bump, List.length_cons, List.length_nil, reduceIte, Nat.reduceEqDiff]) | (refine awp_exit ?_; dsimp only [thenA, blockA, AS.bump, List.length_cons, List.length_nil, reduceIte, Nat.reduceEqDiff]) | refine awp_condT rfl (by first | rfl | assumption | exact beq_int _ | exact bne_int _) ?_ | refine awp_condF rfl (by first | rfl | assumption | exact beq_int _ | exact bne_int _) ?_ | ((fail_if_success refine ARun.plain rfl ?_); first | refine ARun.knowT rfl rfl rfl (by first | rfl | assumption | exact beq_int _ | exact bne_int _) ?_ | refine ARun.knowF rfl rfl rfl (by first | rfl | assumption | exact beq_int _ | exact bne_int _) ?_ | refine ARun.fork rfl rfl rfl (fun h => ?_) (fun h => ?_)) | refine awp_cond rfl (fun h => ?_) (fun h => ?_)))
    exact awp_ret ⟨_, ResL.cons (ResA.tmp (.val _)) (ResL.cons (ResA.tmp (.val _)) .nil), rfl⟩
end Go.Proofs.Ytpdnbhimmfhaaaa
