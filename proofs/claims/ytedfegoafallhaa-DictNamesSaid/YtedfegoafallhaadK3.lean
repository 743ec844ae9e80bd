/- Words; names, flags. -/
import Derived.Test.YtedfegoafallhaadK2
namespace Go.Proofs.Ytedfegoafallhaa
set_option linter.unusedVariables false
set_option linter.unusedSimpArgs false
open Go Go.RowKit
set_option maxRecDepth 100000
structure Wd where
  name : Bs
  xt : Int
  fl : Int
def encW (w : Wd) : List AV := [St w.name, .val (.int .i64 w.xt), .val (.int .i64 w.fl)]
theorem encW_closed (w : Wd) : ∀ x, x ∈ encW w → Closed x := closedL_cons (.val _) (closedL_cons (.val _) (closedL_cons (.val _) closedL_nil))
theorem closed_w (w : Wd) : Closed (.agg (encW w)) := .agg (encW_closed w)
abbrev encWs (l : List Wd) : AV := .sl 3 false (l.map encW)
theorem closed_ws (l : List Wd) : Closed (encWs l) := closed_map encW_closed
def okName (l : Bs) : Bool := l.all fun c => decide (32 < c.toNat)
def namedD (l : Bs) : Int := if l = [] then -16 else if 31 < l.length then -19 else if okName l = true then 0 else -32
/-- Flags of a word: the three lowest bits. -/
theorem and_not7 (x : BitVec 64) : x &&& ~~~(7#64) = 0#64 ↔ x.toNat < 8 := by
  constructor
  · intro h
    have e : x = (x &&& ~~~(7#64)) ||| (x &&& 7#64) := by
      ext i hi
      simp only [BitVec.getElem_or, BitVec.getElem_and, BitVec.getElem_not]
      cases x[i] <;> cases (7#64)[i] <;> rfl
    rw [h, BitVec.zero_or] at e
    have h2 := congrArg BitVec.toNat e
    rw [BitVec.toNat_and, show (7#64).toNat = 2 ^ 3 - 1 from rfl, Nat.and_two_pow_sub_one_eq_mod] at h2
    omega
  · intro h
    have e : x = x &&& 7#64 := by
      apply BitVec.eq_of_toNat_eq
      rw [BitVec.toNat_and, show (7#64).toNat = 2 ^ 3 - 1 from rfl, Nat.and_two_pow_sub_one_eq_mod]
      omega
    rw [e]
    ext i hi
    simp only [BitVec.getElem_and, BitVec.getElem_not, BitVec.getElem_zero]
    cases x[i] <;> cases (7#64)[i] <;> rfl
theorem flag_iff (n : Int) (hn : -9223372036854775808 ≤ n ∧ n ≤ 9223372036854775807) : bitsV .andNot .i64 n 7 = 0 ↔ 0 ≤ n ∧ n ≤ 7 := by
  unfold bitsV
  simp only
  rw [show IntKind.i64.bits = 64 from rfl, show BitVec.ofInt 64 7 = 7#64 from rfl]
  have h1 := and_not7 (BitVec.ofInt 64 n)
  have h2 : (BitVec.ofInt 64 n).toNat = (n % 18446744073709551616).toNat := BitVec.toNat_ofInt n
  rw [h2] at h1
  generalize BitVec.ofInt 64 n &&& ~~~(7#64) = y at h1 ⊢
  have h3 := y.isLt
  have h4 : y = 0#64 ↔ y.toNat = 0 := ⟨fun h => by rw [h]; rfl, fun h => BitVec.eq_of_toNat_eq h⟩
  rw [IntKind.wrap_i64]
  constructor
  · intro h
    have : y.toNat = 0 := by omega
    have := h1.1 (h4.2 this)
    omega
  · intro h
    have := h4.1 (h1.2 (by omega))
    omega
theorem hid_eq (n : Int) (h : 0 ≤ n ∧ n ≤ 7) : (bitsV .and .i64 n 2 == 0) = !((n.tdiv 2).tmod 2 == 1) := by
  have : n = 0 ∨ n = 1 ∨ n = 2 ∨ n = 3 ∨ n = 4 ∨ n = 5 ∨ n = 6 ∨ n = 7 := by omega
  rcases this with rfl | rfl | rfl | rfl | rfl | rfl | rfl | rfl <;> rfl
attribute [local irreducible] Decidable.decide awp ARun regK toK
theorem flagged_c (n : Int) (hn : -9223372036854775808 ≤ n ∧ n ≤ 9223372036854775807) : FnC Try.prog 29 [.val (.int .i64 n)] (.val (.bool (decide (0 ≤ n ∧ n ≤ 7)))) := by
  refine FnC.of_awp (T := tt) (ok := tok) Try.func29 (by kernel_rfl) rfl (by kernel_rfl) (closedL_cons (.val _) closedL_nil) (fun w0 st0 => ?_)
  dsimp only [frOf]
  (repeat' (first | refine awp_seq ?_ | refine awp_block ?_ | refine awp_region (fun _ => hmix) ?_ | refine ARun.op rfl (by first | exact True.intro | exact rfl | (unfold inR; omega) | omega | (unfold inR; simp only [List.length_map, List.length_append, List.length_take, List.length_drop, List.length_replicate, List.length_cons, List.length_nil] at *; omega) | ((try unfold inR); simp only [decide_eq_true_eq, decide_eq_false_iff_not, beq_iff_eq, beq_eq_false_iff_ne, ne_eq, Bool.not_eq_true', Bool.not_eq_false', List.length_map, List.length_append, List.length_take, List.length_drop, List.length_replicate, List.length_cons, List.length_nil] at *; omega)) ?_ | (refine ARun.fin (by first | (intro h; cases h; done) | (intro _; kernel_rfl)) ?_; dsimp only [thenA, blockA, AS.bump, List.length_cons, List.length_nil, reduceIte, Nat.reduceEqDiff]) | (refine awp_skip ?_; dsimp only [thenA, blockA, AS.bump, List.length_cons, List.length_nil, reduceIte, Nat.reduceEqDiff]) | (refine awp_exit ?_; dsimp only [thenA, blockA, AS.bump, List.length_cons, List.length_nil, reduceIte, Nat.reduceEqDiff]) | refine awp_condT rfl (by first | rfl | assumption | exact beq_int _ | exact bne_int _) ?_ | refine awp_condF rfl (by first | rfl | assumption | exact beq_int _ | exact bne_int _) ?_ | ((fail_if_success refine ARun.plain rfl ?_); first | refine ARun.knowT rfl rfl rfl (by first | rfl | assumption | exact beq_int _ | exact bne_int _) ?_ | refine ARun.knowF rfl rfl rfl (by first | rfl | assumption | exact beq_int _ | exact bne_int _) ?_ | refine ARun.fork rfl rfl rfl (fun h => ?_) (fun h => ?_)) | refine awp_cond rfl (fun h => ?_) (fun h => ?_)))
  exact awp_ret ⟨_, ResL.cons (ResA.tmp (.val _)) .nil, congrArg (fun b => AV.val (.bool b)) (by rw [Bool.eq_iff_iff, decide_eq_true_eq, beq_iff_eq, flag_iff n hn])⟩
/-- Hidden, by the document's answer. -/
def hidD (w : Wd) : Bool := (w.fl.tdiv 2).tmod 2 == 1
theorem hidden_c (w : Wd) (h : 0 ≤ w.fl ∧ w.fl ≤ 7) : FnC Try.prog 34 [.agg (encW w)] (.val (.bool (hidD w))) := by
  have hw : IntKind.i64.wrap (w.fl.tdiv 2) = w.fl.tdiv 2 := by
    rw [Int.tdiv_eq_ediv_of_nonneg h.1]
    exact IntWalk.i64_in _ (by omega)
  refine FnC.of_awp (T := tt) (ok := tok) Try.func34 (by kernel_rfl) rfl (by kernel_rfl) (closedL_cons (closed_w w) closedL_nil) (fun w0 st0 => ?_)
  dsimp only [frOf]
  (repeat' (first | refine awp_seq ?_ | refine awp_block ?_ | refine awp_region (fun _ => hmix) ?_ | refine ARun.op rfl (by first | exact True.intro | exact rfl | (unfold inR; omega) | omega | (unfold inR; simp only [List.length_map, List.length_append, List.length_take, List.length_drop, List.length_replicate, List.length_cons, List.length_nil] at *; omega) | ((try unfold inR); simp only [decide_eq_true_eq, decide_eq_false_iff_not, beq_iff_eq, beq_eq_false_iff_ne, ne_eq, Bool.not_eq_true', Bool.not_eq_false', List.length_map, List.length_append, List.length_take, List.length_drop, List.length_replicate, List.length_cons, List.length_nil] at *; omega)) ?_ | (refine ARun.fin (by first | (intro h; cases h; done) | (intro _; kernel_rfl)) ?_; dsimp only [thenA, blockA, AS.bump, List.length_cons, List.length_nil, reduceIte, Nat.reduceEqDiff]) | (refine awp_skip ?_; dsimp only [thenA, blockA, AS.bump, List.length_cons, List.length_nil, reduceIte, Nat.reduceEqDiff]) | (refine awp_exit ?_; dsimp only [thenA, blockA, AS.bump, List.length_cons, List.length_nil, reduceIte, Nat.reduceEqDiff]) | refine awp_condT rfl (by first | rfl | assumption | exact beq_int _ | exact bne_int _) ?_ | refine awp_condF rfl (by first | rfl | assumption | exact beq_int _ | exact bne_int _) ?_ | ((fail_if_success refine ARun.plain rfl ?_); first | refine ARun.knowT rfl rfl rfl (by first | rfl | assumption | exact beq_int _ | exact bne_int _) ?_ | refine ARun.knowF rfl rfl rfl (by first | rfl | assumption | exact beq_int _ | exact bne_int _) ?_ | refine ARun.fork rfl rfl rfl (fun h => ?_) (fun h => ?_)) | refine awp_cond rfl (fun h => ?_) (fun h => ?_)))
  exact awp_ret ⟨_, ResL.cons (ResA.tmp (.val _)) .nil, congrArg (fun b => AV.val (.bool b)) (by unfold hidD; rw [hw])⟩
theorem st_nil (l : Bs) : ((ByteArray.mk l.toArray).toList == (ByteArray.mk #[]).toList) = decide (l = []) := bs_eq l []
theorem take_all {l : Bs} {i : Nat} {c : UInt8} (h : l[i]? = some c) : okName (l.take (i + 1)) = (okName (l.take i) && decide (32 < c.toNat)) := by
  unfold okName
  rw [take_succ' h, List.all_append]
  simp
theorem all_no {l : Bs} {i : Nat} {c : UInt8} (h : l[i]? = some c) (hc : c.toNat ≤ 32) : okName l = false := by
  unfold okName
  rw [List.all_eq_false]
  exact ⟨c, List.mem_of_getElem? h, by simp; omega⟩
set_option maxHeartbeats 4000000 in
theorem named_c (l : Bs) (hl : l.length ≤ 1000000) : FnC Try.prog 28 [St l] (.val (.int .i64 (namedD l))) := by
  have hz : (ByteArray.mk l.toArray).size = l.length := rfl
  refine FnC.of_awp (T := tt) (ok := tok) Try.func28 (by kernel_rfl) rfl (by kernel_rfl) (closedL_cons (.val _) closedL_nil) (fun w0 st0 => ?_)
  dsimp only [frOf]
  by_cases h0 : l = []
  · have d0 : ((ByteArray.mk l.toArray).toList == (ByteArray.mk #[]).toList) = true := by rw [st_nil]; exact decide_eq_true h0
    rw [show namedD l = -16 from if_pos h0]
    (repeat' (first | refine awp_seq ?_ | refine awp_block ?_ | refine awp_region (fun _ => hmix) ?_ | refine ARun.op rfl (by first | exact True.intro | exact rfl | (unfold inR; omega) | omega | (unfold inR; simp only [List.length_map, List.length_append, List.length_take, List.length_drop, List.length_replicate, List.length_cons, List.length_nil] at *; omega) | ((try unfold inR); simp only [decide_eq_true_eq, decide_eq_false_iff_not, beq_iff_eq, beq_eq_false_iff_ne, ne_eq, Bool.not_eq_true', Bool.not_eq_false', List.length_map, List.length_append, List.length_take, List.length_drop, List.length_replicate, List.length_cons, List.length_nil] at *; omega)) ?_ | (refine ARun.fin (by first | (intro h; cases h; done) | (intro _; kernel_rfl)) ?_; dsimp only [thenA, blockA, AS.bump, List.length_cons, List.length_nil, reduceIte, Nat.reduceEqDiff]) | (refine awp_skip ?_; dsimp only [thenA, blockA, AS.bump, List.length_cons, List.length_nil, reduceIte, Nat.reduceEqDiff]) | (refine awp_exit ?_; dsimp only [thenA, blockA, AS.bump, List.length_cons, List.length_nil, reduceIte, Nat.reduceEqDiff]) | refine awp_condT rfl (by first | rfl | assumption | exact beq_int _ | exact bne_int _) ?_ | refine awp_condF rfl (by first | rfl | assumption | exact beq_int _ | exact bne_int _) ?_ | ((fail_if_success refine ARun.plain rfl ?_); first | refine ARun.knowT rfl rfl rfl (by first | rfl | assumption | exact beq_int _ | exact bne_int _) ?_ | refine ARun.knowF rfl rfl rfl (by first | rfl | assumption | exact beq_int _ | exact bne_int _) ?_ | refine ARun.fork rfl rfl rfl (fun h => ?_) (fun h => ?_)) | refine awp_cond rfl (fun h => ?_) (fun h => ?_)))
    exact awp_ret ⟨_, ResL.cons (ResA.tmp (.val _)) .nil, rfl⟩
  have d0 : ((ByteArray.mk l.toArray).toList == (ByteArray.mk #[]).toList) = false := by rw [st_nil]; exact decide_eq_false h0
  by_cases h1 : 31 < l.length
  · have d1 : decide ((31 : Int) < ((ByteArray.mk l.toArray).size : Nat)) = true := decide_eq_true (by omega)
    rw [show namedD l = -19 by unfold namedD; rw [if_neg h0, if_pos h1]]
    (repeat' (first | refine awp_seq ?_ | refine awp_block ?_ | refine awp_region (fun _ => hmix) ?_ | refine ARun.op rfl (by first | exact True.intro | exact rfl | (unfold inR; omega) | omega | (unfold inR; simp only [List.length_map, List.length_append, List.length_take, List.length_drop, List.length_replicate, List.length_cons, List.length_nil] at *; omega) | ((try unfold inR); simp only [decide_eq_true_eq, decide_eq_false_iff_not, beq_iff_eq, beq_eq_false_iff_ne, ne_eq, Bool.not_eq_true', Bool.not_eq_false', List.length_map, List.length_append, List.length_take, List.length_drop, List.length_replicate, List.length_cons, List.length_nil] at *; omega)) ?_ | (refine ARun.fin (by first | (intro h; cases h; done) | (intro _; kernel_rfl)) ?_; dsimp only [thenA, blockA, AS.bump, List.length_cons, List.length_nil, reduceIte, Nat.reduceEqDiff]) | (refine awp_skip ?_; dsimp only [thenA, blockA, AS.bump, List.length_cons, List.length_nil, reduceIte, Nat.reduceEqDiff]) | (refine awp_exit ?_; dsimp only [thenA, blockA, AS.bump, List.length_cons, List.length_nil, reduceIte, Nat.reduceEqDiff]) | refine awp_condT rfl (by first | rfl | assumption | exact beq_int _ | exact bne_int _) ?_ | refine awp_condF rfl (by first | rfl | assumption | exact beq_int _ | exact bne_int _) ?_ | ((fail_if_success refine ARun.plain rfl ?_); first | refine ARun.knowT rfl rfl rfl (by first | rfl | assumption | exact beq_int _ | exact bne_int _) ?_ | refine ARun.knowF rfl rfl rfl (by first | rfl | assumption | exact beq_int _ | exact bne_int _) ?_ | refine ARun.fork rfl rfl rfl (fun h => ?_) (fun h => ?_)) | refine awp_cond rfl (fun h => ?_) (fun h => ?_)))
    exact awp_ret ⟨_, ResL.cons (ResA.tmp (.val _)) .nil, rfl⟩
  have d1 : decide ((31 : Int) < ((ByteArray.mk l.toArray).size : Nat)) = false := decide_eq_false (by omega)
  (repeat' (first | refine awp_seq ?_ | refine awp_block ?_ | refine awp_region (fun _ => hmix) ?_ | refine ARun.op rfl (by first | exact True.intro | exact rfl | (unfold inR; omega) | omega | (unfold inR; simp only [List.length_map, List.length_append, List.length_take, List.length_drop, List.length_replicate, List.length_cons, List.length_nil] at *; omega) | ((try unfold inR); simp only [decide_eq_true_eq, decide_eq_false_iff_not, beq_iff_eq, beq_eq_false_iff_ne, ne_eq, Bool.not_eq_true', Bool.not_eq_false', List.length_map, List.length_append, List.length_take, List.length_drop, List.length_replicate, List.length_cons, List.length_nil] at *; omega)) ?_ | refine ARun.strBytes rfl (by rw [st_size]; simp only [maxLen]; omega) rfl rfl rfl rfl rfl rfl rfl (guardF_spec rfl) ?_ | (refine ARun.fin (by first | (intro h; cases h; done) | (intro _; kernel_rfl)) ?_; dsimp only [thenA, blockA, AS.bump, List.length_cons, List.length_nil, reduceIte, Nat.reduceEqDiff]) | (refine awp_skip ?_; dsimp only [thenA, blockA, AS.bump, List.length_cons, List.length_nil, reduceIte, Nat.reduceEqDiff]) | (refine awp_exit ?_; dsimp only [thenA, blockA, AS.bump, List.length_cons, List.length_nil, reduceIte, Nat.reduceEqDiff]) | refine awp_condT rfl (by first | rfl | assumption | exact beq_int _ | exact bne_int _) ?_ | refine awp_condF rfl (by first | rfl | assumption | exact beq_int _ | exact bne_int _) ?_ | ((fail_if_success refine ARun.plain rfl ?_); first | refine ARun.knowT rfl rfl rfl (by first | rfl | assumption | exact beq_int _ | exact bne_int _) ?_ | refine ARun.knowF rfl rfl rfl (by first | rfl | assumption | exact beq_int _ | exact bne_int _) ?_ | refine ARun.fork rfl rfl rfl (fun h => ?_) (fun h => ?_)) | refine awp_cond rfl (fun h => ?_) (fun h => ?_)))
  refine awp_loopT (T := Nat × Nat) (fun t => ⟨[(15, .val (.int .i64 (t.1 : Nat))), (13, .sl 1 false (l.map encB)), (14, .val (.int .i64 ((l.map encB).length : Nat)))], [], t.2⟩)
    (fun t => t.1 ≤ l.length ∧ okName (l.take t.1) = true) (fun t => l.length - t.1) (0, _) ⟨Nat.zero_le _, rfl⟩ ⟨⟨rfl, rfl, rfl, trivial⟩, trivial, Nat.le_refl _⟩ (fun t ht => ?_)
  obtain ⟨i, gc⟩ := t
  obtain ⟨hi, hA⟩ := ht
  dsimp only at hi hA ⊢
  clear d0 d1
  by_cases hlt : i < l.length
  · have hc : decide (((i : Nat) : Int) < ((l.map encB).length : Nat)) = true := by simp; omega
    have hp : l[i]? = some l[i] := List.getElem?_eq_getElem hlt
    generalize l[i] = ch at hp
    by_cases h2 : ch.toNat ≤ 32
    · have d2 : decide ((ch.toNat : Int) ≤ 32) = true := decide_eq_true (by omega)
      rw [show namedD l = -32 by unfold namedD; rw [if_neg h0, if_neg h1, if_neg (by rw [all_no hp h2]; simp)]]
      (repeat' (first | refine awp_seq ?_ | refine awp_block ?_ | refine awp_region (fun _ => hmix) ?_ | refine ARun.op rfl (by first | exact True.intro | exact rfl | (unfold inR; omega) | omega | (unfold inR; simp only [List.length_map, List.length_append, List.length_take, List.length_drop, List.length_replicate, List.length_cons, List.length_nil] at *; omega) | ((try unfold inR); simp only [decide_eq_true_eq, decide_eq_false_iff_not, beq_iff_eq, beq_eq_false_iff_ne, ne_eq, Bool.not_eq_true', Bool.not_eq_false', List.length_map, List.length_append, List.length_take, List.length_drop, List.length_replicate, List.length_cons, List.length_nil] at *; omega)) ?_ | refine ARun.indexAddr rfl rfl (by omega) (by first | with_reducible exact get_map hp | with_reducible exact get_map hp) rfl rfl rfl rfl rfl (guardF_spec rfl) ?_ | (refine ARun.fin (by first | (intro h; cases h; done) | (intro _; kernel_rfl)) ?_; dsimp only [thenA, blockA, AS.bump, List.length_cons, List.length_nil, reduceIte, Nat.reduceEqDiff]) | (refine awp_skip ?_; dsimp only [thenA, blockA, AS.bump, List.length_cons, List.length_nil, reduceIte, Nat.reduceEqDiff]) | (refine awp_exit ?_; dsimp only [thenA, blockA, AS.bump, List.length_cons, List.length_nil, reduceIte, Nat.reduceEqDiff]) | refine awp_condT rfl (by first | rfl | assumption | exact beq_int _ | exact bne_int _) ?_ | refine awp_condF rfl (by first | rfl | assumption | exact beq_int _ | exact bne_int _) ?_ | ((fail_if_success refine ARun.plain rfl ?_); first | refine ARun.knowT rfl rfl rfl (by first | rfl | assumption | exact beq_int _ | exact bne_int _) ?_ | refine ARun.knowF rfl rfl rfl (by first | rfl | assumption | exact beq_int _ | exact bne_int _) ?_ | refine ARun.fork rfl rfl rfl (fun h => ?_) (fun h => ?_)) | refine awp_cond rfl (fun h => ?_) (fun h => ?_)))
      exact awp_ret ⟨_, ResL.cons (ResA.tmp (.val _)) .nil, rfl⟩
    · have d2 : decide ((ch.toNat : Int) ≤ 32) = false := decide_eq_false (by omega)
      (repeat' (first | refine awp_seq ?_ | refine awp_block ?_ | refine awp_region (fun _ => hmix) ?_ | refine ARun.op rfl (by first | exact True.intro | exact rfl | (unfold inR; omega) | omega | (unfold inR; simp only [List.length_map, List.length_append, List.length_take, List.length_drop, List.length_replicate, List.length_cons, List.length_nil] at *; omega) | ((try unfold inR); simp only [decide_eq_true_eq, decide_eq_false_iff_not, beq_iff_eq, beq_eq_false_iff_ne, ne_eq, Bool.not_eq_true', Bool.not_eq_false', List.length_map, List.length_append, List.length_take, List.length_drop, List.length_replicate, List.length_cons, List.length_nil] at *; omega)) ?_ | refine ARun.indexAddr rfl rfl (by omega) (by first | with_reducible exact get_map hp | with_reducible exact get_map hp) rfl rfl rfl rfl rfl (guardF_spec rfl) ?_ | (refine ARun.fin (by first | (intro h; cases h; done) | (intro _; kernel_rfl)) ?_; dsimp only [thenA, blockA, AS.bump, List.length_cons, List.length_nil, reduceIte, Nat.reduceEqDiff]) | (refine awp_skip ?_; dsimp only [thenA, blockA, AS.bump, List.length_cons, List.length_nil, reduceIte, Nat.reduceEqDiff]) | (refine awp_exit ?_; dsimp only [thenA, blockA, AS.bump, List.length_cons, List.length_nil, reduceIte, Nat.reduceEqDiff]) | refine awp_condT rfl (by first | rfl | assumption | exact beq_int _ | exact bne_int _) ?_ | refine awp_condF rfl (by first | rfl | assumption | exact beq_int _ | exact bne_int _) ?_ | ((fail_if_success refine ARun.plain rfl ?_); first | refine ARun.knowT rfl rfl rfl (by first | rfl | assumption | exact beq_int _ | exact bne_int _) ?_ | refine ARun.knowF rfl rfl rfl (by first | rfl | assumption | exact beq_int _ | exact bne_int _) ?_ | refine ARun.fork rfl rfl rfl (fun h => ?_) (fun h => ?_)) | refine awp_cond rfl (fun h => ?_) (fun h => ?_)))
      exact ⟨(i + 1, _), ⟨⟨succI i, rfl, rfl, trivial⟩, trivial, Nat.le_refl _⟩, ⟨hlt, by rw [take_all hp, hA, Bool.true_and, decide_eq_true (by omega)]⟩, (by dsimp only; omega)⟩
  · have hii : i = l.length := by omega
    subst hii
    have hc : decide (((l.length : Nat) : Int) < ((l.map encB).length : Nat)) = false := by simp
    rw [List.take_length] at hA
    rw [show namedD l = 0 by unfold namedD; rw [if_neg h0, if_neg h1, if_pos hA]]
    (repeat' (first | refine awp_seq ?_ | refine awp_block ?_ | refine awp_region (fun _ => hmix) ?_ | refine ARun.op rfl (by first | exact True.intro | exact rfl | (unfold inR; omega) | omega | (unfold inR; simp only [List.length_map, List.length_append, List.length_take, List.length_drop, List.length_replicate, List.length_cons, List.length_nil] at *; omega) | ((try unfold inR); simp only [decide_eq_true_eq, decide_eq_false_iff_not, beq_iff_eq, beq_eq_false_iff_ne, ne_eq, Bool.not_eq_true', Bool.not_eq_false', List.length_map, List.length_append, List.length_take, List.length_drop, List.length_replicate, List.length_cons, List.length_nil] at *; omega)) ?_ | (refine ARun.fin (by first | (intro h; cases h; done) | (intro _; kernel_rfl)) ?_; dsimp only [thenA, blockA, AS.bump, List.length_cons, List.length_nil, reduceIte, Nat.reduceEqDiff]) | (refine awp_skip ?_; dsimp only [thenA, blockA, AS.bump, List.length_cons, List.length_nil, reduceIte, Nat.reduceEqDiff]) | (refine awp_exit ?_; dsimp only [thenA, blockA, AS.bump, List.length_cons, List.length_nil, reduceIte, Nat.reduceEqDiff]) | refine awp_condT rfl (by first | rfl | assumption | exact beq_int _ | exact bne_int _) ?_ | refine awp_condF rfl (by first | rfl | assumption | exact beq_int _ | exact bne_int _) ?_ | ((fail_if_success refine ARun.plain rfl ?_); first | refine ARun.knowT rfl rfl rfl (by first | rfl | assumption | exact beq_int _ | exact bne_int _) ?_ | refine ARun.knowF rfl rfl rfl (by first | rfl | assumption | exact beq_int _ | exact bne_int _) ?_ | refine ARun.fork rfl rfl rfl (fun h => ?_) (fun h => ?_)) | refine awp_cond rfl (fun h => ?_) (fun h => ?_)))
    exact awp_ret ⟨_, ResL.cons (ResA.tmp (.val _)) .nil, rfl⟩
set_option maxHeartbeats 4000000 in
theorem ref_named_c (l : Bs) (hl : l.length ≤ 1000000) : FnC Try.prog 27 [St l] (.val (.int .i64 (namedD l))) := by
  have hz : (ByteArray.mk l.toArray).size = l.length := rfl
  refine FnC.of_awp (T := tt) (ok := tok) Try.func27 (by kernel_rfl) rfl (by kernel_rfl) (closedL_cons (.val _) closedL_nil) (fun w0 st0 => ?_)
  dsimp only [frOf]
  by_cases h0 : l = []
  · have d0 : ((((ByteArray.mk l.toArray).size : Nat) : Int) == 0) = true := by rw [hz, h0]; simp
    rw [show namedD l = -16 from if_pos h0]
    (repeat' (first | refine awp_seq ?_ | refine awp_block ?_ | refine awp_region (fun _ => hmix) ?_ | refine ARun.op rfl (by first | exact True.intro | exact rfl | (unfold inR; omega) | omega | (unfold inR; simp only [List.length_map, List.length_append, List.length_take, List.length_drop, List.length_replicate, List.length_cons, List.length_nil] at *; omega) | ((try unfold inR); simp only [decide_eq_true_eq, decide_eq_false_iff_not, beq_iff_eq, beq_eq_false_iff_ne, ne_eq, Bool.not_eq_true', Bool.not_eq_false', List.length_map, List.length_append, List.length_take, List.length_drop, List.length_replicate, List.length_cons, List.length_nil] at *; omega)) ?_ | (refine ARun.fin (by first | (intro h; cases h; done) | (intro _; kernel_rfl)) ?_; dsimp only [thenA, blockA, AS.bump, List.length_cons, List.length_nil, reduceIte, Nat.reduceEqDiff]) | (refine awp_skip ?_; dsimp only [thenA, blockA, AS.bump, List.length_cons, List.length_nil, reduceIte, Nat.reduceEqDiff]) | (refine awp_exit ?_; dsimp only [thenA, blockA, AS.bump, List.length_cons, List.length_nil, reduceIte, Nat.reduceEqDiff]) | refine awp_condT rfl (by first | rfl | assumption | exact beq_int _ | exact bne_int _) ?_ | refine awp_condF rfl (by first | rfl | assumption | exact beq_int _ | exact bne_int _) ?_ | ((fail_if_success refine ARun.plain rfl ?_); first | refine ARun.knowT rfl rfl rfl (by first | rfl | assumption | exact beq_int _ | exact bne_int _) ?_ | refine ARun.knowF rfl rfl rfl (by first | rfl | assumption | exact beq_int _ | exact bne_int _) ?_ | refine ARun.fork rfl rfl rfl (fun h => ?_) (fun h => ?_)) | refine awp_cond rfl (fun h => ?_) (fun h => ?_)))
    exact awp_ret ⟨_, ResL.cons (ResA.tmp (.val _)) .nil, rfl⟩
  have d0 : ((((ByteArray.mk l.toArray).size : Nat) : Int) == 0) = false := by rw [hz]; simpa using h0
  by_cases h1 : 31 < l.length
  · have d1 : decide ((31 : Int) < ((ByteArray.mk l.toArray).size : Nat)) = true := decide_eq_true (by omega)
    rw [show namedD l = -19 by unfold namedD; rw [if_neg h0, if_pos h1]]
    (repeat' (first | refine awp_seq ?_ | refine awp_block ?_ | refine awp_region (fun _ => hmix) ?_ | refine ARun.op rfl (by first | exact True.intro | exact rfl | (unfold inR; omega) | omega | (unfold inR; simp only [List.length_map, List.length_append, List.length_take, List.length_drop, List.length_replicate, List.length_cons, List.length_nil] at *; omega) | ((try unfold inR); simp only [decide_eq_true_eq, decide_eq_false_iff_not, beq_iff_eq, beq_eq_false_iff_ne, ne_eq, Bool.not_eq_true', Bool.not_eq_false', List.length_map, List.length_append, List.length_take, List.length_drop, List.length_replicate, List.length_cons, List.length_nil] at *; omega)) ?_ | (refine ARun.fin (by first | (intro h; cases h; done) | (intro _; kernel_rfl)) ?_; dsimp only [thenA, blockA, AS.bump, List.length_cons, List.length_nil, reduceIte, Nat.reduceEqDiff]) | (refine awp_skip ?_; dsimp only [thenA, blockA, AS.bump, List.length_cons, List.length_nil, reduceIte, Nat.reduceEqDiff]) | (refine awp_exit ?_; dsimp only [thenA, blockA, AS.bump, List.length_cons, List.length_nil, reduceIte, Nat.reduceEqDiff]) | refine awp_condT rfl (by first | rfl | assumption | exact beq_int _ | exact bne_int _) ?_ | refine awp_condF rfl (by first | rfl | assumption | exact beq_int _ | exact bne_int _) ?_ | ((fail_if_success refine ARun.plain rfl ?_); first | refine ARun.knowT rfl rfl rfl (by first | rfl | assumption | exact beq_int _ | exact bne_int _) ?_ | refine ARun.knowF rfl rfl rfl (by first | rfl | assumption | exact beq_int _ | exact bne_int _) ?_ | refine ARun.fork rfl rfl rfl (fun h => ?_) (fun h => ?_)) | refine awp_cond rfl (fun h => ?_) (fun h => ?_)))
    exact awp_ret ⟨_, ResL.cons (ResA.tmp (.val _)) .nil, rfl⟩
  have d1 : decide ((31 : Int) < ((ByteArray.mk l.toArray).size : Nat)) = false := decide_eq_false (by omega)
  (repeat' (first | refine awp_seq ?_ | refine awp_block ?_ | refine awp_region (fun _ => hmix) ?_ | refine ARun.op rfl (by first | exact True.intro | exact rfl | (unfold inR; omega) | omega | (unfold inR; simp only [List.length_map, List.length_append, List.length_take, List.length_drop, List.length_replicate, List.length_cons, List.length_nil] at *; omega) | ((try unfold inR); simp only [decide_eq_true_eq, decide_eq_false_iff_not, beq_iff_eq, beq_eq_false_iff_ne, ne_eq, Bool.not_eq_true', Bool.not_eq_false', List.length_map, List.length_append, List.length_take, List.length_drop, List.length_replicate, List.length_cons, List.length_nil] at *; omega)) ?_ | (refine ARun.fin (by first | (intro h; cases h; done) | (intro _; kernel_rfl)) ?_; dsimp only [thenA, blockA, AS.bump, List.length_cons, List.length_nil, reduceIte, Nat.reduceEqDiff]) | (refine awp_skip ?_; dsimp only [thenA, blockA, AS.bump, List.length_cons, List.length_nil, reduceIte, Nat.reduceEqDiff]) | (refine awp_exit ?_; dsimp only [thenA, blockA, AS.bump, List.length_cons, List.length_nil, reduceIte, Nat.reduceEqDiff]) | refine awp_condT rfl (by first | rfl | assumption | exact beq_int _ | exact bne_int _) ?_ | refine awp_condF rfl (by first | rfl | assumption | exact beq_int _ | exact bne_int _) ?_ | ((fail_if_success refine ARun.plain rfl ?_); first | refine ARun.knowT rfl rfl rfl (by first | rfl | assumption | exact beq_int _ | exact bne_int _) ?_ | refine ARun.knowF rfl rfl rfl (by first | rfl | assumption | exact beq_int _ | exact bne_int _) ?_ | refine ARun.fork rfl rfl rfl (fun h => ?_) (fun h => ?_)) | refine awp_cond rfl (fun h => ?_) (fun h => ?_)))
  refine awp_loopT (T := Nat × Nat) (fun t => ⟨[(3, .val (.int .i64 (t.1 : Nat))), (0, St l)], [], t.2⟩)
    (fun t => t.1 ≤ l.length ∧ okName (l.take t.1) = true) (fun t => l.length - t.1) (0, _) ⟨Nat.zero_le _, rfl⟩ ⟨⟨rfl, rfl, trivial⟩, trivial, Nat.le_refl _⟩ (fun t ht => ?_)
  obtain ⟨i, gc⟩ := t
  obtain ⟨hi, hA⟩ := ht
  dsimp only at hi hA ⊢
  clear d0 d1
  by_cases hlt : i < l.length
  · have hc : decide (((i : Nat) : Int) < ((ByteArray.mk l.toArray).size : Nat)) = true := decide_eq_true (by omega)
    have hp : l[i]? = some l[i] := List.getElem?_eq_getElem hlt
    generalize l[i] = ch at hp
    have hs : (ByteArray.mk l.toArray).data[((i : Nat) : Int).toNat]? = some ch := by rw [Int.toNat_natCast]; simpa using hp
    by_cases h2 : ch.toNat ≤ 32
    · have d2 : decide ((ch.toNat : Int) ≤ 32) = true := decide_eq_true (by omega)
      rw [show namedD l = -32 by unfold namedD; rw [if_neg h0, if_neg h1, if_neg (by rw [all_no hp h2]; simp)]]
      (repeat' (first | refine awp_seq ?_ | refine awp_block ?_ | refine awp_region (fun _ => hmix) ?_ | refine ARun.op rfl (by first | exact True.intro | exact rfl | (unfold inR; omega) | omega | (unfold inR; simp only [List.length_map, List.length_append, List.length_take, List.length_drop, List.length_replicate, List.length_cons, List.length_nil] at *; omega) | ((try unfold inR); simp only [decide_eq_true_eq, decide_eq_false_iff_not, beq_iff_eq, beq_eq_false_iff_ne, ne_eq, Bool.not_eq_true', Bool.not_eq_false', List.length_map, List.length_append, List.length_take, List.length_drop, List.length_replicate, List.length_cons, List.length_nil] at *; omega)) ?_ | refine ARun.index_str rfl rfl (by omega) hs rfl rfl rfl (guardF_spec rfl) ?_ | (refine ARun.fin (by first | (intro h; cases h; done) | (intro _; kernel_rfl)) ?_; dsimp only [thenA, blockA, AS.bump, List.length_cons, List.length_nil, reduceIte, Nat.reduceEqDiff]) | (refine awp_skip ?_; dsimp only [thenA, blockA, AS.bump, List.length_cons, List.length_nil, reduceIte, Nat.reduceEqDiff]) | (refine awp_exit ?_; dsimp only [thenA, blockA, AS.bump, List.length_cons, List.length_nil, reduceIte, Nat.reduceEqDiff]) | refine awp_condT rfl (by first | rfl | assumption | exact beq_int _ | exact bne_int _) ?_ | refine awp_condF rfl (by first | rfl | assumption | exact beq_int _ | exact bne_int _) ?_ | ((fail_if_success refine ARun.plain rfl ?_); first | refine ARun.knowT rfl rfl rfl (by first | rfl | assumption | exact beq_int _ | exact bne_int _) ?_ | refine ARun.knowF rfl rfl rfl (by first | rfl | assumption | exact beq_int _ | exact bne_int _) ?_ | refine ARun.fork rfl rfl rfl (fun h => ?_) (fun h => ?_)) | refine awp_cond rfl (fun h => ?_) (fun h => ?_)))
      exact awp_ret ⟨_, ResL.cons (ResA.tmp (.val _)) .nil, rfl⟩
    · have d2 : decide ((ch.toNat : Int) ≤ 32) = false := decide_eq_false (by omega)
      (repeat' (first | refine awp_seq ?_ | refine awp_block ?_ | refine awp_region (fun _ => hmix) ?_ | refine ARun.op rfl (by first | exact True.intro | exact rfl | (unfold inR; omega) | omega | (unfold inR; simp only [List.length_map, List.length_append, List.length_take, List.length_drop, List.length_replicate, List.length_cons, List.length_nil] at *; omega) | ((try unfold inR); simp only [decide_eq_true_eq, decide_eq_false_iff_not, beq_iff_eq, beq_eq_false_iff_ne, ne_eq, Bool.not_eq_true', Bool.not_eq_false', List.length_map, List.length_append, List.length_take, List.length_drop, List.length_replicate, List.length_cons, List.length_nil] at *; omega)) ?_ | refine ARun.index_str rfl rfl (by omega) hs rfl rfl rfl (guardF_spec rfl) ?_ | (refine ARun.fin (by first | (intro h; cases h; done) | (intro _; kernel_rfl)) ?_; dsimp only [thenA, blockA, AS.bump, List.length_cons, List.length_nil, reduceIte, Nat.reduceEqDiff]) | (refine awp_skip ?_; dsimp only [thenA, blockA, AS.bump, List.length_cons, List.length_nil, reduceIte, Nat.reduceEqDiff]) | (refine awp_exit ?_; dsimp only [thenA, blockA, AS.bump, List.length_cons, List.length_nil, reduceIte, Nat.reduceEqDiff]) | refine awp_condT rfl (by first | rfl | assumption | exact beq_int _ | exact bne_int _) ?_ | refine awp_condF rfl (by first | rfl | assumption | exact beq_int _ | exact bne_int _) ?_ | ((fail_if_success refine ARun.plain rfl ?_); first | refine ARun.knowT rfl rfl rfl (by first | rfl | assumption | exact beq_int _ | exact bne_int _) ?_ | refine ARun.knowF rfl rfl rfl (by first | rfl | assumption | exact beq_int _ | exact bne_int _) ?_ | refine ARun.fork rfl rfl rfl (fun h => ?_) (fun h => ?_)) | refine awp_cond rfl (fun h => ?_) (fun h => ?_)))
      exact ⟨(i + 1, _), ⟨⟨succI i, rfl, trivial⟩, trivial, Nat.le_refl _⟩, ⟨hlt, by rw [take_all hp, hA, Bool.true_and, decide_eq_true (by omega)]⟩, (by dsimp only; omega)⟩
  · have hii : i = l.length := by omega
    subst hii
    have hc : decide (((l.length : Nat) : Int) < ((ByteArray.mk l.toArray).size : Nat)) = false := decide_eq_false (by omega)
    rw [List.take_length] at hA
    rw [show namedD l = 0 by unfold namedD; rw [if_neg h0, if_neg h1, if_pos hA]]
    (repeat' (first | refine awp_seq ?_ | refine awp_block ?_ | refine awp_region (fun _ => hmix) ?_ | refine ARun.op rfl (by first | exact True.intro | exact rfl | (unfold inR; omega) | omega | (unfold inR; simp only [List.length_map, List.length_append, List.length_take, List.length_drop, List.length_replicate, List.length_cons, List.length_nil] at *; omega) | ((try unfold inR); simp only [decide_eq_true_eq, decide_eq_false_iff_not, beq_iff_eq, beq_eq_false_iff_ne, ne_eq, Bool.not_eq_true', Bool.not_eq_false', List.length_map, List.length_append, List.length_take, List.length_drop, List.length_replicate, List.length_cons, List.length_nil] at *; omega)) ?_ | (refine ARun.fin (by first | (intro h; cases h; done) | (intro _; kernel_rfl)) ?_; dsimp only [thenA, blockA, AS.bump, List.length_cons, List.length_nil, reduceIte, Nat.reduceEqDiff]) | (refine awp_skip ?_; dsimp only [thenA, blockA, AS.bump, List.length_cons, List.length_nil, reduceIte, Nat.reduceEqDiff]) | (refine awp_exit ?_; dsimp only [thenA, blockA, AS.bump, List.length_cons, List.length_nil, reduceIte, Nat.reduceEqDiff]) | refine awp_condT rfl (by first | rfl | assumption | exact beq_int _ | exact bne_int _) ?_ | refine awp_condF rfl (by first | rfl | assumption | exact beq_int _ | exact bne_int _) ?_ | ((fail_if_success refine ARun.plain rfl ?_); first | refine ARun.knowT rfl rfl rfl (by first | rfl | assumption | exact beq_int _ | exact bne_int _) ?_ | refine ARun.knowF rfl rfl rfl (by first | rfl | assumption | exact beq_int _ | exact bne_int _) ?_ | refine ARun.fork rfl rfl rfl (fun h => ?_) (fun h => ?_)) | refine awp_cond rfl (fun h => ?_) (fun h => ?_)))
    exact awp_ret ⟨_, ResL.cons (ResA.tmp (.val _)) .nil, rfl⟩
end Go.Proofs.Ytedfegoafallhaa
