/- stk: StkTurns returns true. -/
import Derived.Test.YtpolenndeeaodacSe
namespace Go.Proofs.Ytpolenndeeaodac
set_option linter.unusedVariables false
set_option linter.unusedSimpArgs false
open Go Go.RowKit
set_option maxRecDepth 100000
attribute [local irreducible] Decidable.decide awp ARun regK toK

theorem outD_in (s p l : List Int) (limit : Int) (h : (p.length : Int) + l.length ≤ limit) : outD s p l limit = (p ++ l, true, 0) := outD_ok (by omega)
/-- Two words, one behind the other. -/
theorem two_c (n1 n2 : ByteArray) (s a b : List Int) (h1 : ShufC n1 s 1000 (a, true, 0)) (h2 : ShufC n2 a 1000 (b, true, 0)) : FnC Try.prog 17 [.val (.string n1), .val (.string n2), encS s] (.tup [encS b, .val (.bool true)]) := by
  unfold ShufC at h1 h2
  have e : ((0 : Int) == 0) = true := by simp
  refine FnC.of_awp (T := tt) (ok := tok) Try.func17 (by kernel_rfl) rfl (by kernel_rfl) (closedL_cons (.val _) (closedL_cons (.val _) (closedL_cons (closed_s _) closedL_nil))) (fun w0 st0 => ?_)
  dsimp only [frOf]
  (repeat' (first | refine awp_seq ?_ | refine awp_block ?_ | refine awp_region (fun _ => hmix) ?_ | refine ARun.op rfl (by first | exact True.intro | exact rfl | (unfold inR; omega) | omega | (unfold inR; simp only [List.length_map, List.length_append, List.length_take, List.length_drop, List.length_cons, List.length_nil] at *; omega)) ?_ | refine callX (h1) rfl rfl rfl rfl ?_ | refine callX (h2) rfl rfl rfl rfl ?_ | (refine ARun.fin (by first | (intro h; cases h; done) | (intro _; kernel_rfl)) ?_; dsimp only [thenA, blockA, AS.bump, List.length_cons, List.length_nil, reduceIte, Nat.reduceEqDiff]) | (refine awp_skip ?_; dsimp only [thenA, blockA, AS.bump, List.length_cons, List.length_nil, reduceIte, Nat.reduceEqDiff]) | (refine awp_exit ?_; dsimp only [thenA, blockA, AS.bump, List.length_cons, List.length_nil, reduceIte, Nat.reduceEqDiff]) | refine awp_condT rfl (by first | rfl | assumption) ?_ | refine awp_condF rfl (by first | rfl | assumption) ?_ | ((fail_if_success refine ARun.plain rfl ?_); first | refine ARun.knowT rfl rfl rfl (by first | rfl | assumption) ?_ | refine ARun.knowF rfl rfl rfl (by first | rfl | assumption) ?_ | refine ARun.fork rfl rfl rfl (fun h => ?_) (fun h => ?_)) | refine awp_cond rfl (fun h => ?_) (fun h => ?_)))
  refine awp_ret ⟨_, ResL.cons (ResA.tmp (.closed _ (closed_map encI_closed))) (ResL.cons (ResA.tmp (.val _)) .nil), ?_⟩
  show _ = AV.tup [_, AV.val (.bool ((0 : Int) == 0))]
  rw [e]
  rfl
set_option maxHeartbeats 4000000 in
theorem turns_c (s : List Int) : FnC Try.prog 5 [encS s] (.val (.bool true)) := by
  have c0 := shown_c
  refine FnC.of_awp (T := tt) (ok := tok) Try.func5 (by kernel_rfl) rfl (by kernel_rfl) (closedL_cons (closed_s s) closedL_nil) (fun w0 st0 => ?_)
  dsimp only [frOf]
  by_cases hl : (60 : Int) < (((s.map encI).length : Nat) : Int)
  · have h1 : decide ((60 : Int) < (((s.map encI).length : Nat) : Int)) = true := by rw [decide_eq_true_eq]; exact hl
    (repeat' (first | refine awp_seq ?_ | refine awp_block ?_ | refine awp_region (fun _ => hmix) ?_ | refine ARun.op rfl (by first | exact True.intro | exact rfl | (unfold inR; omega) | omega | (unfold inR; simp only [List.length_map, List.length_append, List.length_take, List.length_drop, List.length_cons, List.length_nil] at *; omega)) ?_ | refine callX (c0) rfl rfl rfl rfl ?_ | (refine ARun.fin (by first | (intro h; cases h; done) | (intro _; kernel_rfl)) ?_; dsimp only [thenA, blockA, AS.bump, List.length_cons, List.length_nil, reduceIte, Nat.reduceEqDiff]) | (refine awp_skip ?_; dsimp only [thenA, blockA, AS.bump, List.length_cons, List.length_nil, reduceIte, Nat.reduceEqDiff]) | (refine awp_exit ?_; dsimp only [thenA, blockA, AS.bump, List.length_cons, List.length_nil, reduceIte, Nat.reduceEqDiff]) | refine awp_condT rfl (by first | rfl | assumption) ?_ | refine awp_condF rfl (by first | rfl | assumption) ?_ | ((fail_if_success refine ARun.plain rfl ?_); first | refine ARun.knowT rfl rfl rfl (by first | rfl | assumption) ?_ | refine ARun.knowF rfl rfl rfl (by first | rfl | assumption) ?_ | refine ARun.fork rfl rfl rfl (fun h => ?_) (fun h => ?_)) | refine awp_cond rfl (fun h => ?_) (fun h => ?_)))
    refine awp_ret ⟨_, ResL.cons (ResA.tmp (.val _)) .nil, rfl⟩
  have h1 : decide ((60 : Int) < (((s.map encI).length : Nat) : Int)) = false := by rw [decide_eq_false_iff_not]; exact hl
  by_cases hn : (((s.map encI).length : Nat) : Int) < 4
  · have h2 : decide ((((s.map encI).length : Nat) : Int) < 4) = true := by rw [decide_eq_true_eq]; exact hn
    (repeat' (first | refine awp_seq ?_ | refine awp_block ?_ | refine awp_region (fun _ => hmix) ?_ | refine ARun.op rfl (by first | exact True.intro | exact rfl | (unfold inR; omega) | omega | (unfold inR; simp only [List.length_map, List.length_append, List.length_take, List.length_drop, List.length_cons, List.length_nil] at *; omega)) ?_ | refine callX (c0) rfl rfl rfl rfl ?_ | (refine ARun.fin (by first | (intro h; cases h; done) | (intro _; kernel_rfl)) ?_; dsimp only [thenA, blockA, AS.bump, List.length_cons, List.length_nil, reduceIte, Nat.reduceEqDiff]) | (refine awp_skip ?_; dsimp only [thenA, blockA, AS.bump, List.length_cons, List.length_nil, reduceIte, Nat.reduceEqDiff]) | (refine awp_exit ?_; dsimp only [thenA, blockA, AS.bump, List.length_cons, List.length_nil, reduceIte, Nat.reduceEqDiff]) | refine awp_condT rfl (by first | rfl | assumption) ?_ | refine awp_condF rfl (by first | rfl | assumption) ?_ | ((fail_if_success refine ARun.plain rfl ?_); first | refine ARun.knowT rfl rfl rfl (by first | rfl | assumption) ?_ | refine ARun.knowF rfl rfl rfl (by first | rfl | assumption) ?_ | refine ARun.fork rfl rfl rfl (fun h => ?_) (fun h => ?_)) | refine awp_cond rfl (fun h => ?_) (fun h => ?_)))
    refine awp_ret ⟨_, ResL.cons (ResA.tmp (.val _)) .nil, rfl⟩
  have h2 : decide ((((s.map encI).length : Nat) : Int) < 4) = false := by rw [decide_eq_false_iff_not]; exact hn
  rw [List.length_map] at hl hn
  obtain ⟨p, q, rfl, hq⟩ := last_of (s := s) (t := 4) (by omega)
  rw [List.length_append] at hl
  match q, hq with
  | [a, b, c, d], _ =>
  have w1 : ∀ (p' : List Int) (nm : ByteArray) (q l : List Int), p'.length ≤ 70 → l.length ≤ 8 → ShufC nm (p' ++ q) 1000 (outD (p' ++ q) p' l 1000) → ShufC nm (p' ++ q) 1000 (p' ++ l, true, 0) := fun p' nm q l hp hl h => by
    rwa [outD_in _ _ _ _ (by omega)] at h
  have l2 : (p ++ [a, b]).length ≤ 70 := by simp; omega
  have l1 : (p ++ [a]).length ≤ 70 := by simp; omega
  have l3 : (p ++ [a, b, c]).length ≤ 70 := by simp; omega
  have e2 : p ++ [a, b, c, d] = (p ++ [a, b]) ++ [c, d] := by simp
  have e1 : p ++ [a, b, c, d] = (p ++ [a]) ++ [b, c, d] := by simp
  have e3 : p ++ [a, b, c, d] = (p ++ [a, b, c]) ++ [d] := by simp
  have swap := w1 _ _ _ _ l2 (by simp) (word_nSWAP (p ++ [a, b]) c d 1000 (by omega))
  have swap' := w1 _ _ _ _ l2 (by simp) (word_nSWAP (p ++ [a, b]) d c 1000 (by omega))
  have rot := w1 _ _ _ _ l1 (by simp) (word_nROT (p ++ [a]) b c d 1000 (by omega))
  have rot2 := w1 _ _ _ _ l1 (by simp) (word_nROT (p ++ [a]) c d b 1000 (by omega))
  have rot3 := w1 _ _ _ _ l1 (by simp) (word_nROT (p ++ [a]) d b c 1000 (by omega))
  have back := w1 _ _ _ _ l1 (by simp) (word_nROTR (p ++ [a]) c d b 1000 (by omega))
  have sw2 := w1 _ _ _ _ (by omega : p.length ≤ 70) (by simp) (word_nSWAP2 p a b c d 1000 (by omega))
  have sw2' := w1 _ _ _ _ (by omega : p.length ≤ 70) (by simp) (word_nSWAP2 p c d a b 1000 (by omega))
  have dup := w1 _ _ _ _ l3 (by simp) (word_nDUP (p ++ [a, b, c]) d 1000 (by omega))
  have e4 : (p ++ [a, b, c]) ++ [d, d] = (p ++ [a, b, c, d]) ++ [d] := by simp
  have drop := w1 _ _ _ _ (by simp; omega : (p ++ [a, b, c, d]).length ≤ 70) (by simp) (word_nDROP (p ++ [a, b, c, d]) d 1000 (by simp; omega))
  have over' := w1 _ _ _ _ l2 (by simp) (word_nOVER (p ++ [a, b]) d c 1000 (by omega))
  have over := w1 _ _ _ _ l2 (by simp) (word_nOVER (p ++ [a, b]) c d 1000 (by omega))
  have drop' := w1 _ _ _ _ (by simp; omega : (p ++ [a, b, d]).length ≤ 70) (by simp) (word_nDROP (p ++ [a, b, d]) c 1000 (by simp; omega))
  have over2 := w1 _ _ _ _ l3 (by simp) (word_nOVER (p ++ [a, b, c]) d c 1000 (by omega))
  have tuck := w1 _ _ _ _ l2 (by simp) (word_nTUCK (p ++ [a, b]) c d 1000 (by omega))
  have nip := w1 _ _ _ _ l2 (by simp) (word_nNIP (p ++ [a, b]) c d 1000 (by omega))
  have dup2 := w1 _ _ _ _ l2 (by simp) (word_nDUP2 (p ++ [a, b]) c d 1000 (by omega))
  simp only [List.append_assoc, List.cons_append, List.nil_append, List.append_nil] at swap swap' rot rot2 rot3 back sw2 sw2' dup drop over over' drop' over2 tuck nip dup2
  have t1 := two_c _ _ _ _ _ swap swap'
  have t2 := two_c _ _ _ _ _ rot back
  have t3 := two_c _ _ _ _ _ sw2 sw2'
  have t4 := two_c _ _ _ _ _ dup drop
  have t5 := two_c _ _ _ _ _ rot rot2
  have t6 := two_c _ _ _ _ _ swap over'
  have t7 := two_c _ _ _ _ _ swap drop'
  have t8 := two_c _ _ _ _ _ over over2
  have sm : ∀ l : List Int, l.length ≤ 100 → FnC Try.prog 13 [encS l, encS l] (.val (.bool true)) := fun l hl => by
    have := same_c l l (by omega) (by omega)
    rwa [same_refl] at this
  have s1 := sm (p ++ [a, b, c, d]) (by simp; omega)
  have s2 := sm (p ++ [a, b, d, c, d]) (by simp; omega)
  have s3 := sm (p ++ [a, b, d]) (by simp; omega)
  have s4 := sm (p ++ [a, b, c, d, c, d]) (by simp; omega)
  unfold ShufC at rot3 tuck nip dup2
  have z : ((0 : Int) != 0) = false := by simp
  (repeat' (first | refine awp_seq ?_ | refine awp_block ?_ | refine awp_region (fun _ => hmix) ?_ | refine ARun.op rfl (by first | exact True.intro | exact rfl | (unfold inR; omega) | omega | (unfold inR; simp only [List.length_map, List.length_append, List.length_take, List.length_drop, List.length_cons, List.length_nil] at *; omega)) ?_ | refine callX (c0) rfl rfl rfl rfl ?_ | refine callX (t1) rfl rfl rfl rfl ?_ | refine callX (t2) rfl rfl rfl rfl ?_ | refine callX (t3) rfl rfl rfl rfl ?_ | refine callX (t4) rfl rfl rfl rfl ?_ | refine callX (t5) rfl rfl rfl rfl ?_ | refine callX (rot3) rfl rfl rfl rfl ?_ | refine callX (t6) rfl rfl rfl rfl ?_ | refine callX (t7) rfl rfl rfl rfl ?_ | refine callX (t8) rfl rfl rfl rfl ?_ | refine callX (tuck) rfl rfl rfl rfl ?_ | refine callX (nip) rfl rfl rfl rfl ?_ | refine callX (dup2) rfl rfl rfl rfl ?_ | refine callX (s1) rfl rfl rfl rfl ?_ | refine callX (s2) rfl rfl rfl rfl ?_ | refine callX (s3) rfl rfl rfl rfl ?_ | refine callX (s4) rfl rfl rfl rfl ?_ | (refine ARun.fin (by first | (intro h; cases h; done) | (intro _; kernel_rfl)) ?_; dsimp only [thenA, blockA, AS.bump, List.length_cons, List.length_nil, reduceIte, Nat.reduceEqDiff]) | (refine awp_skip ?_; dsimp only [thenA, blockA, AS.bump, List.length_cons, List.length_nil, reduceIte, Nat.reduceEqDiff]) | (refine awp_exit ?_; dsimp only [thenA, blockA, AS.bump, List.length_cons, List.length_nil, reduceIte, Nat.reduceEqDiff]) | refine awp_condT rfl (by first | rfl | assumption) ?_ | refine awp_condF rfl (by first | rfl | assumption) ?_ | ((fail_if_success refine ARun.plain rfl ?_); first | refine ARun.knowT rfl rfl rfl (by first | rfl | assumption) ?_ | refine ARun.knowF rfl rfl rfl (by first | rfl | assumption) ?_ | refine ARun.fork rfl rfl rfl (fun h => ?_) (fun h => ?_)) | refine awp_cond rfl (fun h => ?_) (fun h => ?_)))
  refine awp_ret ⟨_, ResL.cons (ResA.tmp (.val _)) .nil, rfl⟩
end Go.Proofs.Ytpolenndeeaodac
