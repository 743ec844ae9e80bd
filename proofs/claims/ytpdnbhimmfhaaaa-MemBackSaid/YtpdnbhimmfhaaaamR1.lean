/- mem: the document's examples. -/
import Derived.Test.YtpdnbhimmfhaaaamQ5
import Derived.Test.YtpdnbhimmfhaaaaD8
namespace Go.Proofs.Ytpdnbhimmfhaaaa
set_option linter.unusedVariables false
set_option linter.unusedSimpArgs false
open Go Go.RowKit
set_option maxRecDepth 100000

def mA : Mm := ⟨List.replicate 16 0, []⟩
def mB : Mm := ⟨List.replicate 8 0 ++ 2 :: 1 :: List.replicate 6 0, [(8, List.replicate 8 0)]⟩
theorem ex1 : newD 16 = (mA, 0) := by rfl
theorem ex2 : storeD mA 8 258 = (mB, 0) := by rfl
theorem ex3 : fetchD mB 8 = (258, 0) := by rfl
theorem ex4 : backD mB 0 = (mA, 0) := by rfl
theorem ex5 : fetchD mA 9 = (0, -9) := by rfl
theorem ex6 : fetchD mA 4 = (0, -23) := by rfl
theorem ex7 : textD mB 8 2 = ([2, 1], 0) := by rfl
theorem ex8 : fbyteD mB 8 = (2, 0) := by rfl
theorem inB : OldIn mB.b.length mB.old := fun p hp => by
  rw [show mB.old = [(8, List.replicate 8 0)] from rfl, List.mem_singleton] at hp
  subst hp
  rfl
theorem rB : rightM mB = true := rightM_yes ⟨inB, by decide, by decide⟩
theorem rC : rightM ⟨[1], []⟩ = false := rightM_no (fun h => by have := h.2.2; exact absurd this (by decide))
theorem sAA : sameM mA mA = true := sameM_refl _
theorem sBA : sameM mB mA = false := sameM_no (fun h => by have := congrArg List.length h.2; exact absurd this (by decide))
attribute [local irreducible] Decidable.decide awp ARun regK toK
set_option maxHeartbeats 4000000 in
theorem shown_c : FnC Try.prog 11 [] (.val (.bool true)) := by
  have hA : mA.b.length = 16 := rfl
  have hB : mB.b.length = 16 := rfl
  have kA : mA.old.length = 0 := rfl
  have kB : mB.old.length = 1 := rfl
  have c1 := new_c 16
  have c2 := store_c mA 8 258 (by rw [hA]; omega) (by rw [kA]; omega)
  have c3 := fetch_c mB 8 (by rw [hB]; omega)
  have c4 := back_c mB 0 (by rw [hB]; omega) (by rw [kB]; omega) inB
  have c5 := fetch_c mA 9 (by rw [hA]; omega)
  have c6 := fetch_c mA 4 (by rw [hA]; omega)
  have c7 := text_c mB 8 2 (by rw [hB]; omega)
  have c8 := fbyte_c mB 8 (by rw [hB]; omega)
  have c9 := same_c mA mA (by rw [kA]; omega) (by rw [kA]; omega)
  have cm := mark_c mB (by rw [kB]; omega)
  have cf := free_c mB
  have cn := mark_c (freeD mB) (by rw [show (freeD mB).old.length = 0 from rfl]; omega)
  have cr := right_c mB (by rw [hB]; omega) (by rw [kB]; omega)
  have cr2 := right_c ⟨[1], []⟩ (by simp) (by simp)
  have cs := same_c mB mA (by rw [kB]; omega) (by rw [kA]; omega)
  rw [ex1] at c1
  rw [ex2] at c2
  rw [ex3] at c3
  rw [ex4] at c4
  rw [ex5] at c5
  rw [ex6] at c6
  rw [ex7] at c7
  rw [ex8] at c8
  rw [sAA] at c9
  rw [rB] at cr
  rw [rC] at cr2
  rw [sBA] at cs
  rw [kB] at cm
  rw [show (freeD mB).old.length = 0 from rfl] at cn
  have gen : ∀ m : Mm, ∃ x y, encM m = [.sl 1 false x, .sl 2 false y] := fun m => ⟨_, _, rfl⟩
  simp only [enc2m] at c1 c2 c4
  dsimp only at c1 c2 c3 c4 c5 c6 c7 c8
  obtain ⟨a1, a2, eA⟩ := gen mA
  obtain ⟨b1, b2, eB⟩ := gen mB
  obtain ⟨f1, f2, eF⟩ := gen (freeD mB)
  rw [eA] at c1 c2 c4 c5 c6 c9 cs
  rw [eB] at c2 c3 c4 c7 c8 cm cf cr cs
  rw [eF] at cf cn
  have e7 : ((ByteArray.mk [2, 1].toArray).toList == (ByteArray.mk #[2, 1]).toList) = true := by rw [bs_eq]; exact decide_eq_true rfl
  refine FnC.of_awp (T := tt) (ok := tok) Try.func11 (by kernel_rfl) rfl (by kernel_rfl) closedL_nil (fun w0 st0 => ?_)
  dsimp only [frOf]
  (repeat' (first | refine awp_seq ?_ | refine awp_block ?_ | refine awp_region (fun _ => hmix) ?_ | refine ARun.op rfl (by first | exact True.intro | exact rfl | (unfold inR; omega) | omega | (unfold inR; simp only [List.length_map, List.length_append, List.length_take, List.length_drop, List.length_replicate, List.length_cons, List.length_nil] at *; omega) | ((try unfold inR); simp only [decide_eq_true_eq, decide_eq_false_iff_not, beq_iff_eq, beq_eq_false_iff_ne, ne_eq, Bool.not_eq_true', Bool.not_eq_false', List.length_map, List.length_append, List.length_take, List.length_drop, List.length_replicate, List.length_cons, List.length_nil] at *; omega)) ?_ | refine callX (c1) rfl rfl rfl rfl ?_ | refine callX (c2) rfl rfl rfl rfl ?_ | refine callX (c3) rfl rfl rfl rfl ?_ | refine callX (c4) rfl rfl rfl rfl ?_ | refine callX (c5) rfl rfl rfl rfl ?_ | refine callX (c6) rfl rfl rfl rfl ?_ | refine callX (c7) rfl rfl rfl rfl ?_ | refine callX (c8) rfl rfl rfl rfl ?_ | refine callX (c9) rfl rfl rfl rfl ?_ | refine callX (cm) rfl rfl rfl rfl ?_ | refine callX (cf) rfl rfl rfl rfl ?_ | refine callX (cn) rfl rfl rfl rfl ?_ | refine callX (cr) rfl rfl rfl rfl ?_ | refine callW (cr2) rfl (by (repeat (refine WkL.cons (by first | exact Wk.same _ | exact Wk.nilSl | exact Wk.weak _ _ _ | exact Wk.aggL (by (repeat (refine WkL.cons (by first | exact Wk.same _ | exact Wk.nilSl | exact Wk.weak _ _ _) ?_)); exact WkL.nil)) ?_)); exact WkL.nil) rfl rfl ?_ | refine callX (cs) rfl rfl rfl rfl ?_ | refine ARun.bytesStr (by first | exact SrcA.sl rfl (.inr rfl) | exact SrcA.sl rfl (.inl rfl) | exact SrcA.ownW rfl rfl rfl rfl) rfl rfl rfl rfl rfl rfl rfl rfl (guardF_spec rfl) ?_ | (refine ARun.fin (by first | (intro h; cases h; done) | (intro _; kernel_rfl)) ?_; dsimp only [thenA, blockA, AS.bump, List.length_cons, List.length_nil, reduceIte, Nat.reduceEqDiff]) | (refine awp_skip ?_; dsimp only [thenA, blockA, AS.bump, List.length_cons, List.length_nil, reduceIte, Nat.reduceEqDiff]) | (refine awp_exit ?_; dsimp only [thenA, blockA, AS.bump, List.length_cons, List.length_nil, reduceIte, Nat.reduceEqDiff]) | refine awp_condT rfl (by first | rfl | assumption | exact beq_int _ | exact bne_int _) ?_ | refine awp_condF rfl (by first | rfl | assumption | exact beq_int _ | exact bne_int _) ?_ | ((fail_if_success refine ARun.plain rfl ?_); first | refine ARun.knowT rfl rfl rfl (by first | rfl | assumption | exact beq_int _ | exact bne_int _) ?_ | refine ARun.knowF rfl rfl rfl (by first | rfl | assumption | exact beq_int _ | exact bne_int _) ?_ | refine ARun.fork rfl rfl rfl (fun h => ?_) (fun h => ?_)) | refine awp_cond rfl (fun h => ?_) (fun h => ?_)))
  exact awp_ret ⟨_, ResL.cons (ResA.tmp (.val _)) .nil, rfl⟩
end Go.Proofs.Ytpdnbhimmfhaaaa
