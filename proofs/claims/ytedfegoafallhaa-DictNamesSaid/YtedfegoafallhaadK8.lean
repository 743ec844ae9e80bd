/- Dictionaries: the document's example. -/
import Derived.Test.YtedfegoafallhaadK7
namespace Go.Proofs.Ytedfegoafallhaa
set_option linter.unusedVariables false
set_option linter.unusedSimpArgs false
open Go Go.RowKit
set_option maxRecDepth 100000

def nDUP : Bs := [68, 85, 80]
def nDup : Bs := [68, 117, 112]
def ndup : Bs := [100, 117, 112]
def wA : Wd := ⟨nDUP, 8, 0⟩
def wB : Wd := ⟨ndup, 16, 1⟩
def wH : Wd := ⟨ndup, 16, 2⟩
def lA : List Wd := [wA]
def lB : List Wd := [wA, wB]
def lH : List Wd := [wA, wH]
theorem ex1 : addD [] nDUP 8 0 9 = (lA, 0) := by rfl
theorem ex2 : addD lA ndup 16 1 9 = (lB, 0) := by rfl
theorem ex3 : findD lB nDup = (wB, 1, true) := by rfl
theorem ex4 : flagD lB 1 2 = (lH, 0) := by rfl
theorem ex5 : findD lH ndup = (wA, 0, true) := by rfl
theorem ex6 : cutD lB 1 = (lA, 0) := by rfl
theorem ex7 : ofD lB 8 = (wA, 0, true) := by rfl
theorem ex8 : addD lB [] 0 0 9 = (lB, -16) := by rfl
theorem in2 {v w : Wd} {R : Wd → Prop} (hv : R v) (hw : R w) : ∀ u, u ∈ [v, w] → R u := fun u hu => by
  rcases List.mem_cons.1 hu with rfl | hu
  · exact hv
  · rw [List.mem_singleton.1 hu]; exact hw
theorem rB : rightW lB = true := rightW_yes ⟨in2 ⟨rfl, by decide, by decide⟩ ⟨rfl, by decide, by decide⟩, by decide⟩
theorem rN : rightW [⟨[], 0, 0⟩] = false := rightW_no (fun h => by have := (h.1 _ (List.mem_singleton.2 rfl)).1; exact absurd this (by decide))
theorem sBB : sameW lB lB = true := sameW_refl _
theorem sBA : sameW lB lA = false := sameW_no (fun h => by have := congrArg List.length h; exact absurd this (by decide))
attribute [local irreducible] Decidable.decide awp ARun regK toK
set_option maxHeartbeats 4000000 in
theorem shown_c : FnC Try.prog 9 [] (.val (.bool true)) := by
  have hA : lA.length = 1 := rfl
  have hB : lB.length = 2 := rfl
  have hH : lH.length = 2 := rfl
  have nm : ∀ w : Wd, (w = wA ∨ w = wB ∨ w = wH) → w.name.length ≤ 1000000 ∧ 0 ≤ w.fl ∧ w.fl ≤ 7 := by
    rintro w (rfl | rfl | rfl) <;> exact ⟨by show 3 ≤ 1000000; omega, by decide, by decide⟩
  have c1 := add_c [] nDUP 8 0 9 (by simp) (by show 3 ≤ 1000000; omega) (by omega)
  have c2 := add_c lA ndup 16 1 9 (by omega) (by show 3 ≤ 1000000; omega) (by omega)
  have c3 := find_c lB nDup (by omega) (by show 3 ≤ 1000000; omega) (in2 (nm _ (.inl rfl)) (nm _ (.inr (.inl rfl))))
  have c4 := flag_c lB 1 2 (by omega) (by omega)
  have c5 := find_c lH ndup (by omega) (by show 3 ≤ 1000000; omega) (in2 (nm _ (.inl rfl)) (nm _ (.inr (.inr rfl))))
  have c6 := cut_c lB 1 (by omega)
  have c7 := of_c lB 8 (by omega)
  have c8 := add_c lB [] 0 0 9 (by omega) (by simp) (by omega)
  have cr := right_c lB (by omega) (in2 ⟨(nm _ (.inl rfl)).1, by decide, by decide⟩ ⟨(nm _ (.inr (.inl rfl))).1, by decide, by decide⟩)
  have cr2 := right_c [⟨[], 0, 0⟩] (by simp) (fun w hw => by rw [List.mem_singleton.1 hw]; exact ⟨by simp, by decide, by decide⟩)
  have s1 := same_c lB lB (by omega)
  have s2 := same_c lB lA (by omega)
  rw [ex1] at c1
  rw [ex2] at c2
  rw [ex3] at c3
  rw [ex4] at c4
  rw [ex5] at c5
  rw [ex6] at c6
  rw [ex7] at c7
  rw [ex8] at c8
  rw [rB] at cr
  rw [rN] at cr2
  rw [sBB] at s1
  rw [sBA] at s2
  simp only [encWE, encFd] at c1 c2 c3 c4 c5 c6 c7 c8
  have e7 : ((ByteArray.mk [68, 85, 80].toArray).toList == (ByteArray.mk #[68, 85, 80]).toList) = true := by rw [bs_eq]; exact decide_eq_true rfl
  refine FnC.of_awp (T := tt) (ok := tok) Try.func9 (by kernel_rfl) rfl (by kernel_rfl) closedL_nil (fun w0 st0 => ?_)
  dsimp only [frOf]
  (repeat' (first | refine awp_seq ?_ | refine awp_block ?_ | refine awp_region (fun _ => hmix) ?_ | refine ARun.op rfl (by first | exact True.intro | exact rfl | (unfold inR; omega) | omega | (unfold inR; simp only [List.length_map, List.length_append, List.length_take, List.length_drop, List.length_replicate, List.length_cons, List.length_nil] at *; omega) | ((try unfold inR); simp only [decide_eq_true_eq, decide_eq_false_iff_not, beq_iff_eq, beq_eq_false_iff_ne, ne_eq, Bool.not_eq_true', Bool.not_eq_false', List.length_map, List.length_append, List.length_take, List.length_drop, List.length_replicate, List.length_cons, List.length_nil] at *; omega)) ?_ | refine callX (c1) rfl rfl rfl rfl ?_ | refine callX (c2) rfl rfl rfl rfl ?_ | refine callX (c3) rfl rfl rfl rfl ?_ | refine callX (c4) rfl rfl rfl rfl ?_ | refine callX (c5) rfl rfl rfl rfl ?_ | refine callX (c6) rfl rfl rfl rfl ?_ | refine callX (c7) rfl rfl rfl rfl ?_ | refine callX (c8) rfl rfl rfl rfl ?_ | refine callX (cr) rfl rfl rfl rfl ?_ | refine callW (cr2) rfl (by (repeat (refine WkL.cons (by first | exact Wk.same _ | exact Wk.nilSl | exact Wk.weak _ _ _ | exact Wk.aggL (by (repeat (refine WkL.cons (by first | exact Wk.same _ | exact Wk.nilSl | exact Wk.weak _ _ _) ?_)); exact WkL.nil)) ?_)); exact WkL.nil) rfl rfl ?_ | refine callX (s1) rfl rfl rfl rfl ?_ | refine callX (s2) rfl rfl rfl rfl ?_ | refine callW (c1) rfl (by (repeat (refine WkL.cons (by first | exact Wk.same _ | exact Wk.nilSl | exact Wk.weak _ _ _ | exact Wk.aggL (by (repeat (refine WkL.cons (by first | exact Wk.same _ | exact Wk.nilSl | exact Wk.weak _ _ _) ?_)); exact WkL.nil)) ?_)); exact WkL.nil) rfl rfl ?_ | refine ARun.buildSliceO rfl rfl rfl rfl rfl rfl rfl (buildSF_spec rfl) rfl (guardF_spec rfl) ?_ | refine callGX [(122, _)] ( cr2) (BsOk.cons rfl (by first | exact own_closed_map encI_closed | exact own_closed_app encI_closed (encI_closed _) | exact clo_lit) (BsOk.nil _)) rfl (by (repeat (refine FzL.cons (by first | exact Fz.same _ | exact Fz.wk Wk.nilSl | exact Fz.wk (Wk.weak _ _ _) | exact Fz.own1 (by first | (simp; done) | (simp; rfl)) rfl (by simp) | exact Fz.cloL (FzL.nil _) (by (repeat (refine FzL.cons (by first | exact Fz.ptr1 (by first | exact .head _ | exact .tail _ (.head _) | exact .tail _ (.tail _ (.head _))) rfl rfl | exact Fz.same _) ?_)); exact FzL.nil _) | exact Fz.aggL (by (repeat (refine FzL.cons (by first | exact Fz.same _ | exact Fz.wk Wk.nilSl | exact Fz.wk (Wk.weak _ _ _) | exact Fz.own1 (by first | (simp; done) | (simp; rfl)) rfl (by simp)) ?_)); exact FzL.nil _)) ?_)); exact FzL.nil _) rfl rfl ?_ | (refine ARun.fin (by first | (intro h; cases h; done) | (intro _; kernel_rfl)) ?_; dsimp only [thenA, blockA, AS.bump, List.length_cons, List.length_nil, reduceIte, Nat.reduceEqDiff]) | (refine awp_skip ?_; dsimp only [thenA, blockA, AS.bump, List.length_cons, List.length_nil, reduceIte, Nat.reduceEqDiff]) | (refine awp_exit ?_; dsimp only [thenA, blockA, AS.bump, List.length_cons, List.length_nil, reduceIte, Nat.reduceEqDiff]) | refine awp_condT rfl (by first | rfl | assumption | exact beq_int _ | exact bne_int _) ?_ | refine awp_condF rfl (by first | rfl | assumption | exact beq_int _ | exact bne_int _) ?_ | ((fail_if_success refine ARun.plain rfl ?_); first | refine ARun.knowT rfl rfl rfl (by first | rfl | assumption | exact beq_int _ | exact bne_int _) ?_ | refine ARun.knowF rfl rfl rfl (by first | rfl | assumption | exact beq_int _ | exact bne_int _) ?_ | refine ARun.fork rfl rfl rfl (fun h => ?_) (fun h => ?_)) | refine awp_cond rfl (fun h => ?_) (fun h => ?_)))
  exact awp_ret ⟨_, ResL.cons (ResA.tmp (.val _)) .nil, rfl⟩
end Go.Proofs.Ytedfegoafallhaa
