/- WheelFull returns true at every input, and leaves its arguments as they were. -/
import Derived.Test.YtfaclpcdeflgfaaW1
import Derived.Test.YtfaclpcdeflgfaaW2
import Derived.Test.YtfaclpcdeflgfaaW3
import Derived.Test.YtfaclpcdeflgfaaW4
import Derived.Test.YtfaclpcdeflgfaawW5
import Derived.Test.YtfaclpcdeflgfaawW6
import Derived.Test.YtfaclpcdeflgfaawW7
import Derived.Test.YtfaclpcdeflgfaawW8
import Derived.Test.YtfaclpcdeflgfaawW9
set_option linter.unusedVariables false
set_option linter.unusedSimpArgs false
namespace Go.Proofs.Ytfaclpcdeflgfaa
open Go Go.RowKit Go.ChangeShapes Go.WideShapes Go.Deep Go.Proofs.Ytfaclpcdeflgfaa
set_option maxRecDepth 100000
theorem wheelFull_lifted (os : Os) (started : os.Started) (H : Type) (enc : TypeId × Value → H) :
  ReturnsInHanded {} Try.checked os 5 .any (Rows.wheelFullSpec.pre6 enc Try.prog Try.f5 Rows.wheelFullRow.domain false) (Rows.wheelFullSpec.post enc Try.prog Try.f5 false true false false) := by
 refine returnsInHanded_of_change (C := Try.checked) own_knob started (by kernel_rfl) Try.func5
  (ChangeSpec.witness6 (enc := enc) (C := Try.checked) false ⟨#[], #[.int .i64 0, .int .i64 0], []⟩ 12 (by kernel_rfl) (by kernel_rfl) (by kernel_rfl) (by kernel_rfl)) ?_
 intro W base args ds gs before hval0 hW hcnd _
 have hval : ∀ (j : Nat) t v, Try.f5.params[j]? = some t → args[j]? = some v → Value.okWide Try.prog W .any base t v := hval0
 have hW' := hW
 obtain ⟨p, q, hA0, hV, rfl, hfz, hnd⟩ := hW
 have hA : DataW.TrodAll enc Try.prog W 0 (fun _ => true) true Try.f5.params.toList args.toList ds p := hA0
 rw [Try.params5] at hA hval
 obtain ⟨v0, vs0, d0, ds0, p0, q0, hargs, rfl, rfl, h0, r0⟩ := trodAll_cons hA
 obtain ⟨v1, vs1, d1, ds1, p1, q1, rfl, rfl, rfl, h1, r1⟩ := trodAll_cons r0
 obtain ⟨rfl, rfl, rfl⟩ := trodAll_nil r1
 obtain rfl : args = #[v0, v1] := by cases args; simp_all
 obtain ⟨rfl, rfl⟩ := trodVars_none hV
 have k0 := h0
 have lt0 : ∀ x ∈ p0, x.block < W.heap.size := by obtain ⟨m, hm⟩ := k0; exact DataW.trod_lt m _ _ _ hm
 have k1 := h1
 have lt1 : ∀ x ∈ p1, x.block < W.heap.size := by obtain ⟨m, hm⟩ := k1; exact DataW.trod_lt m _ _ _ hm
 obtain ⟨y0, rep0, hy0⟩ := arg_int Try.underlying3 (hval 0 3 v0 rfl rfl) h0
 obtain ⟨y1, rep1, hy1⟩ := arg_int Try.underlying3 (hval 1 3 v1 rfl rfl) h1
 clear hA0 hval0
 refine ((full19_c y0 y1 hy0 hy1).law (us := [v0, v1]) rfl (fun i x u hx hu => by
  cases i with
  | zero => simp only [List.getElem?_cons_zero, Option.some.injEq] at hx hu; rw [← hx, ← hu]; exact rep0
  | succ i =>
   simp only [List.getElem?_cons_succ] at hx hu
   cases i with
   | zero => simp only [List.getElem?_cons_zero, Option.some.injEq] at hx hu; rw [← hx, ← hu]; exact rep1
   | succ i =>
    simp only [List.getElem?_cons_succ] at hx hu
    simp at hx)).mono fun e W' ⟨he, bel⟩ => ?_
 subst he
 exact ⟨_, rfl, _, _, _, [], _, [], hW', trodAll_mk1 (shut_bool Try.underlying4 _), (trodAll_cons_mk (Below.trod laid_out (by kernel_rfl) (of_decide_eq_true (by kernel_rfl)) k0 bel lt0) (trodAll_cons_mk (Below.trod laid_out (by kernel_rfl) (of_decide_eq_true (by kernel_rfl)) k1 bel lt1) trodAll_mk0)), rfl, bel.frame _, fun h => by cases h⟩
theorem wheelFull_holds : Rows.WheelFullSaid :=
 OpenClaim.holds_of_wide 5 Try.f5 rfl rfl rfl rfl rfl rfl rfl ⟨rfl, rfl, rfl, rfl, rfl⟩ rfl rfl rfl rfl rfl (by kernel_rfl) Try.func5 (by kernel_rfl)
  (of_decide_eq_true (by kernel_rfl)) (by unfold Func.isWrapper; first | (rw [if_pos (by decide +kernel)]; kernel_rfl) | (rw [if_neg (by decide +kernel)]; exact ⟨rfl, rfl⟩))
  (fun os started H enc _ => wheelFull_lifted os started H enc)
#print axioms wheelFull_holds
end Go.Proofs.Ytfaclpcdeflgfaa
