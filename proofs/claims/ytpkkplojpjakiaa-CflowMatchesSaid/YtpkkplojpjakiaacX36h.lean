/- CflowMatches returns true at every input, and leaves its arguments as they were. -/
import Derived.Test.YtpkkplojpjakiaaW1
import Derived.Test.YtpkkplojpjakiaaW2
import Derived.Test.YtpkkplojpjakiaaW3
import Derived.Test.YtpkkplojpjakiaaW4
import Derived.Test.YtpkkplojpjakiaacW5
import Derived.Test.YtpkkplojpjakiaacW6
import Derived.Test.YtpkkplojpjakiaacW7
import Derived.Test.YtpkkplojpjakiaacW8
import Derived.Test.YtpkkplojpjakiaacW9
import Derived.Test.YtpkkplojpjakiaacW10
import Derived.Test.YtpkkplojpjakiaacW11
import Derived.Test.YtpkkplojpjakiaacW12
import Derived.Test.YtpkkplojpjakiaacW13
import Derived.Test.YtpkkplojpjakiaacW14
import Derived.Test.YtpkkplojpjakiaacW15
import Derived.Test.YtpkkplojpjakiaacW16
import Derived.Test.YtpkkplojpjakiaacW17
import Derived.Test.YtpkkplojpjakiaacW18
import Derived.Test.YtpkkplojpjakiaacW19
import Derived.Test.YtpkkplojpjakiaacW20
namespace Go.Proofs.Ytpkkplojpjakiaa
set_option linter.unusedVariables false
set_option linter.unusedSimpArgs false
open Go Go.RowKit Go.ChangeShapes Go.WideShapes Go.Deep Go.Proofs.Ytpkkplojpjakiaa
set_option maxRecDepth 100000
theorem cflowMatches_lifted (os : Os) (started : os.Started) (H : Type) (enc : TypeId × Value → H) :
    ReturnsInHanded {} Try.checked os 7 .any (Rows.cflowMatchesSpec.pre6 enc Try.prog Try.f7 Rows.cflowMatchesRow.domain false) (Rows.cflowMatchesSpec.post enc Try.prog Try.f7 false true false false) := by
  refine returnsInHanded_of_change (C := Try.checked) own_knob started (by kernel_rfl) Try.func7
    (ChangeSpec.witness6 (enc := enc) (C := Try.checked) false ⟨#[], #[.int .u8 0, .int .u8 0], []⟩ 12 (by kernel_rfl) (by kernel_rfl) (by kernel_rfl) (by kernel_rfl)) ?_
  intro W base args ds gs before hval0 hW hcnd _
  have hval : ∀ (j : Nat) t v, Try.f7.params[j]? = some t → args[j]? = some v → Value.okWide Try.prog W .any base t v := hval0
  have hW' := hW
  obtain ⟨p, q, hA0, hV, rfl, hfz, hnd⟩ := hW
  have hA : DataW.TrodAll enc Try.prog W 0 (fun _ => true) true Try.f7.params.toList args.toList ds p := hA0
  rw [Try.params7] at hA hval
  obtain ⟨v0, vs0, d0, ds0, p0, q0, hargs, rfl, rfl, h0, r0⟩ := trodAll_cons hA
  obtain ⟨v1, vs1, d1, ds1, p1, q1, rfl, rfl, rfl, h1, r1⟩ := trodAll_cons r0
  obtain ⟨rfl, rfl, rfl⟩ := trodAll_nil r1
  obtain rfl : args = #[v0, v1] := by cases args; simp_all
  obtain ⟨rfl, rfl⟩ := trodVars_none hV
  have k0 := h0
  have lt0 : ∀ x ∈ p0, x.block < W.heap.size := by obtain ⟨m, hm⟩ := k0; exact DataW.trod_lt m _ _ _ hm
  have k1 := h1
  have lt1 : ∀ x ∈ p1, x.block < W.heap.size := by obtain ⟨m, hm⟩ := k1; exact DataW.trod_lt m _ _ _ hm
  obtain ⟨y0, rep0, hy0⟩ := arg_u8 Try.underlying5 (hval 0 5 v0 rfl rfl) h0
  obtain ⟨y1, rep1, hy1⟩ := arg_u8 Try.underlying5 (hval 1 5 v1 rfl rfl) h1
  clear hA0 hval0
  refine ((matches13_c y0 y1 hy0 hy1).law (us := [v0, v1]) rfl (fun i x u hx hu => by
    cases i with
    | zero => simp only [List.getElem?_cons_zero, Option.some.injEq] at hx hu; rw [← hx, ← hu]; exact rep0
    | succ i =>
      simp only [List.getElem?_cons_succ] at hx hu
      cases i with
      | zero => simp only [List.getElem?_cons_zero, Option.some.injEq] at hx hu; rw [← hx, ← hu]; exact rep1
      | succ i =>
        simp only [List.getElem?_cons_succ] at hx hu
        simp at hx)).mono fun e W' ⟨he, bel⟩ => ?_
  subst he
  exact ⟨_, rfl, _, _, _, [], _, [], hW', trodAll_mk1 (shut_bool Try.underlying4 _), (trodAll_cons_mk (Below.trod laid_out (by kernel_rfl) (of_decide_eq_true (by kernel_rfl)) k0 bel lt0) (trodAll_cons_mk (Below.trod laid_out (by kernel_rfl) (of_decide_eq_true (by kernel_rfl)) k1 bel lt1) trodAll_mk0)), rfl, bel.frame _, fun h => by cases h⟩

/-- The statement. -/
theorem cflowMatches_holds : Rows.CflowMatchesSaid :=
  OpenClaim.holds_of_wide 7 Try.f7 rfl rfl rfl rfl rfl rfl rfl ⟨rfl, rfl, rfl, rfl, rfl⟩ rfl rfl rfl rfl rfl (by kernel_rfl) Try.func7 (by kernel_rfl)
    (of_decide_eq_true (by kernel_rfl)) (by unfold Func.isWrapper; first | (rw [if_pos (by decide +kernel)]; kernel_rfl) | (rw [if_neg (by decide +kernel)]; exact ⟨rfl, rfl⟩))
    (fun os started H enc _ => cflowMatches_lifted os started H enc)
#print axioms cflowMatches_holds

end Go.Proofs.Ytpkkplojpjakiaa
