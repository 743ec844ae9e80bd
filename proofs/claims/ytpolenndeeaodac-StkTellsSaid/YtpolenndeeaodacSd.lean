/- StkTells returns true at every input, and leaves its argument as it was. -/
import Derived.Test.YtpolenndeeaodacSc
import Derived.Test.YtpolenndeeaodacRows
namespace Go.Proofs.Ytpolenndeeaodac
set_option linter.unusedVariables false
set_option linter.unusedSimpArgs false
open Go Go.RowKit Go.ChangeShapes Go.WideShapes Go.Deep Go.Proofs.Ytpolenndeeaodac
set_option maxRecDepth 100000
theorem own_knob : ownKnob Try.prog.godebug = none := by kernel_rfl
theorem laid_out : laidOutB Try.prog = true := by kernel_rfl
section
variable {H : Type} {encT : TypeId × Value → H} {w : World} {base : Nat} {spare : Nat → Bool} {held : Bool}
theorem opens_s : Opens encT Try.prog w base spare held 22 (encL 1 encI) (fun l => l.length ≤ maxLen ∧ ∀ y, y ∈ l → In64 y) := opens_slice Try.underlying22 (by kernel_rfl) (by decide) (fun _ => rfl) (opens_int Try.underlying3)
end
theorem stkTells_lifted (os : Os) (started : os.Started) (H : Type) (enc : TypeId × Value → H) :
    ReturnsInHanded {} Try.checked os 3 .any (Rows.stkTellsSpec.pre6 enc Try.prog Try.f3 Rows.stkTellsRow.domain false) (Rows.stkTellsSpec.post enc Try.prog Try.f3 false true false false) := by
  refine returnsInHanded_of_change (C := Try.checked) own_knob started (by kernel_rfl) Try.func3
    (ChangeSpec.witness6 (enc := enc) (C := Try.checked) false ⟨#[], #[.agg #[.slice none 0 0, .int .i64 0, .int .i64 0, .string ⟨#[]⟩]], []⟩ 12 (by kernel_rfl) (by kernel_rfl) (by kernel_rfl) (by kernel_rfl)) ?_
  intro W base args ds gs before hval0 hW hcnd _
  have hval : ∀ (j : Nat) t v, Try.f3.params[j]? = some t → args[j]? = some v → Value.okWide Try.prog W .any base t v := hval0
  have hW' := hW
  obtain ⟨p, q, hA0, hV, rfl, hfz, hnd⟩ := hW
  have hA : DataW.TrodAll enc Try.prog W 0 (fun _ => true) true Try.f3.params.toList args.toList ds p := hA0
  rw [Try.params3] at hA hval
  obtain ⟨v0, vs0, d0, ds0, p0, q0, hargs, rfl, rfl, h0, r0⟩ := trodAll_cons hA
  obtain ⟨rfl, rfl, rfl⟩ := trodAll_nil r0
  obtain rfl : args = #[v0] := by cases args; simp_all
  obtain ⟨rfl, rfl⟩ := trodVars_none hV
  have k0 := h0
  have lt0 : ∀ x ∈ p0, x.block < W.heap.size := by obtain ⟨m, hm⟩ := k0; exact DataW.trod_lt m _ _ _ hm
  obtain ⟨y0, rep0, hy0⟩ := arg_struct Try.underlying24 (hval 0 24 v0 rfl rfl) h0 (opens_struct Try.underlying24 (N := 4) (by kernel_rfl) (.cons rfl (sz := 1) (by kernel_rfl) opens_s (.cons rfl (sz := 1) (by kernel_rfl) (opens_int Try.underlying3) (.cons rfl (sz := 1) (by kernel_rfl) (opens_int Try.underlying3) (.cons rfl (sz := 1) (by kernel_rfl) (opens_str Try.underlying9) .nil)))))
  clear hA0 hval0
  refine ((tells_c _ _ _ _).law (us := [v0]) rfl (fun i x u hx hu => by
    cases i with
    | zero => simp only [List.getElem?_cons_zero, Option.some.injEq] at hx hu; rw [← hx, ← hu]; exact rep0
    | succ i =>
      simp only [List.getElem?_cons_succ] at hx hu
      simp at hx)).mono fun e W' ⟨he, bel⟩ => ?_
  subst he
  exact ⟨_, rfl, _, _, _, [], _, [], hW', trodAll_mk1 (shut_bool Try.underlying4 _), (trodAll_cons_mk (Below.trod laid_out (by kernel_rfl) (of_decide_eq_true (by kernel_rfl)) k0 bel lt0) trodAll_mk0), rfl, bel.frame _, fun h => by cases h⟩

/-- The statement. -/
theorem stkTells_holds : Rows.StkTellsSaid :=
  OpenClaim.holds_of_wide 3 Try.f3 rfl rfl rfl rfl rfl rfl rfl ⟨rfl, rfl, rfl, rfl, rfl⟩ rfl rfl rfl rfl rfl (by kernel_rfl) Try.func3 (by kernel_rfl)
    (of_decide_eq_true (by kernel_rfl)) (by unfold Func.isWrapper; first | (rw [if_pos (by decide +kernel)]; kernel_rfl) | (rw [if_neg (by decide +kernel)]; exact ⟨rfl, rfl⟩))
    (fun os started H enc _ => stkTells_lifted os started H enc)
#print axioms stkTells_holds

end Go.Proofs.Ytpolenndeeaodac
