/- evq: queues that are read of arguments; the statement EvqTells. -/
import Derived.Test.YtpolenndeeaodabQc
import Derived.Test.YtpolenndeeaodabC1
import Derived.Test.YtpolenndeeaodabRows
namespace Go.Proofs.Ytpolenndeeaodab
set_option linter.unusedVariables false
set_option linter.unusedSimpArgs false
open Go Go.RowKit Go.ChangeShapes Go.WideShapes Go.Deep Go.Proofs.Ytpolenndeeaodab
set_option maxRecDepth 100000

theorem own_knob : ownKnob Try.prog.godebug = none := by kernel_rfl
theorem laid_out : laidOutB Try.prog = true := by kernel_rfl

section
variable {H : Type} {encT : TypeId × Value → H} {w : World} {base : Nat} {spare : Nat → Bool} {held : Bool}
theorem cells3 : Try.prog.cellsOf 3 = 1 := by kernel_rfl
theorem cells22 : Try.prog.cellsOf 22 = 1 := by kernel_rfl
theorem cells24 : Try.prog.cellsOf 24 = 4 := by kernel_rfl
theorem opens_i : Opens encT Try.prog w base spare held 3 encI In64 := opens_int Try.underlying3
theorem opens_ev : Opens encT Try.prog w base spare held 40 encEv (fun _ => True) := fun n cs x h => by
  obtain ⟨xs, m, rfl, _, hlen, hyl, hf⟩ := DataW.trod_struct Try.underlying40 h
  have hC : Try.prog.cellsOf 40 = 5 := by kernel_rfl
  rw [hC] at hlen
  match cs, hlen with
  | [c0, c1, c2, c3, c4], _ =>
    match xs, hyl with
    | [y0, y1, y2, y3, y4], _ =>
      have f0 := hf 0 _ rfl
      have f1 := hf 1 _ rfl
      have f2 := hf 2 _ rfl
      have f3 := hf 3 _ rfl
      have f4 := hf 4 _ rfl
      simp [cells3] at f0 f1 f2 f3 f4
      obtain ⟨a0, k0, _⟩ := opens_i _ _ _ f0
      obtain ⟨a1, k1, _⟩ := opens_i _ _ _ f1
      obtain ⟨a2, k2, _⟩ := opens_i _ _ _ f2
      obtain ⟨a3, k3, _⟩ := opens_i _ _ _ f3
      obtain ⟨a4, k4, _⟩ := opens_i _ _ _ f4
      exact ⟨(a0, a1, a2, a3, a4), k0.app (k1.app (k2.app (k3.app k4))), trivial⟩
theorem opens_evs : Opens encT Try.prog w base spare held 22 (encL 5 encEv) (fun l => l.length ≤ maxLen ∧ ∀ y, y ∈ l → True) := opens_slice Try.underlying22 (by kernel_rfl) (by decide) (fun _ => rfl) opens_ev
theorem opens_q : Opens encT Try.prog w base spare held 24 encQ (fun q => q.ev.length ≤ maxLen ∧ In64 q.room ∧ In64 q.age ∧ In64 q.next) := fun n cs x h => by
  obtain ⟨xs, m, rfl, _, hlen, hyl, hf⟩ := DataW.trod_struct Try.underlying24 h
  have hC : Try.prog.cellsOf 24 = 4 := by kernel_rfl
  rw [hC] at hlen
  match cs, hlen with
  | [c0, c1, c2, c3], _ =>
    match xs, hyl with
    | [y0, y1, y2, y3], _ =>
      have f0 := hf 0 _ rfl
      have f1 := hf 1 _ rfl
      have f2 := hf 2 _ rfl
      have f3 := hf 3 _ rfl
      simp [cells3, cells22] at f0 f1 f2 f3
      obtain ⟨a0, k0, w0⟩ := opens_evs _ _ _ f0
      obtain ⟨a1, k1, w1⟩ := opens_i _ _ _ f1
      obtain ⟨a2, k2, w2⟩ := opens_i _ _ _ f2
      obtain ⟨a3, k3, w3⟩ := opens_i _ _ _ f3
      exact ⟨⟨a0, a1, a2, a3⟩, k0.app (k1.app (k2.app k3)), w0.1, w1, w2, w3⟩
theorem opens_T : Opens encT Try.prog w base spare held 26 (fun y : Q × Q × Int × Int × Int => argT y.1 y.2.1 y.2.2.1 y.2.2.2.1 y.2.2.2.2) (fun y => y.1.ev.length ≤ maxLen ∧ y.2.1.ev.length ≤ maxLen) := fun n cs x h => by
  obtain ⟨xs, m, rfl, _, hlen, hyl, hf⟩ := DataW.trod_struct Try.underlying26 h
  have hC : Try.prog.cellsOf 26 = 11 := by kernel_rfl
  rw [hC] at hlen
  match cs, hlen with
  | [c0, c1, c2, c3, c4, c5, c6, c7, c8, c9, ca], _ =>
    match xs, hyl with
    | [y0, y1, y2, y3, y4], _ =>
      have f0 := hf 0 _ rfl
      have f1 := hf 1 _ rfl
      have f2 := hf 2 _ rfl
      have f3 := hf 3 _ rfl
      have f4 := hf 4 _ rfl
      simp [cells3, cells24] at f0 f1 f2 f3 f4
      obtain ⟨a0, k0, w0⟩ := opens_q _ _ _ f0
      obtain ⟨a1, k1, w1⟩ := opens_q _ _ _ f1
      obtain ⟨a2, k2, _⟩ := opens_i _ _ _ f2
      obtain ⟨a3, k3, _⟩ := opens_i _ _ _ f3
      obtain ⟨a4, k4, _⟩ := opens_i _ _ _ f4
      exact ⟨(a0, a1, a2, a3, a4), k0.app (k1.app (k2.app (k3.app k4))), w0.1, w1.1⟩
end

theorem evqTells_lifted (os : Os) (started : os.Started) (H : Type) (enc : TypeId × Value → H) :
    ReturnsInHanded {} Try.checked os 3 .any (Rows.evqTellsSpec.pre6 enc Try.prog Try.f3 Rows.evqTellsRow.domain false) (Rows.evqTellsSpec.post enc Try.prog Try.f3 false true false false) := by
  refine returnsInHanded_of_change (C := Try.checked) own_knob started (by kernel_rfl) Try.func3
    (ChangeSpec.witness6 (enc := enc) (C := Try.checked) false ⟨#[], #[.agg #[.slice none 0 0, .int .i64 0, .int .i64 0, .int .i64 0, .slice none 0 0, .int .i64 0, .int .i64 0, .int .i64 0, .int .i64 0, .int .i64 0, .int .i64 0]], []⟩ 12 (by kernel_rfl) (by kernel_rfl) (by kernel_rfl) (by kernel_rfl)) ?_
  intro W base args ds gs before hval0 hW hcnd _
  have hval : ∀ (j : Nat) t v, Try.f3.params[j]? = some t → args[j]? = some v → Value.okWide Try.prog W .any base t v := hval0
  have hW' := hW
  obtain ⟨p, q, hA0, hV, rfl, hfz, hnd⟩ := hW
  have hA : DataW.TrodAll enc Try.prog W 0 (fun _ => true) true Try.f3.params.toList args.toList ds p := hA0
  rw [Try.params3] at hA hval
  obtain ⟨v0, vs0, d0, ds0, p0, q0, hargs, rfl, rfl, h0, r0⟩ := trodAll_cons hA
  obtain ⟨rfl, rfl, rfl⟩ := trodAll_nil r0
  obtain rfl : args = #[v0] := by cases args; simp_all
  obtain ⟨rfl, rfl⟩ := trodVars_none hV
  have k0 := h0
  have lt0 : ∀ x ∈ p0, x.block < W.heap.size := by obtain ⟨m, hm⟩ := k0; exact DataW.trod_lt m _ _ _ hm
  obtain ⟨y, hrep, hy⟩ := arg_struct Try.underlying26 (hval 0 26 v0 rfl rfl) h0 opens_T
  clear hA0 hval0
  refine ((tells_c _ _ _ _ _ hy.1 hy.2).law (us := [v0]) rfl (fun i x u hx hu => by
    cases i with
    | zero => simp only [List.getElem?_cons_zero, Option.some.injEq] at hx hu; rw [← hx, ← hu]; exact hrep
    | succ i => simp at hx)).mono fun e W' ⟨he, bel⟩ => ?_
  subst he
  exact ⟨_, rfl, _, _, _, [], _, [], hW', trodAll_mk1 (shut_bool Try.underlying4 _), (trodAll_cons_mk (Below.trod laid_out (by kernel_rfl) (of_decide_eq_true (by kernel_rfl)) k0 bel lt0) trodAll_mk0), rfl, bel.frame _, fun h => by cases h⟩

/-- The statement. -/
theorem evqTells_holds : Rows.EvqTellsSaid :=
  OpenClaim.holds_of_wide 3 Try.f3 rfl rfl rfl rfl rfl rfl rfl ⟨rfl, rfl, rfl, rfl, rfl⟩ rfl rfl rfl rfl rfl (by kernel_rfl) Try.func3 (by kernel_rfl)
    (of_decide_eq_true (by kernel_rfl)) (by unfold Func.isWrapper; first | (rw [if_pos (by decide +kernel)]; kernel_rfl) | (rw [if_neg (by decide +kernel)]; exact ⟨rfl, rfl⟩))
    (fun os started H enc _ => evqTells_lifted os started H enc)
#print axioms evqTells_holds
end Go.Proofs.Ytpolenndeeaodab
