/- evq: queues that are read of arguments. -/
import Derived.Test.YtpolenndeeaodabQ4
import Derived.Test.YtpolenndeeaodabC1
import Derived.Test.YtpolenndeeaodabRows
namespace Go.Proofs.Ytpolenndeeaodab
set_option linter.unusedVariables false
set_option linter.unusedSimpArgs false
open Go Go.RowKit Go.ChangeShapes Go.WideShapes Go.Deep Go.Proofs.Ytpolenndeeaodab
set_option maxRecDepth 100000

theorem own_knob : ownKnob Try.prog.godebug = none := by kernel_rfl
theorem laid_out : laidOutB Try.prog = true := by kernel_rfl

section
variable {H : Type} {encT : TypeId × Value → H} {w : World} {base : Nat} {spare : Nat → Bool} {held : Bool}
theorem cells3 : Try.prog.cellsOf 3 = 1 := by kernel_rfl
theorem cells22 : Try.prog.cellsOf 22 = 1 := by kernel_rfl
theorem cells24 : Try.prog.cellsOf 24 = 4 := by kernel_rfl
theorem opens_i : Opens encT Try.prog w base spare held 3 encI In64 := opens_int Try.underlying3
theorem opens_ev : Opens encT Try.prog w base spare held 40 encEv (fun _ => True) := fun n cs x h => by
  obtain ⟨xs, m, rfl, _, hlen, hyl, hf⟩ := DataW.trod_struct Try.underlying40 h
  have hC : Try.prog.cellsOf 40 = 5 := by kernel_rfl
  rw [hC] at hlen
  match cs, hlen with
  | [c0, c1, c2, c3, c4], _ =>
    match xs, hyl with
    | [y0, y1, y2, y3, y4], _ =>
      have f0 := hf 0 _ rfl
      have f1 := hf 1 _ rfl
      have f2 := hf 2 _ rfl
      have f3 := hf 3 _ rfl
      have f4 := hf 4 _ rfl
      simp [cells3] at f0 f1 f2 f3 f4
      obtain ⟨a0, k0, _⟩ := opens_i _ _ _ f0
      obtain ⟨a1, k1, _⟩ := opens_i _ _ _ f1
      obtain ⟨a2, k2, _⟩ := opens_i _ _ _ f2
      obtain ⟨a3, k3, _⟩ := opens_i _ _ _ f3
      obtain ⟨a4, k4, _⟩ := opens_i _ _ _ f4
      exact ⟨(a0, a1, a2, a3, a4), k0.app (k1.app (k2.app (k3.app k4))), trivial⟩
theorem opens_evs : Opens encT Try.prog w base spare held 22 (encL 5 encEv) (fun l => l.length ≤ maxLen ∧ ∀ y, y ∈ l → True) := opens_slice Try.underlying22 (by kernel_rfl) (by decide) (fun _ => rfl) opens_ev
theorem opens_q : Opens encT Try.prog w base spare held 24 encQ (fun q => q.ev.length ≤ maxLen ∧ In64 q.room ∧ In64 q.age ∧ In64 q.next) := fun n cs x h => by
  obtain ⟨xs, m, rfl, _, hlen, hyl, hf⟩ := DataW.trod_struct Try.underlying24 h
  have hC : Try.prog.cellsOf 24 = 4 := by kernel_rfl
  rw [hC] at hlen
  match cs, hlen with
  | [c0, c1, c2, c3], _ =>
    match xs, hyl with
    | [y0, y1, y2, y3], _ =>
      have f0 := hf 0 _ rfl
      have f1 := hf 1 _ rfl
      have f2 := hf 2 _ rfl
      have f3 := hf 3 _ rfl
      simp [cells3, cells22] at f0 f1 f2 f3
      obtain ⟨a0, k0, w0⟩ := opens_evs _ _ _ f0
      obtain ⟨a1, k1, w1⟩ := opens_i _ _ _ f1
      obtain ⟨a2, k2, w2⟩ := opens_i _ _ _ f2
      obtain ⟨a3, k3, w3⟩ := opens_i _ _ _ f3
      exact ⟨⟨a0, a1, a2, a3⟩, k0.app (k1.app (k2.app k3)), w0.1, w1, w2, w3⟩
end
end Go.Proofs.Ytpolenndeeaodab
