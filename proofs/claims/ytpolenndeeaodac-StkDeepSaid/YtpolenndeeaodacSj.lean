/- stk: stacks that are read of arguments. -/
import Derived.Test.YtpolenndeeaodacS1
import Derived.Test.YtpolenndeeaodacRows
namespace Go.Proofs.Ytpolenndeeaodac
set_option linter.unusedVariables false
set_option linter.unusedSimpArgs false
open Go Go.RowKit Go.ChangeShapes Go.WideShapes Go.Deep Go.Proofs.Ytpolenndeeaodac
set_option maxRecDepth 100000
theorem own_knob : ownKnob Try.prog.godebug = none := by kernel_rfl
theorem laid_out : laidOutB Try.prog = true := by kernel_rfl
section
variable {H : Type} {encT : TypeId × Value → H} {w : World} {base : Nat} {spare : Nat → Bool} {held : Bool}
theorem opens_s : Opens encT Try.prog w base spare held 22 (encL 1 encI) (fun l => l.length ≤ maxLen ∧ ∀ y, y ∈ l → In64 y) := opens_slice Try.underlying22 (by kernel_rfl) (by decide) (fun _ => rfl) (opens_int Try.underlying3)
end
end Go.Proofs.Ytpolenndeeaodac
