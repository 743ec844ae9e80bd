/- uU15. -/
import Derived.Test.YtkmlmboclegpcaaW1
import Derived.Test.YtkmlmboclegpcaaW2
import Derived.Test.YtkmlmboclegpcaaW3
import Derived.Test.YtkmlmboclegpcaaW4
import Derived.Test.YtkmlmboclegpcaauW5
import Derived.Test.YtkmlmboclegpcaauW6
import Derived.Test.YtkmlmboclegpcaauW7
import Derived.Test.YtkmlmboclegpcaauW8
import Derived.Test.YtkmlmboclegpcaauW9
import Derived.Test.YtkmlmboclegpcaauW10
import Derived.Test.YtkmlmboclegpcaauW11
import Derived.Test.YtkmlmboclegpcaauW12
import Derived.Test.YtkmlmboclegpcaauW13
import Derived.Test.YtkmlmboclegpcaauW14
import Derived.Test.YtkmlmboclegpcaauW15
import Derived.Test.YtkmlmboclegpcaauW16
import Derived.Test.YtkmlmboclegpcaaRows
set_option linter.unusedVariables false
set_option linter.unusedSimpArgs false
namespace Go.Proofs.Ytkmlmboclegpcaa
open Go Go.RowKit Go.ChangeShapes Go.WideShapes Go.Deep Go.Proofs.Ytkmlmboclegpcaa
set_option maxRecDepth 100000
theorem own_knob : ownKnob Try.prog.godebug = none := by kernel_rfl
theorem laid_out : laidOutB Try.prog = true := by kernel_rfl
section
variable {H : Type} {encT : TypeId × Value → H} {w : World} {base : Nat} {spare : Nat → Bool} {held : Bool}
theorem opens_i : Opens encT Try.prog w base spare held 3 encI In64 := opens_int Try.underlying3
theorem opens_b : Opens encT Try.prog w base spare held 4 (fun b => [.val (.bool b)]) (fun b : Bool => True) := opens_bool Try.underlying4
theorem opens_h : Opens encT Try.prog w base spare held 40 encU16 (fun n => 0 ≤ n ∧ n ≤ 65535) := opens_u16 Try.underlying40
end
end Go.Proofs.Ytkmlmboclegpcaa
