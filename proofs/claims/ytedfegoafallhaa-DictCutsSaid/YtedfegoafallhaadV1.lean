/- Dictionaries that are read of arguments. -/
import Derived.Test.YtedfegoafallhaadK3
import Derived.Test.YtedfegoafallhaaD9
import Derived.Test.YtedfegoafallhaaRows
namespace Go.Proofs.Ytedfegoafallhaa
set_option linter.unusedVariables false
set_option linter.unusedSimpArgs false
open Go Go.RowKit Go.ChangeShapes Go.WideShapes Go.Deep Go.Proofs.Ytedfegoafallhaa
set_option maxRecDepth 100000
theorem own_knob : ownKnob Try.prog.godebug = none := by kernel_rfl
theorem laid_out : laidOutB Try.prog = true := by kernel_rfl
section
variable {H : Type} {encT : TypeId × Value → H} {w : World} {base : Nat} {spare : Nat → Bool} {held : Bool}
theorem opens_i : Opens encT Try.prog w base spare held 3 encI In64 := opens_int Try.underlying3
theorem opens_s : Opens encT Try.prog w base spare held 9 (fun l => [St l]) (fun l : Bs => l.length ≤ maxLen) := (opens_str Try.underlying9).map (fun s => s.data.toList) (fun s _ => rfl) (fun s h => h)
theorem opens_w : Opens encT Try.prog w base spare held 30 encW (fun w => w.name.length ≤ maxLen ∧ In64 w.xt ∧ In64 w.fl) := (opens_struct Try.underlying30 (by kernel_rfl) (OpensFs.cons (sz := 1) rfl (by kernel_rfl) opens_s (OpensFs.cons (sz := 1) rfl (by kernel_rfl) opens_i (OpensFs.cons (sz := 1) rfl (by kernel_rfl) opens_i OpensFs.nil)))).map (fun y => ⟨y.1, y.2.1, y.2.2.1⟩) (fun _ _ => rfl) (fun _ h => ⟨h.1, h.2.1, h.2.2.1⟩)
theorem opens_ws : Opens encT Try.prog w base spare held 22 (fun l => [encWs l]) (fun l => l.length ≤ maxLen ∧ ∀ w, w ∈ l → w.name.length ≤ maxLen ∧ In64 w.xt ∧ In64 w.fl) := (opens_slice (sz := 3) (enc := encW) Try.underlying22 (by kernel_rfl) (by decide) (fun _ => rfl) opens_w).map id (fun _ _ => rfl) (fun _ h => h)
end
end Go.Proofs.Ytedfegoafallhaa
