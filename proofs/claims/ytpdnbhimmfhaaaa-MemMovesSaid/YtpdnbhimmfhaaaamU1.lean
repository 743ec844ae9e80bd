/- mem: memories that are read of arguments. -/
import Derived.Test.YtpdnbhimmfhaaaamM1
import Derived.Test.YtpdnbhimmfhaaaaD9
import Derived.Test.YtpdnbhimmfhaaaaRows
namespace Go.Proofs.Ytpdnbhimmfhaaaa
set_option linter.unusedVariables false
set_option linter.unusedSimpArgs false
open Go Go.RowKit Go.ChangeShapes Go.WideShapes Go.Deep Go.Proofs.Ytpdnbhimmfhaaaa
set_option maxRecDepth 100000
theorem own_knob : ownKnob Try.prog.godebug = none := by kernel_rfl
theorem laid_out : laidOutB Try.prog = true := by kernel_rfl
section
variable {H : Type} {encT : TypeId × Value → H} {w : World} {base : Nat} {spare : Nat → Bool} {held : Bool}
theorem opens_i : Opens encT Try.prog w base spare held 3 encI In64 := opens_int Try.underlying3
theorem opens_bs : Opens encT Try.prog w base spare held 22 (fun l => [encBs l]) (fun l : List UInt8 => l.length ≤ maxLen) := (opens_slice (sz := 1) (enc := encB) Try.underlying22 (by kernel_rfl) (by decide) (fun _ => rfl) (opens_byte Try.underlying5)).map id (fun _ _ => rfl) (fun _ h => h.1)
theorem opens_p : Opens encT Try.prog w base spare held 80 encP (fun p => In64 p.1 ∧ p.2.length ≤ maxLen) := (opens_struct Try.underlying80 (by kernel_rfl) (OpensFs.cons (sz := 1) rfl (by kernel_rfl) opens_i (OpensFs.cons (sz := 1) rfl (by kernel_rfl) opens_bs OpensFs.nil))).map (fun y => (y.1, y.2.1)) (fun _ _ => rfl) (fun _ h => ⟨h.1, h.2.1⟩)
theorem opens_ps : Opens encT Try.prog w base spare held 23 (encL 2 encP) (fun l => l.length ≤ maxLen ∧ ∀ p, p ∈ l → In64 p.1 ∧ p.2.length ≤ maxLen) := opens_slice Try.underlying23 (by kernel_rfl) (by decide) (fun _ => rfl) opens_p
theorem opens_m : Opens encT Try.prog w base spare held 25 encM (fun m => m.b.length ≤ maxLen ∧ m.old.length ≤ maxLen ∧ ∀ p, p ∈ m.old → In64 p.1 ∧ p.2.length ≤ maxLen) := (opens_struct Try.underlying25 (by kernel_rfl) (OpensFs.cons (sz := 1) rfl (by kernel_rfl) opens_bs (OpensFs.cons (sz := 1) rfl (by kernel_rfl) opens_ps OpensFs.nil))).map (fun y => ⟨y.1, y.2.1⟩) (fun _ _ => rfl) (fun _ h => ⟨h.1, h.2.1.1, h.2.1.2⟩)
end
end Go.Proofs.Ytpdnbhimmfhaaaa
