/-
  No cell of these rows narrows 'for every input' (looked for: loops, veiled, ifaces, maps, wideKeys, modest, calm, conditions, laid).
  DERIVED. THE GIVEN ROWS OF THIS SEAT. 4 by the template 'for every input the law returns true; each argument reads behind the call as it read before'; 0 by the template 'total and deterministic' (their statements: YtgkjappmcgnabaaTotals.lean).
  GIVEN WITH THE SEED: the statements are not yours to turn. If you find one false, say at which input.
  Laid BY PROGRAM, IN A SANDBOX (cutbox-rows.mjs): the forced cells as the released guide's own fill.sh prints them over the translation 01c36e44444aa358… (all of the seat's roots in one cut). By AI agents, Wed Nov 11 2026. No macro, syntax, notation, axiom, sorry.
-/
import Derived.Test.YtgkjappmcgnabaaChecked
import GoSem.Claim
import GoSem.ClaimJoined
import GoSem.ClaimMapViews
import Derived.JoinedTies
import Derived.KernelRfl
namespace Go.Proofs.Ytgkjappmcgnabaa
/- THE CELL 'sum', in the pinned program and in every row, IS THE sha256 OF THE DUMP (.gsa) THAT YtgkjappmcgnabaaProg.lean LOADS. Nothing in Lean hashes anything: it is a label: what it is worth is what the hold of that sum in a sandbox is worth. -/
noncomputable def Try.pinned : Pinned := { name := "ytgkjappmcgnabaa", sum := "01c36e44444aa3585a89668a0bff98a381574d9c16550f88de53b23797be237e", checked := Try.checked }
namespace Rows
def none {H : Type} : Left H := { results := [], args := [] }

/-- 'detentlaw10.VmTells': WHATEVER THE INPUT: true; the input reads as it did. -/
def vmTellsSpec : ChangeSpec := { name := "vmTells", fn := fun _ => fun
  | [d1, d2, d3] => { results := [.lit (.bool true)], args := [d1, d2, d3] }
  | _ => none }
def vmTellsRow : OpenClaim := { program := "ytgkjappmcgnabaa", sum := "01c36e44444aa3585a89668a0bff98a381574d9c16550f88de53b23797be237e", func := "detent/detentlaw10.VmTells", spec := "vmTells", unfollowed := true, recurses := true, apart := false }
def VmTellsSaid : Prop := vmTellsRow.holds Try.pinned (OpenSpec.ofChange vmTellsSpec)

/-- ITS FALSE NEIGHBOUR: 'it returns false'. Refute it at one input. -/
def vmTellsWrong : ChangeSpec := { name := "vmTells", fn := fun _ => fun
  | [d1, d2, d3] => { results := [.lit (.bool false)], args := [d1, d2, d3] }
  | _ => none }
def VmTellsWrongFalsely : Prop := vmTellsRow.holds Try.pinned (OpenSpec.ofChange vmTellsWrong)

/-- 'detentlaw10.VmBegins': WHATEVER THE INPUT: true; the input reads as it did. -/
def vmBeginsSpec : ChangeSpec := { name := "vmBegins", fn := fun _ => fun
  | [d1, d2] => { results := [.lit (.bool true)], args := [d1, d2] }
  | _ => none }
def vmBeginsRow : OpenClaim := { program := "ytgkjappmcgnabaa", sum := "01c36e44444aa3585a89668a0bff98a381574d9c16550f88de53b23797be237e", func := "detent/detentlaw10.VmBegins", spec := "vmBegins", unfollowed := true, recurses := true, apart := false }
def VmBeginsSaid : Prop := vmBeginsRow.holds Try.pinned (OpenSpec.ofChange vmBeginsSpec)

/-- ITS FALSE NEIGHBOUR: 'it returns false'. Refute it at one input. -/
def vmBeginsWrong : ChangeSpec := { name := "vmBegins", fn := fun _ => fun
  | [d1, d2] => { results := [.lit (.bool false)], args := [d1, d2] }
  | _ => none }
def VmBeginsWrongFalsely : Prop := vmBeginsRow.holds Try.pinned (OpenSpec.ofChange vmBeginsWrong)

/-- 'detentlaw10.VmDoes': WHATEVER THE INPUT: true; the input reads as it did. -/
def vmDoesSpec : ChangeSpec := { name := "vmDoes", fn := fun _ => fun
  | [d1, d2, d3] => { results := [.lit (.bool true)], args := [d1, d2, d3] }
  | _ => none }
def vmDoesRow : OpenClaim := { program := "ytgkjappmcgnabaa", sum := "01c36e44444aa3585a89668a0bff98a381574d9c16550f88de53b23797be237e", func := "detent/detentlaw10.VmDoes", spec := "vmDoes", unfollowed := true, recurses := true, apart := false }
def VmDoesSaid : Prop := vmDoesRow.holds Try.pinned (OpenSpec.ofChange vmDoesSpec)

/-- ITS FALSE NEIGHBOUR: 'it returns false'. Refute it at one input. -/
def vmDoesWrong : ChangeSpec := { name := "vmDoes", fn := fun _ => fun
  | [d1, d2, d3] => { results := [.lit (.bool false)], args := [d1, d2, d3] }
  | _ => none }
def VmDoesWrongFalsely : Prop := vmDoesRow.holds Try.pinned (OpenSpec.ofChange vmDoesWrong)

/-- 'detentlaw10.VmStacks': WHATEVER THE INPUT: true; the input reads as it did. -/
def vmStacksSpec : ChangeSpec := { name := "vmStacks", fn := fun _ => fun
  | [d1, d2, d3] => { results := [.lit (.bool true)], args := [d1, d2, d3] }
  | _ => none }
def vmStacksRow : OpenClaim := { program := "ytgkjappmcgnabaa", sum := "01c36e44444aa3585a89668a0bff98a381574d9c16550f88de53b23797be237e", func := "detent/detentlaw10.VmStacks", spec := "vmStacks", unfollowed := true, recurses := true, apart := false }
def VmStacksSaid : Prop := vmStacksRow.holds Try.pinned (OpenSpec.ofChange vmStacksSpec)

/-- ITS FALSE NEIGHBOUR: 'it returns false'. Refute it at one input. -/
def vmStacksWrong : ChangeSpec := { name := "vmStacks", fn := fun _ => fun
  | [d1, d2, d3] => { results := [.lit (.bool false)], args := [d1, d2, d3] }
  | _ => none }
def VmStacksWrongFalsely : Prop := vmStacksRow.holds Try.pinned (OpenSpec.ofChange vmStacksWrong)

/- THE SECOND FORM. 'bulk': how many values and letters a reading holds, each counted each time it is reached (what is shared counts as often as it is met; a slice's spare places count too). A statement '..UptoSaid' is the law's where the arguments, and the package variables that the reading takes, are together of bulk at most 1048576: NARROWER than '..Said'. Prove '..Said' where nothing that the law and all that it calls make is longer than what came in: it says more and counts as full. Else prove '..UptoSaid'. A law counts once. -/
mutual
def uptoBulk {H : Type} : DataW H → Nat
  | .lit (.string bytes) => bytes.length + 1
  | .lit _ => 1
  | .nil => 1
  | .ptr d => uptoBulk d + 1
  | .slice elems spare => uptoBulkAll elems + uptoBulkAll spare + 1
  | .agg parts => uptoBulkAll parts + 1
  | .iface _ d => uptoBulk d + 1
  | .map entries => uptoBulkEntries entries + 1
  | .held _ => 1
def uptoBulkAll {H : Type} : List (DataW H) → Nat
  | [] => 0
  | d :: r => uptoBulk d + uptoBulkAll r
def uptoBulkEntries {H : Type} : List (Lit × DataW H) → Nat
  | [] => 0
  | x :: r => uptoBulkEntry x + uptoBulkEntries r
def uptoBulkEntry {H : Type} : Lit × DataW H → Nat
  | (.string bytes, d) => bytes.length + uptoBulk d + 1
  | (_, d) => uptoBulk d + 1
 end
def uptoSmall : (H : Type) → List (DataW H) → Bool := fun _ ds => decide (uptoBulkAll ds ≤ 1048576)
def OpenSpec.upto (s : _root_.Go.ChangeSpec) : _root_.Go.OpenSpec := { _root_.Go.OpenSpec.ofChange s with cond := some uptoSmall }

/-- 'detentlaw10.VmTells', WHERE WHAT IT READS IS OF BULK AT MOST 1048576: true; the input reads as it did. -/
def vmTellsUptoRow : OpenClaim := { program := "ytgkjappmcgnabaa", sum := "01c36e44444aa3585a89668a0bff98a381574d9c16550f88de53b23797be237e", func := "detent/detentlaw10.VmTells", spec := "vmTells", unfollowed := true, recurses := true, apart := false, narrowed := true }
def VmTellsUptoSaid : Prop := vmTellsUptoRow.holds Try.pinned (OpenSpec.upto vmTellsSpec)

/-- 'detentlaw10.VmBegins', WHERE WHAT IT READS IS OF BULK AT MOST 1048576: true; the input reads as it did. -/
def vmBeginsUptoRow : OpenClaim := { program := "ytgkjappmcgnabaa", sum := "01c36e44444aa3585a89668a0bff98a381574d9c16550f88de53b23797be237e", func := "detent/detentlaw10.VmBegins", spec := "vmBegins", unfollowed := true, recurses := true, apart := false, narrowed := true }
def VmBeginsUptoSaid : Prop := vmBeginsUptoRow.holds Try.pinned (OpenSpec.upto vmBeginsSpec)

/-- 'detentlaw10.VmDoes', WHERE WHAT IT READS IS OF BULK AT MOST 1048576: true; the input reads as it did. -/
def vmDoesUptoRow : OpenClaim := { program := "ytgkjappmcgnabaa", sum := "01c36e44444aa3585a89668a0bff98a381574d9c16550f88de53b23797be237e", func := "detent/detentlaw10.VmDoes", spec := "vmDoes", unfollowed := true, recurses := true, apart := false, narrowed := true }
def VmDoesUptoSaid : Prop := vmDoesUptoRow.holds Try.pinned (OpenSpec.upto vmDoesSpec)

/-- 'detentlaw10.VmStacks', WHERE WHAT IT READS IS OF BULK AT MOST 1048576: true; the input reads as it did. -/
def vmStacksUptoRow : OpenClaim := { program := "ytgkjappmcgnabaa", sum := "01c36e44444aa3585a89668a0bff98a381574d9c16550f88de53b23797be237e", func := "detent/detentlaw10.VmStacks", spec := "vmStacks", unfollowed := true, recurses := true, apart := false, narrowed := true }
def VmStacksUptoSaid : Prop := vmStacksUptoRow.holds Try.pinned (OpenSpec.upto vmStacksSpec)

end Rows
end Go.Proofs.Ytgkjappmcgnabaa
