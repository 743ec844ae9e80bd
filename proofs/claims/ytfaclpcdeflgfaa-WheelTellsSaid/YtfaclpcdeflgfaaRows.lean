/-
  No cell of these rows narrows 'for every input' (looked for: loops, veiled, ifaces, maps, wideKeys, modest, calm, conditions, laid).
  DERIVED. THE GIVEN ROWS OF THIS SEAT. 5 by the template 'for every input the law returns true; each argument reads behind the call as it read before'; 0 by the template 'total and deterministic' (their statements: YtfaclpcdeflgfaaTotals.lean).
  GIVEN WITH THE SEED: the statements are not yours to turn. If you find one false, say at which input.
  Laid BY PROGRAM, IN A SANDBOX (cutbox-rows.mjs): the forced cells as the released guide's own fill.sh prints them over the translation 3c4954d90363d88d… (all of the seat's roots in one cut). By AI agents, Wed Nov 11 2026. No macro, syntax, notation, axiom, sorry.
-/
import Derived.Test.YtfaclpcdeflgfaaChecked
import GoSem.Claim
import GoSem.ClaimJoined
import GoSem.ClaimMapViews
import Derived.JoinedTies
import Derived.KernelRfl
namespace Go.Proofs.Ytfaclpcdeflgfaa
/- THE CELL 'sum', in the pinned program and in every row, IS THE sha256 OF THE DUMP (.gsa) THAT YtfaclpcdeflgfaaProg.lean LOADS. Nothing in Lean hashes anything: it is a label: what it is worth is what the hold of that sum in a sandbox is worth. -/
noncomputable def Try.pinned : Pinned := { name := "ytfaclpcdeflgfaa", sum := "3c4954d90363d88d0ce21f6f223bc805cc15b592e59dc34661cba195a6cab24b", checked := Try.checked }
namespace Rows
def none {H : Type} : Left H := { results := [], args := [] }

/-- 'detentlaw19.WheelTells': WHATEVER THE INPUT: true; the input reads as it did. -/
def wheelTellsSpec : ChangeSpec := { name := "wheelTells", fn := fun _ => fun
  | [d1, d2] => { results := [.lit (.bool true)], args := [d1, d2] }
  | _ => none }
def wheelTellsRow : OpenClaim := { program := "ytfaclpcdeflgfaa", sum := "3c4954d90363d88d0ce21f6f223bc805cc15b592e59dc34661cba195a6cab24b", func := "detent/detentlaw19.WheelTells", spec := "wheelTells", unfollowed := true, recurses := true, apart := false }
def WheelTellsSaid : Prop := wheelTellsRow.holds Try.pinned (OpenSpec.ofChange wheelTellsSpec)

/-- ITS FALSE NEIGHBOUR: 'it returns false'. Refute it at one input. -/
def wheelTellsWrong : ChangeSpec := { name := "wheelTells", fn := fun _ => fun
  | [d1, d2] => { results := [.lit (.bool false)], args := [d1, d2] }
  | _ => none }
def WheelTellsWrongFalsely : Prop := wheelTellsRow.holds Try.pinned (OpenSpec.ofChange wheelTellsWrong)

/-- 'detentlaw19.WheelComes': WHATEVER THE INPUT: true; the input reads as it did. -/
def wheelComesSpec : ChangeSpec := { name := "wheelComes", fn := fun _ => fun
  | [d1, d2, d3] => { results := [.lit (.bool true)], args := [d1, d2, d3] }
  | _ => none }
def wheelComesRow : OpenClaim := { program := "ytfaclpcdeflgfaa", sum := "3c4954d90363d88d0ce21f6f223bc805cc15b592e59dc34661cba195a6cab24b", func := "detent/detentlaw19.WheelComes", spec := "wheelComes", unfollowed := true, recurses := true, apart := false }
def WheelComesSaid : Prop := wheelComesRow.holds Try.pinned (OpenSpec.ofChange wheelComesSpec)

/-- ITS FALSE NEIGHBOUR: 'it returns false'. Refute it at one input. -/
def wheelComesWrong : ChangeSpec := { name := "wheelComes", fn := fun _ => fun
  | [d1, d2, d3] => { results := [.lit (.bool false)], args := [d1, d2, d3] }
  | _ => none }
def WheelComesWrongFalsely : Prop := wheelComesRow.holds Try.pinned (OpenSpec.ofChange wheelComesWrong)

/-- 'detentlaw19.WheelFull': WHATEVER THE INPUT: true; the input reads as it did. -/
def wheelFullSpec : ChangeSpec := { name := "wheelFull", fn := fun _ => fun
  | [d1, d2] => { results := [.lit (.bool true)], args := [d1, d2] }
  | _ => none }
def wheelFullRow : OpenClaim := { program := "ytfaclpcdeflgfaa", sum := "3c4954d90363d88d0ce21f6f223bc805cc15b592e59dc34661cba195a6cab24b", func := "detent/detentlaw19.WheelFull", spec := "wheelFull", unfollowed := true, recurses := true, apart := false }
def WheelFullSaid : Prop := wheelFullRow.holds Try.pinned (OpenSpec.ofChange wheelFullSpec)

/-- ITS FALSE NEIGHBOUR: 'it returns false'. Refute it at one input. -/
def wheelFullWrong : ChangeSpec := { name := "wheelFull", fn := fun _ => fun
  | [d1, d2] => { results := [.lit (.bool false)], args := [d1, d2] }
  | _ => none }
def WheelFullWrongFalsely : Prop := wheelFullRow.holds Try.pinned (OpenSpec.ofChange wheelFullWrong)

/-- 'detentlaw19.WheelFar': WHATEVER THE INPUT: true; the input reads as it did. -/
def wheelFarSpec : ChangeSpec := { name := "wheelFar", fn := fun _ => fun
  | [d] => { results := [.lit (.bool true)], args := [d] }
  | _ => none }
def wheelFarRow : OpenClaim := { program := "ytfaclpcdeflgfaa", sum := "3c4954d90363d88d0ce21f6f223bc805cc15b592e59dc34661cba195a6cab24b", func := "detent/detentlaw19.WheelFar", spec := "wheelFar", unfollowed := true, recurses := true, apart := false }
def WheelFarSaid : Prop := wheelFarRow.holds Try.pinned (OpenSpec.ofChange wheelFarSpec)

/-- ITS FALSE NEIGHBOUR: 'it returns false'. Refute it at one input. -/
def wheelFarWrong : ChangeSpec := { name := "wheelFar", fn := fun _ => fun
  | [d] => { results := [.lit (.bool false)], args := [d] }
  | _ => none }
def WheelFarWrongFalsely : Prop := wheelFarRow.holds Try.pinned (OpenSpec.ofChange wheelFarWrong)

/-- 'detentlaw19.WheelCuts': WHATEVER THE INPUT: true; the input reads as it did. -/
def wheelCutsSpec : ChangeSpec := { name := "wheelCuts", fn := fun _ => fun
  | [d] => { results := [.lit (.bool true)], args := [d] }
  | _ => none }
def wheelCutsRow : OpenClaim := { program := "ytfaclpcdeflgfaa", sum := "3c4954d90363d88d0ce21f6f223bc805cc15b592e59dc34661cba195a6cab24b", func := "detent/detentlaw19.WheelCuts", spec := "wheelCuts", unfollowed := true, recurses := true, apart := false }
def WheelCutsSaid : Prop := wheelCutsRow.holds Try.pinned (OpenSpec.ofChange wheelCutsSpec)

/-- ITS FALSE NEIGHBOUR: 'it returns false'. Refute it at one input. -/
def wheelCutsWrong : ChangeSpec := { name := "wheelCuts", fn := fun _ => fun
  | [d] => { results := [.lit (.bool false)], args := [d] }
  | _ => none }
def WheelCutsWrongFalsely : Prop := wheelCutsRow.holds Try.pinned (OpenSpec.ofChange wheelCutsWrong)

/- THE SECOND FORM. 'bulk': how many values and letters a reading holds, each counted each time it is reached (what is shared counts as often as it is met; a slice's spare places count too). A statement '..UptoSaid' is the law's where the arguments, and the package variables that the reading takes, are together of bulk at most 1048576: NARROWER than '..Said'. Prove '..Said' where nothing that the law and all that it calls make is longer than what came in: it says more and counts as full. Else prove '..UptoSaid'. A law counts once. -/
mutual
def uptoBulk {H : Type} : DataW H → Nat
  | .lit (.string bytes) => bytes.length + 1
  | .lit _ => 1
  | .nil => 1
  | .ptr d => uptoBulk d + 1
  | .slice elems spare => uptoBulkAll elems + uptoBulkAll spare + 1
  | .agg parts => uptoBulkAll parts + 1
  | .iface _ d => uptoBulk d + 1
  | .map entries => uptoBulkEntries entries + 1
  | .held _ => 1
def uptoBulkAll {H : Type} : List (DataW H) → Nat
  | [] => 0
  | d :: r => uptoBulk d + uptoBulkAll r
def uptoBulkEntries {H : Type} : List (Lit × DataW H) → Nat
  | [] => 0
  | x :: r => uptoBulkEntry x + uptoBulkEntries r
def uptoBulkEntry {H : Type} : Lit × DataW H → Nat
  | (.string bytes, d) => bytes.length + uptoBulk d + 1
  | (_, d) => uptoBulk d + 1
 end
def uptoSmall : (H : Type) → List (DataW H) → Bool := fun _ ds => decide (uptoBulkAll ds ≤ 1048576)
def OpenSpec.upto (s : _root_.Go.ChangeSpec) : _root_.Go.OpenSpec := { _root_.Go.OpenSpec.ofChange s with cond := some uptoSmall }

/-- 'detentlaw19.WheelTells', WHERE WHAT IT READS IS OF BULK AT MOST 1048576: true; the input reads as it did. -/
def wheelTellsUptoRow : OpenClaim := { program := "ytfaclpcdeflgfaa", sum := "3c4954d90363d88d0ce21f6f223bc805cc15b592e59dc34661cba195a6cab24b", func := "detent/detentlaw19.WheelTells", spec := "wheelTells", unfollowed := true, recurses := true, apart := false, narrowed := true }
def WheelTellsUptoSaid : Prop := wheelTellsUptoRow.holds Try.pinned (OpenSpec.upto wheelTellsSpec)

/-- 'detentlaw19.WheelComes', WHERE WHAT IT READS IS OF BULK AT MOST 1048576: true; the input reads as it did. -/
def wheelComesUptoRow : OpenClaim := { program := "ytfaclpcdeflgfaa", sum := "3c4954d90363d88d0ce21f6f223bc805cc15b592e59dc34661cba195a6cab24b", func := "detent/detentlaw19.WheelComes", spec := "wheelComes", unfollowed := true, recurses := true, apart := false, narrowed := true }
def WheelComesUptoSaid : Prop := wheelComesUptoRow.holds Try.pinned (OpenSpec.upto wheelComesSpec)

/-- 'detentlaw19.WheelFull', WHERE WHAT IT READS IS OF BULK AT MOST 1048576: true; the input reads as it did. -/
def wheelFullUptoRow : OpenClaim := { program := "ytfaclpcdeflgfaa", sum := "3c4954d90363d88d0ce21f6f223bc805cc15b592e59dc34661cba195a6cab24b", func := "detent/detentlaw19.WheelFull", spec := "wheelFull", unfollowed := true, recurses := true, apart := false, narrowed := true }
def WheelFullUptoSaid : Prop := wheelFullUptoRow.holds Try.pinned (OpenSpec.upto wheelFullSpec)

/-- 'detentlaw19.WheelFar', WHERE WHAT IT READS IS OF BULK AT MOST 1048576: true; the input reads as it did. -/
def wheelFarUptoRow : OpenClaim := { program := "ytfaclpcdeflgfaa", sum := "3c4954d90363d88d0ce21f6f223bc805cc15b592e59dc34661cba195a6cab24b", func := "detent/detentlaw19.WheelFar", spec := "wheelFar", unfollowed := true, recurses := true, apart := false, narrowed := true }
def WheelFarUptoSaid : Prop := wheelFarUptoRow.holds Try.pinned (OpenSpec.upto wheelFarSpec)

/-- 'detentlaw19.WheelCuts', WHERE WHAT IT READS IS OF BULK AT MOST 1048576: true; the input reads as it did. -/
def wheelCutsUptoRow : OpenClaim := { program := "ytfaclpcdeflgfaa", sum := "3c4954d90363d88d0ce21f6f223bc805cc15b592e59dc34661cba195a6cab24b", func := "detent/detentlaw19.WheelCuts", spec := "wheelCuts", unfollowed := true, recurses := true, apart := false, narrowed := true }
def WheelCutsUptoSaid : Prop := wheelCutsUptoRow.holds Try.pinned (OpenSpec.upto wheelCutsSpec)

end Rows
end Go.Proofs.Ytfaclpcdeflgfaa
