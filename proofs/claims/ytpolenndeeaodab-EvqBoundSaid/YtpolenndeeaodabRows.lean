/-
  No cell of these rows narrows 'for every input' (looked for: loops, veiled, ifaces, maps, wideKeys, modest, calm, conditions, laid).
  DERIVED. THE GIVEN ROWS OF THIS SEAT. 5 by the template 'for every input the law returns true; each argument reads behind the call as it read before'; 0 by the template 'total and deterministic' (their statements: YtpolenndeeaodabTotals.lean).
  GIVEN WITH THE SEED: the statements are not yours to turn. If you find one false, say at which input.
  Laid BY PROGRAM, IN A SANDBOX (cutbox-rows.mjs): the forced cells as the released guide's own fill.sh prints them over the translation 9f4c32f3d0c1b58b… (all of the seat's roots in one cut). By AI agents, Wed Nov 11 2026. No macro, syntax, notation, axiom, sorry.
-/
import Derived.Test.YtpolenndeeaodabChecked
import GoSem.Claim
import GoSem.ClaimJoined
import GoSem.ClaimMapViews
import Derived.JoinedTies
import Derived.KernelRfl
namespace Go.Proofs.Ytpolenndeeaodab
/- THE CELL 'sum', in the pinned program and in every row, IS THE sha256 OF THE DUMP (.gsa) THAT YtpolenndeeaodabProg.lean LOADS. Nothing in Lean hashes anything: it is a label: what it is worth is what the hold of that sum in a sandbox is worth. -/
noncomputable def Try.pinned : Pinned := { name := "ytpolenndeeaodab", sum := "9f4c32f3d0c1b58bafbeaf66cc30f199eb2f10166f21510d255671c8fbb894b0", checked := Try.checked }
namespace Rows
def none {H : Type} : Left H := { results := [], args := [] }

/-- 'detentlaw21.EvqTells': WHATEVER THE INPUT: true; the input reads as it did. -/
def evqTellsSpec : ChangeSpec := { name := "evqTells", fn := fun _ => fun
  | [d] => { results := [.lit (.bool true)], args := [d] }
  | _ => none }
def evqTellsRow : OpenClaim := { program := "ytpolenndeeaodab", sum := "9f4c32f3d0c1b58bafbeaf66cc30f199eb2f10166f21510d255671c8fbb894b0", func := "detent/detentlaw21.EvqTells", spec := "evqTells", unfollowed := true, recurses := true, apart := false }
def EvqTellsSaid : Prop := evqTellsRow.holds Try.pinned (OpenSpec.ofChange evqTellsSpec)

/-- ITS FALSE NEIGHBOUR: 'it returns false'. Refute it at one input. -/
def evqTellsWrong : ChangeSpec := { name := "evqTells", fn := fun _ => fun
  | [d] => { results := [.lit (.bool false)], args := [d] }
  | _ => none }
def EvqTellsWrongFalsely : Prop := evqTellsRow.holds Try.pinned (OpenSpec.ofChange evqTellsWrong)

/-- 'detentlaw21.EvqStays': WHATEVER THE INPUT: true; the input reads as it did. -/
def evqStaysSpec : ChangeSpec := { name := "evqStays", fn := fun _ => fun
  | [d] => { results := [.lit (.bool true)], args := [d] }
  | _ => none }
def evqStaysRow : OpenClaim := { program := "ytpolenndeeaodab", sum := "9f4c32f3d0c1b58bafbeaf66cc30f199eb2f10166f21510d255671c8fbb894b0", func := "detent/detentlaw21.EvqStays", spec := "evqStays", unfollowed := true, recurses := true, apart := false }
def EvqStaysSaid : Prop := evqStaysRow.holds Try.pinned (OpenSpec.ofChange evqStaysSpec)

/-- ITS FALSE NEIGHBOUR: 'it returns false'. Refute it at one input. -/
def evqStaysWrong : ChangeSpec := { name := "evqStays", fn := fun _ => fun
  | [d] => { results := [.lit (.bool false)], args := [d] }
  | _ => none }
def EvqStaysWrongFalsely : Prop := evqStaysRow.holds Try.pinned (OpenSpec.ofChange evqStaysWrong)

/-- 'detentlaw21.EvqBound': WHATEVER THE INPUT: true; the input reads as it did. -/
def evqBoundSpec : ChangeSpec := { name := "evqBound", fn := fun _ => fun
  | [d1, d2, d3] => { results := [.lit (.bool true)], args := [d1, d2, d3] }
  | _ => none }
def evqBoundRow : OpenClaim := { program := "ytpolenndeeaodab", sum := "9f4c32f3d0c1b58bafbeaf66cc30f199eb2f10166f21510d255671c8fbb894b0", func := "detent/detentlaw21.EvqBound", spec := "evqBound", unfollowed := true, recurses := true, apart := false }
def EvqBoundSaid : Prop := evqBoundRow.holds Try.pinned (OpenSpec.ofChange evqBoundSpec)

/-- ITS FALSE NEIGHBOUR: 'it returns false'. Refute it at one input. -/
def evqBoundWrong : ChangeSpec := { name := "evqBound", fn := fun _ => fun
  | [d1, d2, d3] => { results := [.lit (.bool false)], args := [d1, d2, d3] }
  | _ => none }
def EvqBoundWrongFalsely : Prop := evqBoundRow.holds Try.pinned (OpenSpec.ofChange evqBoundWrong)

/-- 'detentlaw21.EvqOrder': WHATEVER THE INPUT: true; the input reads as it did. -/
def evqOrderSpec : ChangeSpec := { name := "evqOrder", fn := fun _ => fun
  | [d] => { results := [.lit (.bool true)], args := [d] }
  | _ => none }
def evqOrderRow : OpenClaim := { program := "ytpolenndeeaodab", sum := "9f4c32f3d0c1b58bafbeaf66cc30f199eb2f10166f21510d255671c8fbb894b0", func := "detent/detentlaw21.EvqOrder", spec := "evqOrder", unfollowed := true, recurses := true, apart := false }
def EvqOrderSaid : Prop := evqOrderRow.holds Try.pinned (OpenSpec.ofChange evqOrderSpec)

/-- ITS FALSE NEIGHBOUR: 'it returns false'. Refute it at one input. -/
def evqOrderWrong : ChangeSpec := { name := "evqOrder", fn := fun _ => fun
  | [d] => { results := [.lit (.bool false)], args := [d] }
  | _ => none }
def EvqOrderWrongFalsely : Prop := evqOrderRow.holds Try.pinned (OpenSpec.ofChange evqOrderWrong)

/-- 'detentlaw21.EvqScript': WHATEVER THE INPUT: true; the input reads as it did. -/
def evqScriptSpec : ChangeSpec := { name := "evqScript", fn := fun _ => fun
  | [d1, d2, d3] => { results := [.lit (.bool true)], args := [d1, d2, d3] }
  | _ => none }
def evqScriptRow : OpenClaim := { program := "ytpolenndeeaodab", sum := "9f4c32f3d0c1b58bafbeaf66cc30f199eb2f10166f21510d255671c8fbb894b0", func := "detent/detentlaw21.EvqScript", spec := "evqScript", unfollowed := true, recurses := true, apart := false }
def EvqScriptSaid : Prop := evqScriptRow.holds Try.pinned (OpenSpec.ofChange evqScriptSpec)

/-- ITS FALSE NEIGHBOUR: 'it returns false'. Refute it at one input. -/
def evqScriptWrong : ChangeSpec := { name := "evqScript", fn := fun _ => fun
  | [d1, d2, d3] => { results := [.lit (.bool false)], args := [d1, d2, d3] }
  | _ => none }
def EvqScriptWrongFalsely : Prop := evqScriptRow.holds Try.pinned (OpenSpec.ofChange evqScriptWrong)

/- THE SECOND FORM. 'bulk': how many values and letters a reading holds, each counted each time it is reached (what is shared counts as often as it is met; a slice's spare places count too). A statement '..UptoSaid' is the law's where the arguments, and the package variables that the reading takes, are together of bulk at most 1048576: NARROWER than '..Said'. Prove '..Said' where nothing that the law and all that it calls make is longer than what came in: it says more and counts as full. Else prove '..UptoSaid'. A law counts once. -/
mutual
def uptoBulk {H : Type} : DataW H → Nat
  | .lit (.string bytes) => bytes.length + 1
  | .lit _ => 1
  | .nil => 1
  | .ptr d => uptoBulk d + 1
  | .slice elems spare => uptoBulkAll elems + uptoBulkAll spare + 1
  | .agg parts => uptoBulkAll parts + 1
  | .iface _ d => uptoBulk d + 1
  | .map entries => uptoBulkEntries entries + 1
  | .held _ => 1
def uptoBulkAll {H : Type} : List (DataW H) → Nat
  | [] => 0
  | d :: r => uptoBulk d + uptoBulkAll r
def uptoBulkEntries {H : Type} : List (Lit × DataW H) → Nat
  | [] => 0
  | x :: r => uptoBulkEntry x + uptoBulkEntries r
def uptoBulkEntry {H : Type} : Lit × DataW H → Nat
  | (.string bytes, d) => bytes.length + uptoBulk d + 1
  | (_, d) => uptoBulk d + 1
 end
def uptoSmall : (H : Type) → List (DataW H) → Bool := fun _ ds => decide (uptoBulkAll ds ≤ 1048576)
def OpenSpec.upto (s : _root_.Go.ChangeSpec) : _root_.Go.OpenSpec := { _root_.Go.OpenSpec.ofChange s with cond := some uptoSmall }

/-- 'detentlaw21.EvqTells', WHERE WHAT IT READS IS OF BULK AT MOST 1048576: true; the input reads as it did. -/
def evqTellsUptoRow : OpenClaim := { program := "ytpolenndeeaodab", sum := "9f4c32f3d0c1b58bafbeaf66cc30f199eb2f10166f21510d255671c8fbb894b0", func := "detent/detentlaw21.EvqTells", spec := "evqTells", unfollowed := true, recurses := true, apart := false, narrowed := true }
def EvqTellsUptoSaid : Prop := evqTellsUptoRow.holds Try.pinned (OpenSpec.upto evqTellsSpec)

/-- 'detentlaw21.EvqStays', WHERE WHAT IT READS IS OF BULK AT MOST 1048576: true; the input reads as it did. -/
def evqStaysUptoRow : OpenClaim := { program := "ytpolenndeeaodab", sum := "9f4c32f3d0c1b58bafbeaf66cc30f199eb2f10166f21510d255671c8fbb894b0", func := "detent/detentlaw21.EvqStays", spec := "evqStays", unfollowed := true, recurses := true, apart := false, narrowed := true }
def EvqStaysUptoSaid : Prop := evqStaysUptoRow.holds Try.pinned (OpenSpec.upto evqStaysSpec)

/-- 'detentlaw21.EvqBound', WHERE WHAT IT READS IS OF BULK AT MOST 1048576: true; the input reads as it did. -/
def evqBoundUptoRow : OpenClaim := { program := "ytpolenndeeaodab", sum := "9f4c32f3d0c1b58bafbeaf66cc30f199eb2f10166f21510d255671c8fbb894b0", func := "detent/detentlaw21.EvqBound", spec := "evqBound", unfollowed := true, recurses := true, apart := false, narrowed := true }
def EvqBoundUptoSaid : Prop := evqBoundUptoRow.holds Try.pinned (OpenSpec.upto evqBoundSpec)

/-- 'detentlaw21.EvqOrder', WHERE WHAT IT READS IS OF BULK AT MOST 1048576: true; the input reads as it did. -/
def evqOrderUptoRow : OpenClaim := { program := "ytpolenndeeaodab", sum := "9f4c32f3d0c1b58bafbeaf66cc30f199eb2f10166f21510d255671c8fbb894b0", func := "detent/detentlaw21.EvqOrder", spec := "evqOrder", unfollowed := true, recurses := true, apart := false, narrowed := true }
def EvqOrderUptoSaid : Prop := evqOrderUptoRow.holds Try.pinned (OpenSpec.upto evqOrderSpec)

/-- 'detentlaw21.EvqScript', WHERE WHAT IT READS IS OF BULK AT MOST 1048576: true; the input reads as it did. -/
def evqScriptUptoRow : OpenClaim := { program := "ytpolenndeeaodab", sum := "9f4c32f3d0c1b58bafbeaf66cc30f199eb2f10166f21510d255671c8fbb894b0", func := "detent/detentlaw21.EvqScript", spec := "evqScript", unfollowed := true, recurses := true, apart := false, narrowed := true }
def EvqScriptUptoSaid : Prop := evqScriptUptoRow.holds Try.pinned (OpenSpec.upto evqScriptSpec)

end Rows
end Go.Proofs.Ytpolenndeeaodab
