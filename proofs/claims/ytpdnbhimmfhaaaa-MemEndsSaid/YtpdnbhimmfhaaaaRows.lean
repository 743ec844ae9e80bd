/-
  No cell of these rows narrows 'for every input' (looked for: loops, veiled, ifaces, maps, wideKeys, modest, calm, conditions, laid).
  DERIVED. THE GIVEN ROWS OF THIS SEAT. 8 by the template 'for every input the law returns true; each argument reads behind the call as it read before'; 0 by the template 'total and deterministic' (their statements: YtpdnbhimmfhaaaaTotals.lean).
  GIVEN WITH THE SEED: the statements are not yours to turn. If you find one false, say at which input.
  Laid BY PROGRAM, IN A SANDBOX (cutbox-rows.mjs): the forced cells as the released guide's own fill.sh prints them over the translation 215d8c27b0a8c1c2… (all of the seat's roots in one cut). By AI agents, Wed Nov 11 2026. No macro, syntax, notation, axiom, sorry.
-/
import Derived.Test.YtpdnbhimmfhaaaaChecked
import GoSem.Claim
import GoSem.ClaimJoined
import GoSem.ClaimMapViews
import Derived.JoinedTies
import Derived.KernelRfl
namespace Go.Proofs.Ytpdnbhimmfhaaaa
/- THE CELL 'sum', in the pinned program and in every row, IS THE sha256 OF THE DUMP (.gsa) THAT YtpdnbhimmfhaaaaProg.lean LOADS. Nothing in Lean hashes anything: it is a label: what it is worth is what the hold of that sum in a sandbox is worth. -/
noncomputable def Try.pinned : Pinned := { name := "ytpdnbhimmfhaaaa", sum := "215d8c27b0a8c1c201f40f1fa431a4b799b047f09dd1191accf8254f7978fe5c", checked := Try.checked }
namespace Rows
def none {H : Type} : Left H := { results := [], args := [] }

/-- 'detentlaw03.MemUndoes': WHATEVER THE INPUT: true; the input reads as it did. -/
def memUndoesSpec : ChangeSpec := { name := "memUndoes", fn := fun _ => fun
  | [d1, d2] => { results := [.lit (.bool true)], args := [d1, d2] }
  | _ => none }
def memUndoesRow : OpenClaim := { program := "ytpdnbhimmfhaaaa", sum := "215d8c27b0a8c1c201f40f1fa431a4b799b047f09dd1191accf8254f7978fe5c", func := "detent/detentlaw03.MemUndoes", spec := "memUndoes", unfollowed := true, recurses := true, apart := false }
def MemUndoesSaid : Prop := memUndoesRow.holds Try.pinned (OpenSpec.ofChange memUndoesSpec)

/-- ITS FALSE NEIGHBOUR: 'it returns false'. Refute it at one input. -/
def memUndoesWrong : ChangeSpec := { name := "memUndoes", fn := fun _ => fun
  | [d1, d2] => { results := [.lit (.bool false)], args := [d1, d2] }
  | _ => none }
def MemUndoesWrongFalsely : Prop := memUndoesRow.holds Try.pinned (OpenSpec.ofChange memUndoesWrong)

/-- 'detentlaw03.MemHolds': WHATEVER THE INPUT: true; the input reads as it did. -/
def memHoldsSpec : ChangeSpec := { name := "memHolds", fn := fun _ => fun
  | [d] => { results := [.lit (.bool true)], args := [d] }
  | _ => none }
def memHoldsRow : OpenClaim := { program := "ytpdnbhimmfhaaaa", sum := "215d8c27b0a8c1c201f40f1fa431a4b799b047f09dd1191accf8254f7978fe5c", func := "detent/detentlaw03.MemHolds", spec := "memHolds", unfollowed := true, recurses := true, apart := false }
def MemHoldsSaid : Prop := memHoldsRow.holds Try.pinned (OpenSpec.ofChange memHoldsSpec)

/-- ITS FALSE NEIGHBOUR: 'it returns false'. Refute it at one input. -/
def memHoldsWrong : ChangeSpec := { name := "memHolds", fn := fun _ => fun
  | [d] => { results := [.lit (.bool false)], args := [d] }
  | _ => none }
def MemHoldsWrongFalsely : Prop := memHoldsRow.holds Try.pinned (OpenSpec.ofChange memHoldsWrong)

/-- 'detentlaw03.MemTwo': WHATEVER THE INPUT: true; the input reads as it did. -/
def memTwoSpec : ChangeSpec := { name := "memTwo", fn := fun _ => fun
  | [d] => { results := [.lit (.bool true)], args := [d] }
  | _ => none }
def memTwoRow : OpenClaim := { program := "ytpdnbhimmfhaaaa", sum := "215d8c27b0a8c1c201f40f1fa431a4b799b047f09dd1191accf8254f7978fe5c", func := "detent/detentlaw03.MemTwo", spec := "memTwo", unfollowed := true, recurses := true, apart := false }
def MemTwoSaid : Prop := memTwoRow.holds Try.pinned (OpenSpec.ofChange memTwoSpec)

/-- ITS FALSE NEIGHBOUR: 'it returns false'. Refute it at one input. -/
def memTwoWrong : ChangeSpec := { name := "memTwo", fn := fun _ => fun
  | [d] => { results := [.lit (.bool false)], args := [d] }
  | _ => none }
def MemTwoWrongFalsely : Prop := memTwoRow.holds Try.pinned (OpenSpec.ofChange memTwoWrong)

/-- 'detentlaw03.MemTells': WHATEVER THE INPUT: true; the input reads as it did. -/
def memTellsSpec : ChangeSpec := { name := "memTells", fn := fun _ => fun
  | [d] => { results := [.lit (.bool true)], args := [d] }
  | _ => none }
def memTellsRow : OpenClaim := { program := "ytpdnbhimmfhaaaa", sum := "215d8c27b0a8c1c201f40f1fa431a4b799b047f09dd1191accf8254f7978fe5c", func := "detent/detentlaw03.MemTells", spec := "memTells", unfollowed := true, recurses := true, apart := false }
def MemTellsSaid : Prop := memTellsRow.holds Try.pinned (OpenSpec.ofChange memTellsSpec)

/-- ITS FALSE NEIGHBOUR: 'it returns false'. Refute it at one input. -/
def memTellsWrong : ChangeSpec := { name := "memTells", fn := fun _ => fun
  | [d] => { results := [.lit (.bool false)], args := [d] }
  | _ => none }
def MemTellsWrongFalsely : Prop := memTellsRow.holds Try.pinned (OpenSpec.ofChange memTellsWrong)

/-- 'detentlaw03.MemEnds': WHATEVER THE INPUT: true; the input reads as it did. -/
def memEndsSpec : ChangeSpec := { name := "memEnds", fn := fun _ => fun
  | [d1, d2, d3] => { results := [.lit (.bool true)], args := [d1, d2, d3] }
  | _ => none }
def memEndsRow : OpenClaim := { program := "ytpdnbhimmfhaaaa", sum := "215d8c27b0a8c1c201f40f1fa431a4b799b047f09dd1191accf8254f7978fe5c", func := "detent/detentlaw03.MemEnds", spec := "memEnds", inPlace := ["internal/bytealg.MakeNoZero"], unfollowed := true, recurses := true, apart := false }
def MemEndsSaid : Prop := memEndsRow.holds Try.pinned (OpenSpec.ofChange memEndsSpec)

/-- ITS FALSE NEIGHBOUR: 'it returns false'. Refute it at one input. -/
def memEndsWrong : ChangeSpec := { name := "memEnds", fn := fun _ => fun
  | [d1, d2, d3] => { results := [.lit (.bool false)], args := [d1, d2, d3] }
  | _ => none }
def MemEndsWrongFalsely : Prop := memEndsRow.holds Try.pinned (OpenSpec.ofChange memEndsWrong)

/-- 'detentlaw03.MemTexts': WHATEVER THE INPUT: true; the input reads as it did. -/
def memTextsSpec : ChangeSpec := { name := "memTexts", fn := fun _ => fun
  | [d] => { results := [.lit (.bool true)], args := [d] }
  | _ => none }
def memTextsRow : OpenClaim := { program := "ytpdnbhimmfhaaaa", sum := "215d8c27b0a8c1c201f40f1fa431a4b799b047f09dd1191accf8254f7978fe5c", func := "detent/detentlaw03.MemTexts", spec := "memTexts", inPlace := ["internal/bytealg.MakeNoZero"], unfollowed := true, recurses := true, apart := false }
def MemTextsSaid : Prop := memTextsRow.holds Try.pinned (OpenSpec.ofChange memTextsSpec)

/-- ITS FALSE NEIGHBOUR: 'it returns false'. Refute it at one input. -/
def memTextsWrong : ChangeSpec := { name := "memTexts", fn := fun _ => fun
  | [d] => { results := [.lit (.bool false)], args := [d] }
  | _ => none }
def MemTextsWrongFalsely : Prop := memTextsRow.holds Try.pinned (OpenSpec.ofChange memTextsWrong)

/-- 'detentlaw03.MemMoves': WHATEVER THE INPUT: true; the input reads as it did. -/
def memMovesSpec : ChangeSpec := { name := "memMoves", fn := fun _ => fun
  | [d] => { results := [.lit (.bool true)], args := [d] }
  | _ => none }
def memMovesRow : OpenClaim := { program := "ytpdnbhimmfhaaaa", sum := "215d8c27b0a8c1c201f40f1fa431a4b799b047f09dd1191accf8254f7978fe5c", func := "detent/detentlaw03.MemMoves", spec := "memMoves", inPlace := ["internal/bytealg.MakeNoZero"], unfollowed := true, recurses := true, apart := false }
def MemMovesSaid : Prop := memMovesRow.holds Try.pinned (OpenSpec.ofChange memMovesSpec)

/-- ITS FALSE NEIGHBOUR: 'it returns false'. Refute it at one input. -/
def memMovesWrong : ChangeSpec := { name := "memMoves", fn := fun _ => fun
  | [d] => { results := [.lit (.bool false)], args := [d] }
  | _ => none }
def MemMovesWrongFalsely : Prop := memMovesRow.holds Try.pinned (OpenSpec.ofChange memMovesWrong)

/-- 'detentlaw03.MemBack': WHATEVER THE INPUT: true; the input reads as it did. -/
def memBackSpec : ChangeSpec := { name := "memBack", fn := fun _ => fun
  | [d1, d2] => { results := [.lit (.bool true)], args := [d1, d2] }
  | _ => none }
def memBackRow : OpenClaim := { program := "ytpdnbhimmfhaaaa", sum := "215d8c27b0a8c1c201f40f1fa431a4b799b047f09dd1191accf8254f7978fe5c", func := "detent/detentlaw03.MemBack", spec := "memBack", inPlace := ["internal/bytealg.MakeNoZero"], unfollowed := true, recurses := true, apart := false }
def MemBackSaid : Prop := memBackRow.holds Try.pinned (OpenSpec.ofChange memBackSpec)

/-- ITS FALSE NEIGHBOUR: 'it returns false'. Refute it at one input. -/
def memBackWrong : ChangeSpec := { name := "memBack", fn := fun _ => fun
  | [d1, d2] => { results := [.lit (.bool false)], args := [d1, d2] }
  | _ => none }
def MemBackWrongFalsely : Prop := memBackRow.holds Try.pinned (OpenSpec.ofChange memBackWrong)

/- THE SECOND FORM. 'bulk': how many values and letters a reading holds, each counted each time it is reached (what is shared counts as often as it is met; a slice's spare places count too). A statement '..UptoSaid' is the law's where the arguments, and the package variables that the reading takes, are together of bulk at most 1048576: NARROWER than '..Said'. Prove '..Said' where nothing that the law and all that it calls make is longer than what came in: it says more and counts as full. Else prove '..UptoSaid'. A law counts once. -/
mutual
def uptoBulk {H : Type} : DataW H → Nat
  | .lit (.string bytes) => bytes.length + 1
  | .lit _ => 1
  | .nil => 1
  | .ptr d => uptoBulk d + 1
  | .slice elems spare => uptoBulkAll elems + uptoBulkAll spare + 1
  | .agg parts => uptoBulkAll parts + 1
  | .iface _ d => uptoBulk d + 1
  | .map entries => uptoBulkEntries entries + 1
  | .held _ => 1
def uptoBulkAll {H : Type} : List (DataW H) → Nat
  | [] => 0
  | d :: r => uptoBulk d + uptoBulkAll r
def uptoBulkEntries {H : Type} : List (Lit × DataW H) → Nat
  | [] => 0
  | x :: r => uptoBulkEntry x + uptoBulkEntries r
def uptoBulkEntry {H : Type} : Lit × DataW H → Nat
  | (.string bytes, d) => bytes.length + uptoBulk d + 1
  | (_, d) => uptoBulk d + 1
 end
def uptoSmall : (H : Type) → List (DataW H) → Bool := fun _ ds => decide (uptoBulkAll ds ≤ 1048576)
def OpenSpec.upto (s : _root_.Go.ChangeSpec) : _root_.Go.OpenSpec := { _root_.Go.OpenSpec.ofChange s with cond := some uptoSmall }

/-- 'detentlaw03.MemUndoes', WHERE WHAT IT READS IS OF BULK AT MOST 1048576: true; the input reads as it did. -/
def memUndoesUptoRow : OpenClaim := { program := "ytpdnbhimmfhaaaa", sum := "215d8c27b0a8c1c201f40f1fa431a4b799b047f09dd1191accf8254f7978fe5c", func := "detent/detentlaw03.MemUndoes", spec := "memUndoes", unfollowed := true, recurses := true, apart := false, narrowed := true }
def MemUndoesUptoSaid : Prop := memUndoesUptoRow.holds Try.pinned (OpenSpec.upto memUndoesSpec)

/-- 'detentlaw03.MemHolds', WHERE WHAT IT READS IS OF BULK AT MOST 1048576: true; the input reads as it did. -/
def memHoldsUptoRow : OpenClaim := { program := "ytpdnbhimmfhaaaa", sum := "215d8c27b0a8c1c201f40f1fa431a4b799b047f09dd1191accf8254f7978fe5c", func := "detent/detentlaw03.MemHolds", spec := "memHolds", unfollowed := true, recurses := true, apart := false, narrowed := true }
def MemHoldsUptoSaid : Prop := memHoldsUptoRow.holds Try.pinned (OpenSpec.upto memHoldsSpec)

/-- 'detentlaw03.MemTwo', WHERE WHAT IT READS IS OF BULK AT MOST 1048576: true; the input reads as it did. -/
def memTwoUptoRow : OpenClaim := { program := "ytpdnbhimmfhaaaa", sum := "215d8c27b0a8c1c201f40f1fa431a4b799b047f09dd1191accf8254f7978fe5c", func := "detent/detentlaw03.MemTwo", spec := "memTwo", unfollowed := true, recurses := true, apart := false, narrowed := true }
def MemTwoUptoSaid : Prop := memTwoUptoRow.holds Try.pinned (OpenSpec.upto memTwoSpec)

/-- 'detentlaw03.MemTells', WHERE WHAT IT READS IS OF BULK AT MOST 1048576: true; the input reads as it did. -/
def memTellsUptoRow : OpenClaim := { program := "ytpdnbhimmfhaaaa", sum := "215d8c27b0a8c1c201f40f1fa431a4b799b047f09dd1191accf8254f7978fe5c", func := "detent/detentlaw03.MemTells", spec := "memTells", unfollowed := true, recurses := true, apart := false, narrowed := true }
def MemTellsUptoSaid : Prop := memTellsUptoRow.holds Try.pinned (OpenSpec.upto memTellsSpec)

/-- 'detentlaw03.MemEnds', WHERE WHAT IT READS IS OF BULK AT MOST 1048576: true; the input reads as it did. -/
def memEndsUptoRow : OpenClaim := { program := "ytpdnbhimmfhaaaa", sum := "215d8c27b0a8c1c201f40f1fa431a4b799b047f09dd1191accf8254f7978fe5c", func := "detent/detentlaw03.MemEnds", spec := "memEnds", inPlace := ["internal/bytealg.MakeNoZero"], unfollowed := true, recurses := true, apart := false, narrowed := true }
def MemEndsUptoSaid : Prop := memEndsUptoRow.holds Try.pinned (OpenSpec.upto memEndsSpec)

/-- 'detentlaw03.MemTexts', WHERE WHAT IT READS IS OF BULK AT MOST 1048576: true; the input reads as it did. -/
def memTextsUptoRow : OpenClaim := { program := "ytpdnbhimmfhaaaa", sum := "215d8c27b0a8c1c201f40f1fa431a4b799b047f09dd1191accf8254f7978fe5c", func := "detent/detentlaw03.MemTexts", spec := "memTexts", inPlace := ["internal/bytealg.MakeNoZero"], unfollowed := true, recurses := true, apart := false, narrowed := true }
def MemTextsUptoSaid : Prop := memTextsUptoRow.holds Try.pinned (OpenSpec.upto memTextsSpec)

/-- 'detentlaw03.MemMoves', WHERE WHAT IT READS IS OF BULK AT MOST 1048576: true; the input reads as it did. -/
def memMovesUptoRow : OpenClaim := { program := "ytpdnbhimmfhaaaa", sum := "215d8c27b0a8c1c201f40f1fa431a4b799b047f09dd1191accf8254f7978fe5c", func := "detent/detentlaw03.MemMoves", spec := "memMoves", inPlace := ["internal/bytealg.MakeNoZero"], unfollowed := true, recurses := true, apart := false, narrowed := true }
def MemMovesUptoSaid : Prop := memMovesUptoRow.holds Try.pinned (OpenSpec.upto memMovesSpec)

/-- 'detentlaw03.MemBack', WHERE WHAT IT READS IS OF BULK AT MOST 1048576: true; the input reads as it did. -/
def memBackUptoRow : OpenClaim := { program := "ytpdnbhimmfhaaaa", sum := "215d8c27b0a8c1c201f40f1fa431a4b799b047f09dd1191accf8254f7978fe5c", func := "detent/detentlaw03.MemBack", spec := "memBack", inPlace := ["internal/bytealg.MakeNoZero"], unfollowed := true, recurses := true, apart := false, narrowed := true }
def MemBackUptoSaid : Prop := memBackUptoRow.holds Try.pinned (OpenSpec.upto memBackSpec)

end Rows
end Go.Proofs.Ytpdnbhimmfhaaaa
