/-
  NARROWER THAN 'FOR EVERY INPUT', by the rows' own cells (each row's printed sentence says how): GenTells: loops · GenMoves: loops · GenParts: loops.
  DERIVED. THE GIVEN ROWS OF THIS SEAT. 3 by the template 'for every input the law returns true; each argument reads behind the call as it read before'; 0 by the template 'total and deterministic' (their statements: YtfphgelollhdhaaTotals.lean).
  GIVEN WITH THE SEED: the statements are not yours to turn. If you find one false, say at which input.
  Laid BY PROGRAM, IN A SANDBOX (cutbox-rows.mjs): the forced cells as the released guide's own fill.sh prints them over the translation a01d8b2e6342d682… (all of the seat's roots in one cut). By AI agents, Wed Nov 11 2026. No macro, syntax, notation, axiom, sorry.
-/
import Derived.Test.YtfphgelollhdhaaChecked
import GoSem.Claim
import GoSem.ClaimJoined
import GoSem.ClaimMapViews
import Derived.JoinedTies
import Derived.KernelRfl
namespace Go.Proofs.Ytfphgelollhdhaa
/- THE CELL 'sum', in the pinned program and in every row, IS THE sha256 OF THE DUMP (.gsa) THAT YtfphgelollhdhaaProg.lean LOADS. Nothing in Lean hashes anything: it is a label: what it is worth is what the hold of that sum in a sandbox is worth. -/
noncomputable def Try.pinned : Pinned := { name := "ytfphgelollhdhaa", sum := "a01d8b2e6342d682578644e042ee5b4d67ff3417c6d623963555bc36c1896c35", checked := Try.checked }
namespace Rows
def none {H : Type} : Left H := { results := [], args := [] }

/-- 'detentlaw17.GenTells': WHATEVER THE INPUT: true; the input reads as it did. -/
def genTellsSpec : ChangeSpec := { name := "genTells", fn := fun _ => fun
  | [d1, d2, d3] => { results := [.lit (.bool true)], args := [d1, d2, d3] }
  | _ => none }
def genTellsRow : OpenClaim := { program := "ytfphgelollhdhaa", sum := "a01d8b2e6342d682578644e042ee5b4d67ff3417c6d623963555bc36c1896c35", func := "detent/detentlaw17.GenTells", spec := "genTells", recurses := true, loops := true, apart := false }
def GenTellsSaid : Prop := genTellsRow.holds Try.pinned (OpenSpec.ofChange genTellsSpec)

/-- ITS FALSE NEIGHBOUR: 'it returns false'. Refute it at one input. -/
def genTellsWrong : ChangeSpec := { name := "genTells", fn := fun _ => fun
  | [d1, d2, d3] => { results := [.lit (.bool false)], args := [d1, d2, d3] }
  | _ => none }
def GenTellsWrongFalsely : Prop := genTellsRow.holds Try.pinned (OpenSpec.ofChange genTellsWrong)

/-- 'detentlaw17.GenMoves': WHATEVER THE INPUT: true; the input reads as it did. -/
def genMovesSpec : ChangeSpec := { name := "genMoves", fn := fun _ => fun
  | [d1, d2, d3] => { results := [.lit (.bool true)], args := [d1, d2, d3] }
  | _ => none }
def genMovesRow : OpenClaim := { program := "ytfphgelollhdhaa", sum := "a01d8b2e6342d682578644e042ee5b4d67ff3417c6d623963555bc36c1896c35", func := "detent/detentlaw17.GenMoves", spec := "genMoves", recurses := true, loops := true, apart := false }
def GenMovesSaid : Prop := genMovesRow.holds Try.pinned (OpenSpec.ofChange genMovesSpec)

/-- ITS FALSE NEIGHBOUR: 'it returns false'. Refute it at one input. -/
def genMovesWrong : ChangeSpec := { name := "genMoves", fn := fun _ => fun
  | [d1, d2, d3] => { results := [.lit (.bool false)], args := [d1, d2, d3] }
  | _ => none }
def GenMovesWrongFalsely : Prop := genMovesRow.holds Try.pinned (OpenSpec.ofChange genMovesWrong)

/-- 'detentlaw17.GenParts': WHATEVER THE INPUT: true; the input reads as it did. -/
def genPartsSpec : ChangeSpec := { name := "genParts", fn := fun _ => fun
  | [d] => { results := [.lit (.bool true)], args := [d] }
  | _ => none }
def genPartsRow : OpenClaim := { program := "ytfphgelollhdhaa", sum := "a01d8b2e6342d682578644e042ee5b4d67ff3417c6d623963555bc36c1896c35", func := "detent/detentlaw17.GenParts", spec := "genParts", recurses := true, loops := true, apart := false }
def GenPartsSaid : Prop := genPartsRow.holds Try.pinned (OpenSpec.ofChange genPartsSpec)

/-- ITS FALSE NEIGHBOUR: 'it returns false'. Refute it at one input. -/
def genPartsWrong : ChangeSpec := { name := "genParts", fn := fun _ => fun
  | [d] => { results := [.lit (.bool false)], args := [d] }
  | _ => none }
def GenPartsWrongFalsely : Prop := genPartsRow.holds Try.pinned (OpenSpec.ofChange genPartsWrong)

/- THE SECOND FORM. 'bulk': how many values and letters a reading holds, each counted each time it is reached (what is shared counts as often as it is met; a slice's spare places count too). A statement '..UptoSaid' is the law's where the arguments, and the package variables that the reading takes, are together of bulk at most 1048576: NARROWER than '..Said'. Prove '..Said' where nothing that the law and all that it calls make is longer than what came in: it says more and counts as full. Else prove '..UptoSaid'. A law counts once. -/
mutual
def uptoBulk {H : Type} : DataW H → Nat
  | .lit (.string bytes) => bytes.length + 1
  | .lit _ => 1
  | .nil => 1
  | .ptr d => uptoBulk d + 1
  | .slice elems spare => uptoBulkAll elems + uptoBulkAll spare + 1
  | .agg parts => uptoBulkAll parts + 1
  | .iface _ d => uptoBulk d + 1
  | .map entries => uptoBulkEntries entries + 1
  | .held _ => 1
def uptoBulkAll {H : Type} : List (DataW H) → Nat
  | [] => 0
  | d :: r => uptoBulk d + uptoBulkAll r
def uptoBulkEntries {H : Type} : List (Lit × DataW H) → Nat
  | [] => 0
  | x :: r => uptoBulkEntry x + uptoBulkEntries r
def uptoBulkEntry {H : Type} : Lit × DataW H → Nat
  | (.string bytes, d) => bytes.length + uptoBulk d + 1
  | (_, d) => uptoBulk d + 1
 end
def uptoSmall : (H : Type) → List (DataW H) → Bool := fun _ ds => decide (uptoBulkAll ds ≤ 1048576)
def OpenSpec.upto (s : _root_.Go.ChangeSpec) : _root_.Go.OpenSpec := { _root_.Go.OpenSpec.ofChange s with cond := some uptoSmall }

/-- 'detentlaw17.GenTells', WHERE WHAT IT READS IS OF BULK AT MOST 1048576: true; the input reads as it did. -/
def genTellsUptoRow : OpenClaim := { program := "ytfphgelollhdhaa", sum := "a01d8b2e6342d682578644e042ee5b4d67ff3417c6d623963555bc36c1896c35", func := "detent/detentlaw17.GenTells", spec := "genTells", recurses := true, loops := true, apart := false, narrowed := true }
def GenTellsUptoSaid : Prop := genTellsUptoRow.holds Try.pinned (OpenSpec.upto genTellsSpec)

/-- 'detentlaw17.GenMoves', WHERE WHAT IT READS IS OF BULK AT MOST 1048576: true; the input reads as it did. -/
def genMovesUptoRow : OpenClaim := { program := "ytfphgelollhdhaa", sum := "a01d8b2e6342d682578644e042ee5b4d67ff3417c6d623963555bc36c1896c35", func := "detent/detentlaw17.GenMoves", spec := "genMoves", recurses := true, loops := true, apart := false, narrowed := true }
def GenMovesUptoSaid : Prop := genMovesUptoRow.holds Try.pinned (OpenSpec.upto genMovesSpec)

/-- 'detentlaw17.GenParts', WHERE WHAT IT READS IS OF BULK AT MOST 1048576: true; the input reads as it did. -/
def genPartsUptoRow : OpenClaim := { program := "ytfphgelollhdhaa", sum := "a01d8b2e6342d682578644e042ee5b4d67ff3417c6d623963555bc36c1896c35", func := "detent/detentlaw17.GenParts", spec := "genParts", recurses := true, loops := true, apart := false, narrowed := true }
def GenPartsUptoSaid : Prop := genPartsUptoRow.holds Try.pinned (OpenSpec.upto genPartsSpec)

end Rows
end Go.Proofs.Ytfphgelollhdhaa
