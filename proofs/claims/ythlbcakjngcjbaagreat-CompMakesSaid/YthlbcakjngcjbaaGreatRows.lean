/-
  No cell of these rows narrows 'for every input' (looked for: loops, veiled, ifaces, maps, wideKeys, modest, calm, conditions, laid).
  DERIVED. THE GIVEN ROWS OF THIS SEAT. 7 by the template 'for every input the law returns true; each argument reads behind the call as it read before'; 0 by the template 'total and deterministic' (their statements: YthlbcakjngcjbaaGreatTotals.lean).
  GIVEN WITH THE SEED: the statements are not yours to turn. If you find one false, say at which input.
  Laid BY PROGRAM, IN A SANDBOX (cutbox-rows.mjs): the forced cells as the released guide's own fill.sh prints them over the translation 1a718f5a4b7788cf… (all of the seat's roots in one cut). By AI agents, Wed Nov 11 2026. No macro, syntax, notation, axiom, sorry.
-/
import Derived.Test.YthlbcakjngcjbaaGreatChecked
import GoSem.Claim
import GoSem.ClaimJoined
import GoSem.ClaimMapViews
import Derived.JoinedTies
import Derived.KernelRfl
namespace Go.Proofs.YthlbcakjngcjbaaGreat
/- THE CELL 'sum', in the pinned program and in every row, IS THE sha256 OF THE DUMP (.gsa) THAT YthlbcakjngcjbaaGreatProg.lean LOADS. Nothing in Lean hashes anything: it is a label: what it is worth is what the hold of that sum in a sandbox is worth. -/
noncomputable def Tryz.pinned : Pinned := { name := "ythlbcakjngcjbaagreat", sum := "1a718f5a4b7788cf1c02be8a296fe238a9ca6df77587e5f706ea0e120148006c", checked := Tryz.checked }
namespace Rows
def none {H : Type} : Left H := { results := [], args := [] }

/-- 'detentlaw14.CompTells': WHATEVER THE INPUT: true; the input reads as it did. -/
def compTellsSpec : ChangeSpec := { name := "compTells", fn := fun _ => fun
  | [d1, d2] => { results := [.lit (.bool true)], args := [d1, d2] }
  | _ => none }
def compTellsRow : OpenClaim := { program := "ythlbcakjngcjbaagreat", sum := "1a718f5a4b7788cf1c02be8a296fe238a9ca6df77587e5f706ea0e120148006c", func := "detent/detentlaw14.CompTells", spec := "compTells", unfollowed := true, recurses := true, apart := false }
def CompTellsSaid : Prop := compTellsRow.holds Tryz.pinned (OpenSpec.ofChange compTellsSpec)

/-- ITS FALSE NEIGHBOUR: 'it returns false'. Refute it at one input. -/
def compTellsWrong : ChangeSpec := { name := "compTells", fn := fun _ => fun
  | [d1, d2] => { results := [.lit (.bool false)], args := [d1, d2] }
  | _ => none }
def CompTellsWrongFalsely : Prop := compTellsRow.holds Tryz.pinned (OpenSpec.ofChange compTellsWrong)

/-- 'detentlaw14.CompMakes': WHATEVER THE INPUT: true; the input reads as it did. -/
def compMakesSpec : ChangeSpec := { name := "compMakes", fn := fun _ => fun
  | [d] => { results := [.lit (.bool true)], args := [d] }
  | _ => none }
def compMakesRow : OpenClaim := { program := "ythlbcakjngcjbaagreat", sum := "1a718f5a4b7788cf1c02be8a296fe238a9ca6df77587e5f706ea0e120148006c", func := "detent/detentlaw14.CompMakes", spec := "compMakes", unfollowed := true, recurses := true, apart := false }
def CompMakesSaid : Prop := compMakesRow.holds Tryz.pinned (OpenSpec.ofChange compMakesSpec)

/-- ITS FALSE NEIGHBOUR: 'it returns false'. Refute it at one input. -/
def compMakesWrong : ChangeSpec := { name := "compMakes", fn := fun _ => fun
  | [d] => { results := [.lit (.bool false)], args := [d] }
  | _ => none }
def CompMakesWrongFalsely : Prop := compMakesRow.holds Tryz.pinned (OpenSpec.ofChange compMakesWrong)

/-- 'detentlaw14.CompWords': WHATEVER THE INPUT: true; the input reads as it did. -/
def compWordsSpec : ChangeSpec := { name := "compWords", fn := fun _ => fun
  | [d1, d2, d3] => { results := [.lit (.bool true)], args := [d1, d2, d3] }
  | _ => none }
def compWordsRow : OpenClaim := { program := "ythlbcakjngcjbaagreat", sum := "1a718f5a4b7788cf1c02be8a296fe238a9ca6df77587e5f706ea0e120148006c", func := "detent/detentlaw14.CompWords", spec := "compWords", unfollowed := true, recurses := true, apart := false }
def CompWordsSaid : Prop := compWordsRow.holds Tryz.pinned (OpenSpec.ofChange compWordsSpec)

/-- ITS FALSE NEIGHBOUR: 'it returns false'. Refute it at one input. -/
def compWordsWrong : ChangeSpec := { name := "compWords", fn := fun _ => fun
  | [d1, d2, d3] => { results := [.lit (.bool false)], args := [d1, d2, d3] }
  | _ => none }
def CompWordsWrongFalsely : Prop := compWordsRow.holds Tryz.pinned (OpenSpec.ofChange compWordsWrong)

/-- 'detentlaw14.CompStays': WHATEVER THE INPUT: true; the input reads as it did. -/
def compStaysSpec : ChangeSpec := { name := "compStays", fn := fun _ => fun
  | [d] => { results := [.lit (.bool true)], args := [d] }
  | _ => none }
def compStaysRow : OpenClaim := { program := "ythlbcakjngcjbaagreat", sum := "1a718f5a4b7788cf1c02be8a296fe238a9ca6df77587e5f706ea0e120148006c", func := "detent/detentlaw14.CompStays", spec := "compStays", unfollowed := true, recurses := true, apart := false }
def CompStaysSaid : Prop := compStaysRow.holds Tryz.pinned (OpenSpec.ofChange compStaysSpec)

/-- ITS FALSE NEIGHBOUR: 'it returns false'. Refute it at one input. -/
def compStaysWrong : ChangeSpec := { name := "compStays", fn := fun _ => fun
  | [d] => { results := [.lit (.bool false)], args := [d] }
  | _ => none }
def CompStaysWrongFalsely : Prop := compStaysRow.holds Tryz.pinned (OpenSpec.ofChange compStaysWrong)

/-- 'detentlaw14.CompUndoes': WHATEVER THE INPUT: true; the input reads as it did. -/
def compUndoesSpec : ChangeSpec := { name := "compUndoes", fn := fun _ => fun
  | [d1, d2, d3] => { results := [.lit (.bool true)], args := [d1, d2, d3] }
  | _ => none }
def compUndoesRow : OpenClaim := { program := "ythlbcakjngcjbaagreat", sum := "1a718f5a4b7788cf1c02be8a296fe238a9ca6df77587e5f706ea0e120148006c", func := "detent/detentlaw14.CompUndoes", spec := "compUndoes", unfollowed := true, recurses := true, apart := false }
def CompUndoesSaid : Prop := compUndoesRow.holds Tryz.pinned (OpenSpec.ofChange compUndoesSpec)

/-- ITS FALSE NEIGHBOUR: 'it returns false'. Refute it at one input. -/
def compUndoesWrong : ChangeSpec := { name := "compUndoes", fn := fun _ => fun
  | [d1, d2, d3] => { results := [.lit (.bool false)], args := [d1, d2, d3] }
  | _ => none }
def CompUndoesWrongFalsely : Prop := compUndoesRow.holds Tryz.pinned (OpenSpec.ofChange compUndoesWrong)

/-- 'detentlaw14.CompForgets': WHATEVER THE INPUT: true; the input reads as it did. -/
def compForgetsSpec : ChangeSpec := { name := "compForgets", fn := fun _ => fun
  | [d1, d2, d3] => { results := [.lit (.bool true)], args := [d1, d2, d3] }
  | _ => none }
def compForgetsRow : OpenClaim := { program := "ythlbcakjngcjbaagreat", sum := "1a718f5a4b7788cf1c02be8a296fe238a9ca6df77587e5f706ea0e120148006c", func := "detent/detentlaw14.CompForgets", spec := "compForgets", unfollowed := true, recurses := true, apart := false }
def CompForgetsSaid : Prop := compForgetsRow.holds Tryz.pinned (OpenSpec.ofChange compForgetsSpec)

/-- ITS FALSE NEIGHBOUR: 'it returns false'. Refute it at one input. -/
def compForgetsWrong : ChangeSpec := { name := "compForgets", fn := fun _ => fun
  | [d1, d2, d3] => { results := [.lit (.bool false)], args := [d1, d2, d3] }
  | _ => none }
def CompForgetsWrongFalsely : Prop := compForgetsRow.holds Tryz.pinned (OpenSpec.ofChange compForgetsWrong)

/-- 'detentlaw14.CompKinds': WHATEVER THE INPUT: true; the input reads as it did. -/
def compKindsSpec : ChangeSpec := { name := "compKinds", fn := fun _ => fun
  | [d1, d2] => { results := [.lit (.bool true)], args := [d1, d2] }
  | _ => none }
def compKindsRow : OpenClaim := { program := "ythlbcakjngcjbaagreat", sum := "1a718f5a4b7788cf1c02be8a296fe238a9ca6df77587e5f706ea0e120148006c", func := "detent/detentlaw14.CompKinds", spec := "compKinds", unfollowed := true, recurses := true, apart := false }
def CompKindsSaid : Prop := compKindsRow.holds Tryz.pinned (OpenSpec.ofChange compKindsSpec)

/-- ITS FALSE NEIGHBOUR: 'it returns false'. Refute it at one input. -/
def compKindsWrong : ChangeSpec := { name := "compKinds", fn := fun _ => fun
  | [d1, d2] => { results := [.lit (.bool false)], args := [d1, d2] }
  | _ => none }
def CompKindsWrongFalsely : Prop := compKindsRow.holds Tryz.pinned (OpenSpec.ofChange compKindsWrong)

/- THE SECOND FORM. 'bulk': how many values and letters a reading holds, each counted each time it is reached (what is shared counts as often as it is met; a slice's spare places count too). A statement '..UptoSaid' is the law's where the arguments, and the package variables that the reading takes, are together of bulk at most 1048576: NARROWER than '..Said'. Prove '..Said' where nothing that the law and all that it calls make is longer than what came in: it says more and counts as full. Else prove '..UptoSaid'. A law counts once. -/
mutual
def uptoBulk {H : Type} : DataW H → Nat
  | .lit (.string bytes) => bytes.length + 1
  | .lit _ => 1
  | .nil => 1
  | .ptr d => uptoBulk d + 1
  | .slice elems spare => uptoBulkAll elems + uptoBulkAll spare + 1
  | .agg parts => uptoBulkAll parts + 1
  | .iface _ d => uptoBulk d + 1
  | .map entries => uptoBulkEntries entries + 1
  | .held _ => 1
def uptoBulkAll {H : Type} : List (DataW H) → Nat
  | [] => 0
  | d :: r => uptoBulk d + uptoBulkAll r
def uptoBulkEntries {H : Type} : List (Lit × DataW H) → Nat
  | [] => 0
  | x :: r => uptoBulkEntry x + uptoBulkEntries r
def uptoBulkEntry {H : Type} : Lit × DataW H → Nat
  | (.string bytes, d) => bytes.length + uptoBulk d + 1
  | (_, d) => uptoBulk d + 1
 end
def uptoSmall : (H : Type) → List (DataW H) → Bool := fun _ ds => decide (uptoBulkAll ds ≤ 1048576)
def OpenSpec.upto (s : _root_.Go.ChangeSpec) : _root_.Go.OpenSpec := { _root_.Go.OpenSpec.ofChange s with cond := some uptoSmall }

/-- 'detentlaw14.CompTells', WHERE WHAT IT READS IS OF BULK AT MOST 1048576: true; the input reads as it did. -/
def compTellsUptoRow : OpenClaim := { program := "ythlbcakjngcjbaagreat", sum := "1a718f5a4b7788cf1c02be8a296fe238a9ca6df77587e5f706ea0e120148006c", func := "detent/detentlaw14.CompTells", spec := "compTells", unfollowed := true, recurses := true, apart := false, narrowed := true }
def CompTellsUptoSaid : Prop := compTellsUptoRow.holds Tryz.pinned (OpenSpec.upto compTellsSpec)

/-- 'detentlaw14.CompMakes', WHERE WHAT IT READS IS OF BULK AT MOST 1048576: true; the input reads as it did. -/
def compMakesUptoRow : OpenClaim := { program := "ythlbcakjngcjbaagreat", sum := "1a718f5a4b7788cf1c02be8a296fe238a9ca6df77587e5f706ea0e120148006c", func := "detent/detentlaw14.CompMakes", spec := "compMakes", unfollowed := true, recurses := true, apart := false, narrowed := true }
def CompMakesUptoSaid : Prop := compMakesUptoRow.holds Tryz.pinned (OpenSpec.upto compMakesSpec)

/-- 'detentlaw14.CompWords', WHERE WHAT IT READS IS OF BULK AT MOST 1048576: true; the input reads as it did. -/
def compWordsUptoRow : OpenClaim := { program := "ythlbcakjngcjbaagreat", sum := "1a718f5a4b7788cf1c02be8a296fe238a9ca6df77587e5f706ea0e120148006c", func := "detent/detentlaw14.CompWords", spec := "compWords", unfollowed := true, recurses := true, apart := false, narrowed := true }
def CompWordsUptoSaid : Prop := compWordsUptoRow.holds Tryz.pinned (OpenSpec.upto compWordsSpec)

/-- 'detentlaw14.CompStays', WHERE WHAT IT READS IS OF BULK AT MOST 1048576: true; the input reads as it did. -/
def compStaysUptoRow : OpenClaim := { program := "ythlbcakjngcjbaagreat", sum := "1a718f5a4b7788cf1c02be8a296fe238a9ca6df77587e5f706ea0e120148006c", func := "detent/detentlaw14.CompStays", spec := "compStays", unfollowed := true, recurses := true, apart := false, narrowed := true }
def CompStaysUptoSaid : Prop := compStaysUptoRow.holds Tryz.pinned (OpenSpec.upto compStaysSpec)

/-- 'detentlaw14.CompUndoes', WHERE WHAT IT READS IS OF BULK AT MOST 1048576: true; the input reads as it did. -/
def compUndoesUptoRow : OpenClaim := { program := "ythlbcakjngcjbaagreat", sum := "1a718f5a4b7788cf1c02be8a296fe238a9ca6df77587e5f706ea0e120148006c", func := "detent/detentlaw14.CompUndoes", spec := "compUndoes", unfollowed := true, recurses := true, apart := false, narrowed := true }
def CompUndoesUptoSaid : Prop := compUndoesUptoRow.holds Tryz.pinned (OpenSpec.upto compUndoesSpec)

/-- 'detentlaw14.CompForgets', WHERE WHAT IT READS IS OF BULK AT MOST 1048576: true; the input reads as it did. -/
def compForgetsUptoRow : OpenClaim := { program := "ythlbcakjngcjbaagreat", sum := "1a718f5a4b7788cf1c02be8a296fe238a9ca6df77587e5f706ea0e120148006c", func := "detent/detentlaw14.CompForgets", spec := "compForgets", unfollowed := true, recurses := true, apart := false, narrowed := true }
def CompForgetsUptoSaid : Prop := compForgetsUptoRow.holds Tryz.pinned (OpenSpec.upto compForgetsSpec)

/-- 'detentlaw14.CompKinds', WHERE WHAT IT READS IS OF BULK AT MOST 1048576: true; the input reads as it did. -/
def compKindsUptoRow : OpenClaim := { program := "ythlbcakjngcjbaagreat", sum := "1a718f5a4b7788cf1c02be8a296fe238a9ca6df77587e5f706ea0e120148006c", func := "detent/detentlaw14.CompKinds", spec := "compKinds", unfollowed := true, recurses := true, apart := false, narrowed := true }
def CompKindsUptoSaid : Prop := compKindsUptoRow.holds Tryz.pinned (OpenSpec.upto compKindsSpec)

end Rows
end Go.Proofs.YthlbcakjngcjbaaGreat
