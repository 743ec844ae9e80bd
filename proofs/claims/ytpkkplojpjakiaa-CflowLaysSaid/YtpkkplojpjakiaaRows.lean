/-
  No cell of these rows narrows 'for every input' (looked for: loops, veiled, ifaces, maps, wideKeys, modest, calm, conditions, laid).
  DERIVED. THE GIVEN ROWS OF THIS SEAT. 5 by the template 'for every input the law returns true; each argument reads behind the call as it read before'; 0 by the template 'total and deterministic' (their statements: YtpkkplojpjakiaaTotals.lean).
  GIVEN WITH THE SEED: the statements are not yours to turn. If you find one false, say at which input.
  Laid BY PROGRAM, IN A SANDBOX (cutbox-rows.mjs): the forced cells as the released guide's own fill.sh prints them over the translation 568e51905879605d… (all of the seat's roots in one cut). By AI agents, Wed Nov 11 2026. No macro, syntax, notation, axiom, sorry.
-/
import Derived.Test.YtpkkplojpjakiaaChecked
import GoSem.Claim
import GoSem.ClaimJoined
import GoSem.ClaimMapViews
import Derived.JoinedTies
import Derived.KernelRfl
namespace Go.Proofs.Ytpkkplojpjakiaa
/- THE CELL 'sum', in the pinned program and in every row, IS THE sha256 OF THE DUMP (.gsa) THAT YtpkkplojpjakiaaProg.lean LOADS. Nothing in Lean hashes anything: it is a label: what it is worth is what the hold of that sum in a sandbox is worth. -/
noncomputable def Try.pinned : Pinned := { name := "ytpkkplojpjakiaa", sum := "568e51905879605d77b93cb2c5af28ead4f5646a387a266acfd09f1956ce21b6", checked := Try.checked }
namespace Rows
def none {H : Type} : Left H := { results := [], args := [] }

/-- 'detentlaw13.CflowTells': WHATEVER THE INPUT: true; the input reads as it did. -/
def cflowTellsSpec : ChangeSpec := { name := "cflowTells", fn := fun _ => fun
  | [d] => { results := [.lit (.bool true)], args := [d] }
  | _ => none }
def cflowTellsRow : OpenClaim := { program := "ytpkkplojpjakiaa", sum := "568e51905879605d77b93cb2c5af28ead4f5646a387a266acfd09f1956ce21b6", func := "detent/detentlaw13.CflowTells", spec := "cflowTells", unfollowed := true, recurses := true, apart := false }
def CflowTellsSaid : Prop := cflowTellsRow.holds Try.pinned (OpenSpec.ofChange cflowTellsSpec)

/-- ITS FALSE NEIGHBOUR: 'it returns false'. Refute it at one input. -/
def cflowTellsWrong : ChangeSpec := { name := "cflowTells", fn := fun _ => fun
  | [d] => { results := [.lit (.bool false)], args := [d] }
  | _ => none }
def CflowTellsWrongFalsely : Prop := cflowTellsRow.holds Try.pinned (OpenSpec.ofChange cflowTellsWrong)

/-- 'detentlaw13.CflowLays': WHATEVER THE INPUT: true; the input reads as it did. -/
def cflowLaysSpec : ChangeSpec := { name := "cflowLays", fn := fun _ => fun
  | [d1, d2, d3] => { results := [.lit (.bool true)], args := [d1, d2, d3] }
  | _ => none }
def cflowLaysRow : OpenClaim := { program := "ytpkkplojpjakiaa", sum := "568e51905879605d77b93cb2c5af28ead4f5646a387a266acfd09f1956ce21b6", func := "detent/detentlaw13.CflowLays", spec := "cflowLays", unfollowed := true, recurses := true, apart := false }
def CflowLaysSaid : Prop := cflowLaysRow.holds Try.pinned (OpenSpec.ofChange cflowLaysSpec)

/-- ITS FALSE NEIGHBOUR: 'it returns false'. Refute it at one input. -/
def cflowLaysWrong : ChangeSpec := { name := "cflowLays", fn := fun _ => fun
  | [d1, d2, d3] => { results := [.lit (.bool false)], args := [d1, d2, d3] }
  | _ => none }
def CflowLaysWrongFalsely : Prop := cflowLaysRow.holds Try.pinned (OpenSpec.ofChange cflowLaysWrong)

/-- 'detentlaw13.CflowStays': WHATEVER THE INPUT: true; the input reads as it did. -/
def cflowStaysSpec : ChangeSpec := { name := "cflowStays", fn := fun _ => fun
  | [d] => { results := [.lit (.bool true)], args := [d] }
  | _ => none }
def cflowStaysRow : OpenClaim := { program := "ytpkkplojpjakiaa", sum := "568e51905879605d77b93cb2c5af28ead4f5646a387a266acfd09f1956ce21b6", func := "detent/detentlaw13.CflowStays", spec := "cflowStays", unfollowed := true, recurses := true, apart := false }
def CflowStaysSaid : Prop := cflowStaysRow.holds Try.pinned (OpenSpec.ofChange cflowStaysSpec)

/-- ITS FALSE NEIGHBOUR: 'it returns false'. Refute it at one input. -/
def cflowStaysWrong : ChangeSpec := { name := "cflowStays", fn := fun _ => fun
  | [d] => { results := [.lit (.bool false)], args := [d] }
  | _ => none }
def CflowStaysWrongFalsely : Prop := cflowStaysRow.holds Try.pinned (OpenSpec.ofChange cflowStaysWrong)

/-- 'detentlaw13.CflowLeads': WHATEVER THE INPUT: true; the input reads as it did. -/
def cflowLeadsSpec : ChangeSpec := { name := "cflowLeads", fn := fun _ => fun
  | [d] => { results := [.lit (.bool true)], args := [d] }
  | _ => none }
def cflowLeadsRow : OpenClaim := { program := "ytpkkplojpjakiaa", sum := "568e51905879605d77b93cb2c5af28ead4f5646a387a266acfd09f1956ce21b6", func := "detent/detentlaw13.CflowLeads", spec := "cflowLeads", unfollowed := true, recurses := true, apart := false }
def CflowLeadsSaid : Prop := cflowLeadsRow.holds Try.pinned (OpenSpec.ofChange cflowLeadsSpec)

/-- ITS FALSE NEIGHBOUR: 'it returns false'. Refute it at one input. -/
def cflowLeadsWrong : ChangeSpec := { name := "cflowLeads", fn := fun _ => fun
  | [d] => { results := [.lit (.bool false)], args := [d] }
  | _ => none }
def CflowLeadsWrongFalsely : Prop := cflowLeadsRow.holds Try.pinned (OpenSpec.ofChange cflowLeadsWrong)

/-- 'detentlaw13.CflowMatches': WHATEVER THE INPUT: true; the input reads as it did. -/
def cflowMatchesSpec : ChangeSpec := { name := "cflowMatches", fn := fun _ => fun
  | [d1, d2] => { results := [.lit (.bool true)], args := [d1, d2] }
  | _ => none }
def cflowMatchesRow : OpenClaim := { program := "ytpkkplojpjakiaa", sum := "568e51905879605d77b93cb2c5af28ead4f5646a387a266acfd09f1956ce21b6", func := "detent/detentlaw13.CflowMatches", spec := "cflowMatches", unfollowed := true, recurses := true, apart := false }
def CflowMatchesSaid : Prop := cflowMatchesRow.holds Try.pinned (OpenSpec.ofChange cflowMatchesSpec)

/-- ITS FALSE NEIGHBOUR: 'it returns false'. Refute it at one input. -/
def cflowMatchesWrong : ChangeSpec := { name := "cflowMatches", fn := fun _ => fun
  | [d1, d2] => { results := [.lit (.bool false)], args := [d1, d2] }
  | _ => none }
def CflowMatchesWrongFalsely : Prop := cflowMatchesRow.holds Try.pinned (OpenSpec.ofChange cflowMatchesWrong)

/- THE SECOND FORM. 'bulk': how many values and letters a reading holds, each counted each time it is reached (what is shared counts as often as it is met; a slice's spare places count too). A statement '..UptoSaid' is the law's where the arguments, and the package variables that the reading takes, are together of bulk at most 1048576: NARROWER than '..Said'. Prove '..Said' where nothing that the law and all that it calls make is longer than what came in: it says more and counts as full. Else prove '..UptoSaid'. A law counts once. -/
mutual
def uptoBulk {H : Type} : DataW H → Nat
  | .lit (.string bytes) => bytes.length + 1
  | .lit _ => 1
  | .nil => 1
  | .ptr d => uptoBulk d + 1
  | .slice elems spare => uptoBulkAll elems + uptoBulkAll spare + 1
  | .agg parts => uptoBulkAll parts + 1
  | .iface _ d => uptoBulk d + 1
  | .map entries => uptoBulkEntries entries + 1
  | .held _ => 1
def uptoBulkAll {H : Type} : List (DataW H) → Nat
  | [] => 0
  | d :: r => uptoBulk d + uptoBulkAll r
def uptoBulkEntries {H : Type} : List (Lit × DataW H) → Nat
  | [] => 0
  | x :: r => uptoBulkEntry x + uptoBulkEntries r
def uptoBulkEntry {H : Type} : Lit × DataW H → Nat
  | (.string bytes, d) => bytes.length + uptoBulk d + 1
  | (_, d) => uptoBulk d + 1
 end
def uptoSmall : (H : Type) → List (DataW H) → Bool := fun _ ds => decide (uptoBulkAll ds ≤ 1048576)
def OpenSpec.upto (s : _root_.Go.ChangeSpec) : _root_.Go.OpenSpec := { _root_.Go.OpenSpec.ofChange s with cond := some uptoSmall }

/-- 'detentlaw13.CflowTells', WHERE WHAT IT READS IS OF BULK AT MOST 1048576: true; the input reads as it did. -/
def cflowTellsUptoRow : OpenClaim := { program := "ytpkkplojpjakiaa", sum := "568e51905879605d77b93cb2c5af28ead4f5646a387a266acfd09f1956ce21b6", func := "detent/detentlaw13.CflowTells", spec := "cflowTells", unfollowed := true, recurses := true, apart := false, narrowed := true }
def CflowTellsUptoSaid : Prop := cflowTellsUptoRow.holds Try.pinned (OpenSpec.upto cflowTellsSpec)

/-- 'detentlaw13.CflowLays', WHERE WHAT IT READS IS OF BULK AT MOST 1048576: true; the input reads as it did. -/
def cflowLaysUptoRow : OpenClaim := { program := "ytpkkplojpjakiaa", sum := "568e51905879605d77b93cb2c5af28ead4f5646a387a266acfd09f1956ce21b6", func := "detent/detentlaw13.CflowLays", spec := "cflowLays", unfollowed := true, recurses := true, apart := false, narrowed := true }
def CflowLaysUptoSaid : Prop := cflowLaysUptoRow.holds Try.pinned (OpenSpec.upto cflowLaysSpec)

/-- 'detentlaw13.CflowStays', WHERE WHAT IT READS IS OF BULK AT MOST 1048576: true; the input reads as it did. -/
def cflowStaysUptoRow : OpenClaim := { program := "ytpkkplojpjakiaa", sum := "568e51905879605d77b93cb2c5af28ead4f5646a387a266acfd09f1956ce21b6", func := "detent/detentlaw13.CflowStays", spec := "cflowStays", unfollowed := true, recurses := true, apart := false, narrowed := true }
def CflowStaysUptoSaid : Prop := cflowStaysUptoRow.holds Try.pinned (OpenSpec.upto cflowStaysSpec)

/-- 'detentlaw13.CflowLeads', WHERE WHAT IT READS IS OF BULK AT MOST 1048576: true; the input reads as it did. -/
def cflowLeadsUptoRow : OpenClaim := { program := "ytpkkplojpjakiaa", sum := "568e51905879605d77b93cb2c5af28ead4f5646a387a266acfd09f1956ce21b6", func := "detent/detentlaw13.CflowLeads", spec := "cflowLeads", unfollowed := true, recurses := true, apart := false, narrowed := true }
def CflowLeadsUptoSaid : Prop := cflowLeadsUptoRow.holds Try.pinned (OpenSpec.upto cflowLeadsSpec)

/-- 'detentlaw13.CflowMatches', WHERE WHAT IT READS IS OF BULK AT MOST 1048576: true; the input reads as it did. -/
def cflowMatchesUptoRow : OpenClaim := { program := "ytpkkplojpjakiaa", sum := "568e51905879605d77b93cb2c5af28ead4f5646a387a266acfd09f1956ce21b6", func := "detent/detentlaw13.CflowMatches", spec := "cflowMatches", unfollowed := true, recurses := true, apart := false, narrowed := true }
def CflowMatchesUptoSaid : Prop := cflowMatchesUptoRow.holds Try.pinned (OpenSpec.upto cflowMatchesSpec)

end Rows
end Go.Proofs.Ytpkkplojpjakiaa
