/-
  No cell of these rows narrows 'for every input' (looked for: loops, veiled, ifaces, maps, wideKeys, modest, calm, conditions, laid).
  DERIVED. THE GIVEN ROWS OF THIS SEAT. 7 by the template 'for every input the law returns true; each argument reads behind the call as it read before'; 0 by the template 'total and deterministic' (their statements: YtkmlmboclegpcaaTotals.lean).
  GIVEN WITH THE SEED: the statements are not yours to turn. If you find one false, say at which input.
  Laid BY PROGRAM, IN A SANDBOX (cutbox-rows.mjs): the forced cells as the released guide's own fill.sh prints them over the translation c956570a62af3a61… (all of the seat's roots in one cut). By AI agents, Wed Nov 11 2026. No macro, syntax, notation, axiom, sorry.
-/
import Derived.Test.YtkmlmboclegpcaaChecked
import GoSem.Claim
import GoSem.ClaimJoined
import GoSem.ClaimMapViews
import Derived.JoinedTies
import Derived.KernelRfl
namespace Go.Proofs.Ytkmlmboclegpcaa
/- THE CELL 'sum', in the pinned program and in every row, IS THE sha256 OF THE DUMP (.gsa) THAT YtkmlmboclegpcaaProg.lean LOADS. Nothing in Lean hashes anything: it is a label: what it is worth is what the hold of that sum in a sandbox is worth. -/
noncomputable def Try.pinned : Pinned := { name := "ytkmlmboclegpcaa", sum := "c956570a62af3a614d80d3e601cfb9f329d302ba0a51266de95a72d0eca218cc", checked := Try.checked }
namespace Rows
def none {H : Type} : Left H := { results := [], args := [] }

/-- 'detentlaw20.TimerTells': WHATEVER THE INPUT: true; the input reads as it did. -/
def timerTellsSpec : ChangeSpec := { name := "timerTells", fn := fun _ => fun
  | [d1, d2, d3] => { results := [.lit (.bool true)], args := [d1, d2, d3] }
  | _ => none }
def timerTellsRow : OpenClaim := { program := "ytkmlmboclegpcaa", sum := "c956570a62af3a614d80d3e601cfb9f329d302ba0a51266de95a72d0eca218cc", func := "detent/detentlaw20.TimerTells", spec := "timerTells", unfollowed := true, recurses := true, apart := false }
def TimerTellsSaid : Prop := timerTellsRow.holds Try.pinned (OpenSpec.ofChange timerTellsSpec)

/-- ITS FALSE NEIGHBOUR: 'it returns false'. Refute it at one input. -/
def timerTellsWrong : ChangeSpec := { name := "timerTells", fn := fun _ => fun
  | [d1, d2, d3] => { results := [.lit (.bool false)], args := [d1, d2, d3] }
  | _ => none }
def TimerTellsWrongFalsely : Prop := timerTellsRow.holds Try.pinned (OpenSpec.ofChange timerTellsWrong)

/-- 'detentlaw20.TimerComes': WHATEVER THE INPUT: true; the input reads as it did. -/
def timerComesSpec : ChangeSpec := { name := "timerComes", fn := fun _ => fun
  | [d] => { results := [.lit (.bool true)], args := [d] }
  | _ => none }
def timerComesRow : OpenClaim := { program := "ytkmlmboclegpcaa", sum := "c956570a62af3a614d80d3e601cfb9f329d302ba0a51266de95a72d0eca218cc", func := "detent/detentlaw20.TimerComes", spec := "timerComes", unfollowed := true, recurses := true, apart := false }
def TimerComesSaid : Prop := timerComesRow.holds Try.pinned (OpenSpec.ofChange timerComesSpec)

/-- ITS FALSE NEIGHBOUR: 'it returns false'. Refute it at one input. -/
def timerComesWrong : ChangeSpec := { name := "timerComes", fn := fun _ => fun
  | [d] => { results := [.lit (.bool false)], args := [d] }
  | _ => none }
def TimerComesWrongFalsely : Prop := timerComesRow.holds Try.pinned (OpenSpec.ofChange timerComesWrong)

/-- 'detentlaw20.TimerOrder': WHATEVER THE INPUT: true; the input reads as it did. -/
def timerOrderSpec : ChangeSpec := { name := "timerOrder", fn := fun _ => fun
  | [d1, d2, d3] => { results := [.lit (.bool true)], args := [d1, d2, d3] }
  | _ => none }
def timerOrderRow : OpenClaim := { program := "ytkmlmboclegpcaa", sum := "c956570a62af3a614d80d3e601cfb9f329d302ba0a51266de95a72d0eca218cc", func := "detent/detentlaw20.TimerOrder", spec := "timerOrder", unfollowed := true, recurses := true, apart := false }
def TimerOrderSaid : Prop := timerOrderRow.holds Try.pinned (OpenSpec.ofChange timerOrderSpec)

/-- ITS FALSE NEIGHBOUR: 'it returns false'. Refute it at one input. -/
def timerOrderWrong : ChangeSpec := { name := "timerOrder", fn := fun _ => fun
  | [d1, d2, d3] => { results := [.lit (.bool false)], args := [d1, d2, d3] }
  | _ => none }
def TimerOrderWrongFalsely : Prop := timerOrderRow.holds Try.pinned (OpenSpec.ofChange timerOrderWrong)

/-- 'detentlaw22.HandTells': WHATEVER THE INPUT: true; the input reads as it did. -/
def handTellsSpec : ChangeSpec := { name := "handTells", fn := fun _ => fun
  | [d] => { results := [.lit (.bool true)], args := [d] }
  | _ => none }
def handTellsRow : OpenClaim := { program := "ytkmlmboclegpcaa", sum := "c956570a62af3a614d80d3e601cfb9f329d302ba0a51266de95a72d0eca218cc", func := "detent/detentlaw22.HandTells", spec := "handTells", unfollowed := true, recurses := true, apart := false }
def HandTellsSaid : Prop := handTellsRow.holds Try.pinned (OpenSpec.ofChange handTellsSpec)

/-- ITS FALSE NEIGHBOUR: 'it returns false'. Refute it at one input. -/
def handTellsWrong : ChangeSpec := { name := "handTells", fn := fun _ => fun
  | [d] => { results := [.lit (.bool false)], args := [d] }
  | _ => none }
def HandTellsWrongFalsely : Prop := handTellsRow.holds Try.pinned (OpenSpec.ofChange handTellsWrong)

/-- 'detentlaw22.HandOthers': WHATEVER THE INPUT: true; the input reads as it did. -/
def handOthersSpec : ChangeSpec := { name := "handOthers", fn := fun _ => fun
  | [d1, d2, d3] => { results := [.lit (.bool true)], args := [d1, d2, d3] }
  | _ => none }
def handOthersRow : OpenClaim := { program := "ytkmlmboclegpcaa", sum := "c956570a62af3a614d80d3e601cfb9f329d302ba0a51266de95a72d0eca218cc", func := "detent/detentlaw22.HandOthers", spec := "handOthers", unfollowed := true, recurses := true, apart := false }
def HandOthersSaid : Prop := handOthersRow.holds Try.pinned (OpenSpec.ofChange handOthersSpec)

/-- ITS FALSE NEIGHBOUR: 'it returns false'. Refute it at one input. -/
def handOthersWrong : ChangeSpec := { name := "handOthers", fn := fun _ => fun
  | [d1, d2, d3] => { results := [.lit (.bool false)], args := [d1, d2, d3] }
  | _ => none }
def HandOthersWrongFalsely : Prop := handOthersRow.holds Try.pinned (OpenSpec.ofChange handOthersWrong)

/-- 'detentlaw22.HandLimit': WHATEVER THE INPUT: true; the input reads as it did. -/
def handLimitSpec : ChangeSpec := { name := "handLimit", fn := fun _ => fun
  | [d1, d2, d3] => { results := [.lit (.bool true)], args := [d1, d2, d3] }
  | _ => none }
def handLimitRow : OpenClaim := { program := "ytkmlmboclegpcaa", sum := "c956570a62af3a614d80d3e601cfb9f329d302ba0a51266de95a72d0eca218cc", func := "detent/detentlaw22.HandLimit", spec := "handLimit", unfollowed := true, recurses := true, apart := false }
def HandLimitSaid : Prop := handLimitRow.holds Try.pinned (OpenSpec.ofChange handLimitSpec)

/-- ITS FALSE NEIGHBOUR: 'it returns false'. Refute it at one input. -/
def handLimitWrong : ChangeSpec := { name := "handLimit", fn := fun _ => fun
  | [d1, d2, d3] => { results := [.lit (.bool false)], args := [d1, d2, d3] }
  | _ => none }
def HandLimitWrongFalsely : Prop := handLimitRow.holds Try.pinned (OpenSpec.ofChange handLimitWrong)

/-- 'detentlaw22.HandTwo': WHATEVER THE INPUT: true; the input reads as it did. -/
def handTwoSpec : ChangeSpec := { name := "handTwo", fn := fun _ => fun
  | [d] => { results := [.lit (.bool true)], args := [d] }
  | _ => none }
def handTwoRow : OpenClaim := { program := "ytkmlmboclegpcaa", sum := "c956570a62af3a614d80d3e601cfb9f329d302ba0a51266de95a72d0eca218cc", func := "detent/detentlaw22.HandTwo", spec := "handTwo", unfollowed := true, recurses := true, apart := false }
def HandTwoSaid : Prop := handTwoRow.holds Try.pinned (OpenSpec.ofChange handTwoSpec)

/-- ITS FALSE NEIGHBOUR: 'it returns false'. Refute it at one input. -/
def handTwoWrong : ChangeSpec := { name := "handTwo", fn := fun _ => fun
  | [d] => { results := [.lit (.bool false)], args := [d] }
  | _ => none }
def HandTwoWrongFalsely : Prop := handTwoRow.holds Try.pinned (OpenSpec.ofChange handTwoWrong)

/- THE SECOND FORM. 'bulk': how many values and letters a reading holds, each counted each time it is reached (what is shared counts as often as it is met; a slice's spare places count too). A statement '..UptoSaid' is the law's where the arguments, and the package variables that the reading takes, are together of bulk at most 1048576: NARROWER than '..Said'. Prove '..Said' where nothing that the law and all that it calls make is longer than what came in: it says more and counts as full. Else prove '..UptoSaid'. A law counts once. -/
mutual
def uptoBulk {H : Type} : DataW H → Nat
  | .lit (.string bytes) => bytes.length + 1
  | .lit _ => 1
  | .nil => 1
  | .ptr d => uptoBulk d + 1
  | .slice elems spare => uptoBulkAll elems + uptoBulkAll spare + 1
  | .agg parts => uptoBulkAll parts + 1
  | .iface _ d => uptoBulk d + 1
  | .map entries => uptoBulkEntries entries + 1
  | .held _ => 1
def uptoBulkAll {H : Type} : List (DataW H) → Nat
  | [] => 0
  | d :: r => uptoBulk d + uptoBulkAll r
def uptoBulkEntries {H : Type} : List (Lit × DataW H) → Nat
  | [] => 0
  | x :: r => uptoBulkEntry x + uptoBulkEntries r
def uptoBulkEntry {H : Type} : Lit × DataW H → Nat
  | (.string bytes, d) => bytes.length + uptoBulk d + 1
  | (_, d) => uptoBulk d + 1
 end
def uptoSmall : (H : Type) → List (DataW H) → Bool := fun _ ds => decide (uptoBulkAll ds ≤ 1048576)
def OpenSpec.upto (s : _root_.Go.ChangeSpec) : _root_.Go.OpenSpec := { _root_.Go.OpenSpec.ofChange s with cond := some uptoSmall }

/-- 'detentlaw20.TimerTells', WHERE WHAT IT READS IS OF BULK AT MOST 1048576: true; the input reads as it did. -/
def timerTellsUptoRow : OpenClaim := { program := "ytkmlmboclegpcaa", sum := "c956570a62af3a614d80d3e601cfb9f329d302ba0a51266de95a72d0eca218cc", func := "detent/detentlaw20.TimerTells", spec := "timerTells", unfollowed := true, recurses := true, apart := false, narrowed := true }
def TimerTellsUptoSaid : Prop := timerTellsUptoRow.holds Try.pinned (OpenSpec.upto timerTellsSpec)

/-- 'detentlaw20.TimerComes', WHERE WHAT IT READS IS OF BULK AT MOST 1048576: true; the input reads as it did. -/
def timerComesUptoRow : OpenClaim := { program := "ytkmlmboclegpcaa", sum := "c956570a62af3a614d80d3e601cfb9f329d302ba0a51266de95a72d0eca218cc", func := "detent/detentlaw20.TimerComes", spec := "timerComes", unfollowed := true, recurses := true, apart := false, narrowed := true }
def TimerComesUptoSaid : Prop := timerComesUptoRow.holds Try.pinned (OpenSpec.upto timerComesSpec)

/-- 'detentlaw20.TimerOrder', WHERE WHAT IT READS IS OF BULK AT MOST 1048576: true; the input reads as it did. -/
def timerOrderUptoRow : OpenClaim := { program := "ytkmlmboclegpcaa", sum := "c956570a62af3a614d80d3e601cfb9f329d302ba0a51266de95a72d0eca218cc", func := "detent/detentlaw20.TimerOrder", spec := "timerOrder", unfollowed := true, recurses := true, apart := false, narrowed := true }
def TimerOrderUptoSaid : Prop := timerOrderUptoRow.holds Try.pinned (OpenSpec.upto timerOrderSpec)

/-- 'detentlaw22.HandTells', WHERE WHAT IT READS IS OF BULK AT MOST 1048576: true; the input reads as it did. -/
def handTellsUptoRow : OpenClaim := { program := "ytkmlmboclegpcaa", sum := "c956570a62af3a614d80d3e601cfb9f329d302ba0a51266de95a72d0eca218cc", func := "detent/detentlaw22.HandTells", spec := "handTells", unfollowed := true, recurses := true, apart := false, narrowed := true }
def HandTellsUptoSaid : Prop := handTellsUptoRow.holds Try.pinned (OpenSpec.upto handTellsSpec)

/-- 'detentlaw22.HandOthers', WHERE WHAT IT READS IS OF BULK AT MOST 1048576: true; the input reads as it did. -/
def handOthersUptoRow : OpenClaim := { program := "ytkmlmboclegpcaa", sum := "c956570a62af3a614d80d3e601cfb9f329d302ba0a51266de95a72d0eca218cc", func := "detent/detentlaw22.HandOthers", spec := "handOthers", unfollowed := true, recurses := true, apart := false, narrowed := true }
def HandOthersUptoSaid : Prop := handOthersUptoRow.holds Try.pinned (OpenSpec.upto handOthersSpec)

/-- 'detentlaw22.HandLimit', WHERE WHAT IT READS IS OF BULK AT MOST 1048576: true; the input reads as it did. -/
def handLimitUptoRow : OpenClaim := { program := "ytkmlmboclegpcaa", sum := "c956570a62af3a614d80d3e601cfb9f329d302ba0a51266de95a72d0eca218cc", func := "detent/detentlaw22.HandLimit", spec := "handLimit", unfollowed := true, recurses := true, apart := false, narrowed := true }
def HandLimitUptoSaid : Prop := handLimitUptoRow.holds Try.pinned (OpenSpec.upto handLimitSpec)

/-- 'detentlaw22.HandTwo', WHERE WHAT IT READS IS OF BULK AT MOST 1048576: true; the input reads as it did. -/
def handTwoUptoRow : OpenClaim := { program := "ytkmlmboclegpcaa", sum := "c956570a62af3a614d80d3e601cfb9f329d302ba0a51266de95a72d0eca218cc", func := "detent/detentlaw22.HandTwo", spec := "handTwo", unfollowed := true, recurses := true, apart := false, narrowed := true }
def HandTwoUptoSaid : Prop := handTwoUptoRow.holds Try.pinned (OpenSpec.upto handTwoSpec)

end Rows
end Go.Proofs.Ytkmlmboclegpcaa
