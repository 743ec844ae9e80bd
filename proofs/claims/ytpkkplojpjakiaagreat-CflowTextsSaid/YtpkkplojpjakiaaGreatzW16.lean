/- zX13, zX14, zX150, zX154, zX158. -/
import Derived.Test.YtpkkplojpjakiaaGreatW1
import Derived.Test.YtpkkplojpjakiaaGreatW2
import Derived.Test.YtpkkplojpjakiaaGreatW3
import Derived.Test.YtpkkplojpjakiaaGreatW4
import Derived.Test.YtpkkplojpjakiaaGreatzW5
import Derived.Test.YtpkkplojpjakiaaGreatzW6
import Derived.Test.YtpkkplojpjakiaaGreatzW7
import Derived.Test.YtpkkplojpjakiaaGreatzW8
import Derived.Test.YtpkkplojpjakiaaGreatzW9
import Derived.Test.YtpkkplojpjakiaaGreatzW10
import Derived.Test.YtpkkplojpjakiaaGreatzW11
import Derived.Test.YtpkkplojpjakiaaGreatzW12
import Derived.Test.YtpkkplojpjakiaaGreatzW13
import Derived.Test.YtpkkplojpjakiaaGreatzW14
import Derived.Test.YtpkkplojpjakiaaGreatzW15
set_option linter.unusedVariables false
set_option linter.unusedSimpArgs false
namespace Go.Proofs.YtpkkplojpjakiaaGreat
open Go Go.RowKit
open Go.Proofs.YtpkkplojpjakiaaGreat.Dict (St Bs bs_eq)
set_option maxRecDepth 100000
def FitC (i : Nat) (l : List Cfr) : Prop :=
 if i = 0 ∨ i = 3 ∨ i = 8 ∨ i = 9 then l.length < 32
 else if i = 1 ∨ i = 2 then lastK l 0 = 1
 else if i = 4 then lastK l 0 = 2 ∧ l.length < 32
 else if i = 5 then lastK l 0 = 2 ∧ lastK l 1 = 1
 else if i = 6 ∨ i = 7 then lastK l 0 = 2
 else if i = 10 ∨ i = 11 then lastK l 0 = 3
 else 0 ≤ loopAt l ∧ leavesAt l (loopAt l) < 32
attribute [local irreducible] Decidable.decide awp ARun regK toK
end Go.Proofs.YtpkkplojpjakiaaGreat
namespace Go.Proofs.YtpkkplojpjakiaaGreat
open Go Go.RowKit
open Go.Proofs.YtpkkplojpjakiaaGreat.Dict (St Bs bs_eq encWs closed_ws)
open Go.Proofs.YtpkkplojpjakiaaGreat.Mem (Mm encM encBs closed_bs encP encP_closed closed_m storeD fetchD commaD)
open Go.Proofs.YtpkkplojpjakiaaGreat.Stk (encS closed_s encI_closed)
set_option maxRecDepth 100000
theorem Wk.reif {s : AS} {x y : AV} (h : Wk x y) : Closed x → Reif s x y := by
 induction h with
 | same v => exact fun h => .closed _ h
 | nil sz sz' full => exact fun _ => .nil sz sz' full
 | weak sz full els =>
  intro h
  cases full with
  | false => exact .closed _ h
  | true => exact .weak h
 | agg hl hr ih =>
  intro h
  refine .agg hl (fun i x x' h1 h2 => ih i x x' h1 h2 ?_)
  cases h with
  | agg h => exact h x (List.mem_of_getElem? h1)
def planD (i : Nat) (v : V) (l : List Cfr) : List Int × List Int × List Cfr := match i with
 | 0 => ([xtD nZb, 0], [], l.take (l.length - 0) ++ [⟨1, v.here + 8, []⟩])
 | 1 => ([xtD nBr, 0], [(lastC l).at'], l.take (l.length - 1) ++ [⟨1, v.here + 8, []⟩])
 | 2 => ([], [(lastC l).at'], l.take (l.length - 1) ++ [])
 | 3 => ([], [], l.take (l.length - 0) ++ [⟨2, v.here, []⟩])
 | 4 => ([xtD nZb, 0], [], l.take (l.length - 1) ++ [⟨1, v.here + 8, []⟩, lastC l])
 | 5 => ([xtD nBr, (lastC l).at'], [(l[l.length - 2]?.getD cf0).at'], l.take (l.length - 2) ++ [])
 | 6 => ([xtD nZb, (lastC l).at'], [], l.take (l.length - 1) ++ [])
 | 7 => ([xtD nBr, (lastC l).at'], [], l.take (l.length - 1) ++ [])
 | 8 => ([xtD nDo], [], l.take (l.length - 0) ++ [⟨3, v.here + 8, []⟩])
 | 9 => ([xtD nQdo, 0], [], l.take (l.length - 0) ++ [⟨3, v.here + 16, [v.here + 8]⟩])
 | 10 => ([xtD nLp, (lastC l).at'], (lastC l).lv, l.take (l.length - 1) ++ [])
 | 11 => ([xtD nPl, (lastC l).at'], (lastC l).lv, l.take (l.length - 1) ++ [])
 | _ => ([xtD nUn, xtD nBr, 0], [], addLv l (loopAt l).toNat (v.here + 16))
def refK (pl : List Int × List Int × List Cfr) (v : V) : Kw := heresD (cellsK v pl.1) pl.2.1
def refBrD (pl : List Int × List Int × List Cfr) (v : V) (l : List Cfr) : V × List Cfr × Int := if (refK pl v).bad = 0 then ((refK pl v).v, pl.2.2, 0) else (v, l, (refK pl v).bad)
theorem lastC_snoc (L : List Cfr) (c : Cfr) : lastC (L ++ [c]) = c := by simp [lastC]
theorem lastK_0 {l : List Cfr} (h : lastK l 0 ≠ 0) : ∃ L c, l = L ++ [c] ∧ c.kind = lastK l 0 := by
 rcases List.eq_nil_or_concat l with e | ⟨L, c, e⟩
 ·subst e
  exact absurd rfl h
 ·rw [List.concat_eq_append] at e
  exact ⟨L, c, e, by subst e; simp [lastK]⟩
attribute [local irreducible] Decidable.decide awp ARun regK toK
end Go.Proofs.YtpkkplojpjakiaaGreat
namespace Go.Proofs.YtpkkplojpjakiaaGreat
open Go Go.RowKit
open Go.Proofs.YtpkkplojpjakiaaGreat.Dict (St Bs bs_eq encWs closed_ws)
open Go.Proofs.YtpkkplojpjakiaaGreat.Mem (Mm encM encBs closed_bs encP encP_closed closed_m storeD fetchD commaD)
open Go.Proofs.YtpkkplojpjakiaaGreat.Stk (encS closed_s encI_closed)
set_option maxRecDepth 100000
attribute [local irreducible] Decidable.decide awp ARun regK toK
end Go.Proofs.YtpkkplojpjakiaaGreat
namespace Go.Proofs.YtpkkplojpjakiaaGreat
open Go Go.RowKit
open Go.Proofs.YtpkkplojpjakiaaGreat.Dict (St Bs bs_eq encWs closed_ws)
open Go.Proofs.YtpkkplojpjakiaaGreat.Mem (Mm encM encBs closed_bs encP encP_closed closed_m storeD fetchD commaD)
open Go.Proofs.YtpkkplojpjakiaaGreat.Stk (encS closed_s encI_closed)
set_option maxRecDepth 100000
attribute [local irreducible] Decidable.decide awp ARun regK toK
end Go.Proofs.YtpkkplojpjakiaaGreat
namespace Go.Proofs.YtpkkplojpjakiaaGreat
open Go Go.RowKit
open Go.Proofs.YtpkkplojpjakiaaGreat.Dict (St Bs bs_eq encWs closed_ws)
open Go.Proofs.YtpkkplojpjakiaaGreat.Mem (Mm encM encBs closed_bs encP encP_closed closed_m storeD fetchD commaD)
open Go.Proofs.YtpkkplojpjakiaaGreat.Stk (encS closed_s encI_closed)
set_option maxRecDepth 100000
attribute [local irreducible] Decidable.decide awp ARun regK toK
end Go.Proofs.YtpkkplojpjakiaaGreat
