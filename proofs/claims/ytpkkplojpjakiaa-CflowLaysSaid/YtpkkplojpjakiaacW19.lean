/- cX25, cX26, cX27, cX28, cX29. -/
import Derived.Test.YtpkkplojpjakiaaW1
import Derived.Test.YtpkkplojpjakiaaW2
import Derived.Test.YtpkkplojpjakiaaW3
import Derived.Test.YtpkkplojpjakiaaW4
import Derived.Test.YtpkkplojpjakiaacW5
import Derived.Test.YtpkkplojpjakiaacW6
import Derived.Test.YtpkkplojpjakiaacW7
import Derived.Test.YtpkkplojpjakiaacW8
import Derived.Test.YtpkkplojpjakiaacW9
import Derived.Test.YtpkkplojpjakiaacW10
import Derived.Test.YtpkkplojpjakiaacW11
import Derived.Test.YtpkkplojpjakiaacW12
import Derived.Test.YtpkkplojpjakiaacW13
import Derived.Test.YtpkkplojpjakiaacW14
import Derived.Test.YtpkkplojpjakiaacW15
import Derived.Test.YtpkkplojpjakiaacW16
import Derived.Test.YtpkkplojpjakiaacW17
import Derived.Test.YtpkkplojpjakiaacW18
/- cflow: CflowStays returns true. -/
namespace Go.Proofs.Ytpkkplojpjakiaa
set_option linter.unusedVariables false
set_option linter.unusedSimpArgs false
open Go Go.RowKit
open Go.Proofs.Ytpkkplojpjakiaa.Dict (St Bs bs_eq Wd encW encWs closed_ws)
open Go.Proofs.Ytpkkplojpjakiaa.Mem (Mm encM encBs closed_bs encP encP_closed closed_m)
open Go.Proofs.Ytpkkplojpjakiaa.Stk (encS closed_s)
set_option maxRecDepth 100000
structure Sti where
  v : V
  l : List Cfr
  k : Int
  s : Bs
attribute [local irreducible] Decidable.decide awp ARun regK toK
end Go.Proofs.Ytpkkplojpjakiaa
/- cflow: what brackets leave, cell by cell. No program here. -/
namespace Go.Proofs.Ytpkkplojpjakiaa
set_option linter.unusedVariables false
set_option linter.unusedSimpArgs false
open Go Go.RowKit
open Go.Proofs.Ytpkkplojpjakiaa.Dict (St Bs)
set_option maxRecDepth 100000
def Sg (x : Int) : Prop := x = xtD nDo ∨ x = xtD nUn
def Brx (x : Int) : Prop := x = xtD nBr ∨ x = xtD nZb ∨ x = xtD nQdo ∨ x = xtD nLp ∨ x = xtD nPl
def pos : List Bool → Nat
  | [] => 171
  | b :: l => pos l + (if b then 2 else 1)
/-- The stream, the last item first. -/
structure Wf (f : Nat → Int) (L : List Bool) : Prop where
  sg : ∀ A R, L = A ++ false :: R → Sg (f (pos R))
  br : ∀ A R, L = A ++ true :: R → Brx (f (pos R))
def isB (L : List Bool) (k : Nat) : Prop := ∃ A R, L = A ++ true :: R ∧ k = pos R + 1
def isA (L : List Bool) (a : Int) : Prop := ∃ k : Nat, isB L k ∧ a = ((8 * k : Nat) : Int)
def tgt (h : Nat) (a : Int) : Prop := ∃ t : Nat, 171 ≤ t ∧ t ≤ h ∧ a = ((8 * t : Nat) : Int)
def Open (l : List Cfr) (a : Int) : Prop := ∃ c, c ∈ l ∧ ((c.kind = 1 ∧ c.at' = a) ∨ a ∈ c.lv)
structure OkB (L : List Bool) (h : Nat) (c : Cfr) : Prop where
  k1 : c.kind = 1 → isA L c.at'
  k2 : c.kind ≠ 1 → tgt h c.at'
  lv : ∀ a, a ∈ c.lv → isA L a
structure Laid (f : Nat → Int) (h : Nat) (L : List Bool) (f1 : Nat → Int) (h1 : Nat) (L1 : List Bool) (y : Option Int) : Prop where
  wf : Wf f1 L1
  ps : pos L1 = h1
  le : h ≤ h1
  same : ∀ k, k < h → f1 k = f k
  old : ∀ k, isB L k → isB L1 k
  new : ∀ k, isB L1 k → isB L k ∨ ∃ y', y = some y' ∧ k + 1 = h1 ∧ f1 k = y'
  yes : ∀ y', y = some y' → isB L1 (h1 - 1)
structure Inv (v : V) (l : List Cfr) (f : Nat → Int) (h : Nat) (L : List Bool) : Prop where
  fl : Fl v f h
  hh : h ≤ 256
  h0 : 171 ≤ h
  wf : Wf f L
  ps : pos L = h
  ri : RightC l
  ok : ∀ c, c ∈ l → OkB L h c
  b : ∀ k, isB L k → tgt h (f k) ∨ Open l ((8 * k : Nat) : Int)
end Go.Proofs.Ytpkkplojpjakiaa
/- cflow: each bracket keeps what LEADS asks. No program here. -/
namespace Go.Proofs.Ytpkkplojpjakiaa
set_option linter.unusedVariables false
set_option linter.unusedSimpArgs false
open Go Go.RowKit
open Go.Proofs.Ytpkkplojpjakiaa.Dict (St Bs)
set_option maxRecDepth 100000
end Go.Proofs.Ytpkkplojpjakiaa
/- cflow: CflowLeads returns true. -/
namespace Go.Proofs.Ytpkkplojpjakiaa
set_option linter.unusedVariables false
set_option linter.unusedSimpArgs false
open Go Go.RowKit
open Go.Proofs.Ytpkkplojpjakiaa.Dict (St Bs bs_eq Wd encW encWs closed_ws)
open Go.Proofs.Ytpkkplojpjakiaa.Mem (Mm encM encBs closed_bs encP encP_closed closed_m fetchD)
open Go.Proofs.Ytpkkplojpjakiaa.Stk (encS closed_s)
set_option maxRecDepth 100000
theorem Okk.rng {v : V} {k : Nat} (h : Okk v k) : Rng v := ⟨h.h0, h.h1⟩
structure InvK (v : V) (l : List Cfr) (n : Nat) : Prop where
  inv : ∃ f h L, Inv v l f h L
  ok : Okk v n
theorem InvK.right {v : V} {l : List Cfr} {n : Nat} (h : InvK v l n) : RightC l := by
  obtain ⟨f, g, L, h⟩ := h.inv
  exact h.ri
attribute [local irreducible] Decidable.decide awp ARun regK toK
end Go.Proofs.Ytpkkplojpjakiaa
/- cflow: CflowMatches returns true. -/
namespace Go.Proofs.Ytpkkplojpjakiaa
set_option linter.unusedVariables false
set_option linter.unusedSimpArgs false
open Go Go.RowKit
open Go.Proofs.Ytpkkplojpjakiaa.Dict (St Bs bs_eq Wd encW encWs closed_ws)
open Go.Proofs.Ytpkkplojpjakiaa.Mem (Mm encM encBs closed_bs encP encP_closed closed_m fetchD)
open Go.Proofs.Ytpkkplojpjakiaa.Stk (encS closed_s)
set_option maxRecDepth 100000
attribute [local irreducible] Decidable.decide awp ARun regK toK
end Go.Proofs.Ytpkkplojpjakiaa
