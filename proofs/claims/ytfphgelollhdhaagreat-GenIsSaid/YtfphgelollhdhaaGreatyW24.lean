/- yB5, yB6, yB7, yB8, yB9. -/
import Derived.Test.YtfphgelollhdhaaGreatW1
import Derived.Test.YtfphgelollhdhaaGreatW2
import Derived.Test.YtfphgelollhdhaaGreatW3
import Derived.Test.YtfphgelollhdhaaGreatW4
import Derived.Test.YtfphgelollhdhaaGreatyW5
import Derived.Test.YtfphgelollhdhaaGreatyW6
import Derived.Test.YtfphgelollhdhaaGreatyW7
import Derived.Test.YtfphgelollhdhaaGreatyW8
import Derived.Test.YtfphgelollhdhaaGreatyW9
import Derived.Test.YtfphgelollhdhaaGreatyW10
import Derived.Test.YtfphgelollhdhaaGreatyW11
import Derived.Test.YtfphgelollhdhaaGreatyW12
import Derived.Test.YtfphgelollhdhaaGreatyW13
import Derived.Test.YtfphgelollhdhaaGreatyW14
import Derived.Test.YtfphgelollhdhaaGreatyW15
import Derived.Test.YtfphgelollhdhaaGreatyW16
import Derived.Test.YtfphgelollhdhaaGreatyW17
import Derived.Test.YtfphgelollhdhaaGreatyW18
import Derived.Test.YtfphgelollhdhaaGreatyW19
import Derived.Test.YtfphgelollhdhaaGreatyW20
import Derived.Test.YtfphgelollhdhaaGreatyW21
import Derived.Test.YtfphgelollhdhaaGreatyW22
import Derived.Test.YtfphgelollhdhaaGreatyW23
set_option linter.unusedVariables false
set_option linter.unusedSimpArgs false
namespace Go.Proofs.YtfphgelollhdhaaGreat
open Go Go.RowKit
open Go.Proofs.YtfphgelollhdhaaGreat.Dict (St Bs Wd findD foundD lastAt findP lastAt_hit lastAt_miss found_hit)
open Gen (Nod Xts codN codL oneS sizS mayM wr wr_in wr_range okD okDs loopsM guardM leafM cntN cntL cnt_ab sizS_bound oneS_bound)
set_option maxRecDepth 100000
def conf1 : Cf := ⟨4096, 32, 32, 250, 2000⟩
def v1 : V := vNew conf1
def D0 : List Wd := dictS 37
theorem v1_fl : FlN 512 v1 f0 171 := ⟨rfl, rfl⟩
theorem v1_dict : v1.dict = D0 := rfl
def kdW (x : Wd) : Int := f0 (x.xt / 8).toNat
def nameS (k : Int) : Bs := spcV[(k - 300).toNat]?.getD []
def nIF : Bs := [73, 70]
def nELSE : Bs := [69, 76, 83, 69]
def nTHEN : Bs := [84, 72, 69, 78]
def nBEGIN : Bs := [66, 69, 71, 73, 78]
def nWHILE : Bs := [87, 72, 73, 76, 69]
def nREPEAT : Bs := [82, 69, 80, 69, 65, 84]
def nUNTIL : Bs := [85, 78, 84, 73, 76]
def nAGAIN : Bs := [65, 71, 65, 73, 78]
def nDOW : Bs := [68, 79]
def nQDO : Bs := [63, 68, 79]
def nLOOP : Bs := [76, 79, 79, 80]
def nPLOOP : Bs := [43, 76, 79, 79, 80]
def nLEAVE : Bs := [76, 69, 65, 86, 69]
def nEXIT : Bs := [69, 88, 73, 84]
def nRECURSE : Bs := [82, 69, 67, 85, 82, 83, 69]
def nBCHAR : Bs := [91, 67, 72, 65, 82, 93]
def nBTICK : Bs := [91, 39, 93]
def handled : List Bs := [nIF, nELSE, nTHEN, nBEGIN, nWHILE, nREPEAT, nUNTIL, nAGAIN, nDOW, nQDO, nLOOP, nPLOOP, nLEAVE, nEXIT, nRECURSE, nBCHAR, nBTICK]
def okWd (x : Wd) : Bool := decide (32 ≤ x.xt) && decide (x.xt % 8 = 0) && decide (x.xt < 1368) && (decide (0 ≤ kdW x ∧ kdW x ≤ 129) || (decide (300 ≤ kdW x ∧ kdW x ≤ 336) && (nameS (kdW x) != []) && (!(handled.contains (nameS (kdW x))) || decide (x.fl % 2 = 1)))) && decide (0 ≤ x.fl ∧ x.fl ≤ 7) && decide (x.name.length ≤ 31)
theorem dict_all : D0.all okWd = true := by kernel_rfl
structure WdF (x : Wd) : Prop where
 lo : 32 ≤ x.xt
 al : x.xt % 8 = 0
 hi : x.xt < 1368
 kd : (0 ≤ kdW x ∧ kdW x ≤ 129) ∨ ((300 ≤ kdW x ∧ kdW x ≤ 336) ∧ nameS (kdW x) ≠ [] ∧ (nameS (kdW x) ∈ handled → x.fl % 2 = 1))
 fl : 0 ≤ x.fl ∧ x.fl ≤ 7
 nm : x.name.length ≤ 31
theorem wd_at {x : Wd} (h : x ∈ D0) : WdF x := by
 have h1 := List.all_eq_true.1 dict_all x h
 unfold okWd at h1
 simp only [Bool.and_eq_true, Bool.or_eq_true, decide_eq_true_eq, bne_iff_ne, Bool.not_eq_true', List.contains_eq_mem, decide_eq_false_iff_not] at h1
 obtain ⟨⟨⟨⟨⟨a, b⟩, c⟩, d⟩, e⟩, f⟩ := h1
 refine ⟨a, b, c, ?_, e, f⟩
 rcases d with d | ⟨⟨d1, d2⟩, d3⟩
 ·exact .inl d
 ·exact .inr ⟨d1, d2, fun h => d3.resolve_left (fun n => n h)⟩
theorem last_ltB {P : Wd → Bool} {l : List Wd} : ∀ {n i : Nat}, lastAt P l n = some i → i < n
 | 0, i, h => by cases h
 | n + 1, i, h => by
  rw [lastAt] at h
  cases hw : l[n]? with
  | none =>
   rw [hw] at h
   have := last_ltB h
   omega
  | some w =>
   rw [hw] at h
   dsimp only at h
   cases hp : P w with
   | true =>
    rw [if_pos hp] at h
    cases h
    omega
   | false =>
    rw [if_neg (by simp [hp])] at h
    have := last_ltB h
    omega
theorem find_in {l : List Wd} {w : Bs} (h : (findD l w).2.2 = true) : (findD l w).1 ∈ l := by
 unfold findD at h ⊢
 cases hc : lastAt (findP w) l l.length with
 | none =>
  rw [hc] at h
  cases h
 | some i =>
  have h1 := last_ltB hc
  rw [show foundD l (some i) = (l[i], (i : Int), true) from by simp only [foundD]; rw [List.getElem?_eq_getElem h1]]
  exact List.getElem_mem h1
def worthN (c : UInt8) : Int := if 97 ≤ c.toNat ∧ c.toNat ≤ 122 then c.toNat - 87 else if 65 ≤ c.toNat ∧ c.toNat ≤ 90 then c.toNat - 55 else if 48 ≤ c.toNat ∧ c.toNat ≤ 57 then c.toNat - 48 else 99
def worthD (c : UInt8) (base : Int) : Int × Bool := if base < 2 ∨ 36 < base ∨ base ≤ worthN c then (0, false) else (worthN c, true)
def goNum (base : Int) : List UInt8 → Int → Int × Bool
 | [], n => (n, true)
 | c :: l, n => if (worthD c base).2 = true then goNum base l (wr (wr (n * base) + (worthD c base).1)) else (0, false)
def numB3 (s : Bs) : Option UInt8 := match s with
 | [a, b, c] => if a = 39 ∧ c = 39 ∧ 33 ≤ b.toNat ∧ b.toNat ≤ 126 then some b else none
 | _ => none
def numBase (s : Bs) : Int := match s with
 | c :: _ => if c = 36 then 16 else if c = 37 then 2 else 10
 | [] => 10
def numAt (s : Bs) : Nat := match s with
 | c :: _ => if c = 35 ∨ c = 36 ∨ c = 37 then 1 else 0
 | [] => 0
def numNeg (s : Bs) : Bool := match s[numAt s]? with
 | some c => decide (c = 45)
 | none => false
def numAt2 (s : Bs) : Nat := if numNeg s = true then numAt s + 1 else numAt s
def numD (s : Bs) : Int × Bool := match numB3 s with
 | some b => ((b.toNat : Int), true)
 | none =>
  if s.length ≤ numAt2 s then (0, false)
  else if (goNum (numBase s) (s.drop (numAt2 s)) 0).2 = true then
   (if numNeg s = true then wr (0 - (goNum (numBase s) (s.drop (numAt2 s)) 0).1) else (goNum (numBase s) (s.drop (numAt2 s)) 0).1, true)
  else (0, false)
theorem goNum_in (base : Int) : ∀ (l : List UInt8) (n : Int), In64 n → In64 (goNum base l n).1
 | [], n, h => h
 | c :: l, n, h => by
  rw [goNum]
  split
  ·exact goNum_in base l _ (wr_range _)
  ·exact ⟨by decide, by decide⟩
theorem numD_in (s : Bs) : In64 (numD s).1 := by
 unfold numD
 split
 ·rename_i b _
  have := b.toNat_lt
  exact ⟨by dsimp only; omega, by dsimp only; omega⟩
 ·split
  ·exact ⟨by decide, by decide⟩
  ·split
   ·dsimp only
    split
    ·exact wr_range _
    ·exact goNum_in _ _ _ ⟨by decide, by decide⟩
   ·exact ⟨by decide, by decide⟩
structure Ps where
 at' : Nat
 bad : Int
def failp (p : Ps) (e : Int) : Ps := if p.bad = 0 then ⟨p.at', e⟩ else p
def zNod : Nod := .mk 0 0 [] []
def oddF (x : Wd) (loops : Int) : Prop := x.fl % 2 = 1 ∨ (kdW x < 23 ∧ kdW x ≠ 14 ∧ ¬ (kdW x = 15 ∧ 1 ≤ loops) ∧ ¬ (kdW x = 16 ∧ 2 ≤ loops))
instance (x : Wd) (loops : Int) : Decidable (oddF x loops) := by unfold oddF; exact inferInstance
def wordP (w : Bs) (loops : Int) (p : Ps) : (Nod × Bs) × Ps :=
 if (findD D0 w).2.2 = true then
  if 300 ≤ kdW (findD D0 w).1 then ((zNod, nameS (kdW (findD D0 w).1)), p)
  else ((.mk 2 (findD D0 w).1.xt [] [], []), if oddF (findD D0 w).1 loops then failp p (-32) else p)
 else ((.mk 1 (numD w).1 [] [], []), if (numD w).2 = true then p else failp p (-13))
def behindP (ws : List Bs) (p : Ps) : Bs × Ps := match ws[p.at']? with
 | some w => if w = [] then ([], failp p (-16)) else (w, ⟨p.at' + 1, p.bad⟩)
 | none => ([], failp p (-16))
abbrev RowR := (List Nod × Bs) × Ps
abbrev RowF := List Bs → Int → Int → Ps → RowR
def ifP (R : RowF) (op loops : Int) (p : Ps) : Nod × Ps :=
 if (R [nELSE, nTHEN] op loops p).1.2 = nELSE then
  (.mk 3 1 (R [nELSE, nTHEN] op loops p).1.1 (R [nTHEN] op loops (R [nELSE, nTHEN] op loops p).2).1.1, (R [nTHEN] op loops (R [nELSE, nTHEN] op loops p).2).2)
 else (.mk 3 0 (R [nELSE, nTHEN] op loops p).1.1 [], (R [nELSE, nTHEN] op loops p).2)
def beginP (R : RowF) (op loops : Int) (p : Ps) : Nod × Ps :=
 if (R [nUNTIL, nAGAIN, nWHILE] op loops p).1.2 = nUNTIL then (.mk 4 0 (R [nUNTIL, nAGAIN, nWHILE] op loops p).1.1 [], (R [nUNTIL, nAGAIN, nWHILE] op loops p).2)
 else if (R [nUNTIL, nAGAIN, nWHILE] op loops p).1.2 = nAGAIN then (.mk 5 0 (R [nUNTIL, nAGAIN, nWHILE] op loops p).1.1 [], (R [nUNTIL, nAGAIN, nWHILE] op loops p).2)
 else (.mk 6 0 (R [nUNTIL, nAGAIN, nWHILE] op loops p).1.1 (R [nREPEAT] op loops (R [nUNTIL, nAGAIN, nWHILE] op loops p).2).1.1, (R [nREPEAT] op loops (R [nUNTIL, nAGAIN, nWHILE] op loops p).2).2)
def doP (R : RowF) (name : Bs) (op loops : Int) (p : Ps) : Nod × Ps :=
 (.mk (if (R [nLOOP, nPLOOP] op (loops + 1) p).1.2 = nPLOOP then 8 else 7) (if name = nQDO then 1 else 0) (R [nLOOP, nPLOOP] op (loops + 1) p).1.1 [], (R [nLOOP, nPLOOP] op (loops + 1) p).2)
def brP (R : RowF) (name : Bs) (op loops : Int) (p : Ps) : Nod × Ps :=
 if name = nIF then ifP R op loops p else if name = nBEGIN then beginP R op loops p else doP R name op loops p
def partP (ws : List Bs) (R : RowF) (name : Bs) (op loops : Int) (p : Ps) : Nod × Ps :=
 if name = nLEAVE then (.mk 9 0 [] [], if loops = 0 then failp p (-22) else p)
 else if name = nEXIT then (.mk 10 0 [] [], if 0 < loops then failp p (-32) else p)
 else if name = nRECURSE then (.mk 11 0 [] [], p)
 else if name = nBCHAR then (match (behindP ws p).1 with
  | c :: _ => (.mk 1 (c.toNat : Int) [] [], (behindP ws p).2)
  | [] => (zNod, (behindP ws p).2))
 else if name = nBTICK then (.mk 1 (findD D0 (behindP ws p).1).1.xt [] [], if (findD D0 (behindP ws p).1).2.2 = true then (behindP ws p).2 else failp (behindP ws p).2 (-13))
 else if name = nIF ∨ name = nBEGIN ∨ name = nDOW ∨ name = nQDO then (if 16 ≤ op then (zNod, failp p (-22)) else brP R name (op + 1) loops p)
 else if name = nELSE ∨ name = nTHEN ∨ name = nWHILE ∨ name = nREPEAT ∨ name = nUNTIL ∨ name = nAGAIN ∨ name = nLOOP ∨ name = nPLOOP then (zNod, failp p (-22))
 else (zNod, failp p (-32))
def rowP (ws : List Bs) : Nat → List Bs → Int → Int → Ps → List Nod → RowR
 | 0, _, _, _, p, _ => (([], []), ⟨p.at', 1⟩)
 | n + 1, ends, op, loops, p, acc =>
  if p.bad ≠ 0 then (([], []), p)
  else match ws[p.at']? with
   | none => ((acc, []), if [] ∈ ends then p else failp p (-22))
   | some w =>
    if (wordP w loops ⟨p.at' + 1, p.bad⟩).2.bad ≠ 0 then (([], []), (wordP w loops ⟨p.at' + 1, p.bad⟩).2)
    else if (wordP w loops ⟨p.at' + 1, p.bad⟩).1.2 = [] then rowP ws n ends op loops (wordP w loops ⟨p.at' + 1, p.bad⟩).2 (acc ++ [(wordP w loops ⟨p.at' + 1, p.bad⟩).1.1])
    else if (wordP w loops ⟨p.at' + 1, p.bad⟩).1.2 ∈ ends then ((acc, (wordP w loops ⟨p.at' + 1, p.bad⟩).1.2), (wordP w loops ⟨p.at' + 1, p.bad⟩).2)
    else rowP ws n ends op loops (partP ws (fun e o l q => rowP ws n e o l q []) (wordP w loops ⟨p.at' + 1, p.bad⟩).1.2 op loops (wordP w loops ⟨p.at' + 1, p.bad⟩).2).2 (acc ++ [(partP ws (fun e o l q => rowP ws n e o l q []) (wordP w loops ⟨p.at' + 1, p.bad⟩).1.2 op loops (wordP w loops ⟨p.at' + 1, p.bad⟩).2).1])
def parseP (ws : List Bs) : List Nod × Int :=
 if (rowP ws (ws.length + 1) [[]] 0 0 ⟨0, 0⟩ []).2.bad ≠ 0 then ([], (rowP ws (ws.length + 1) [[]] 0 0 ⟨0, 0⟩ []).2.bad)
 else ((rowP ws (ws.length + 1) [[]] 0 0 ⟨0, 0⟩ []).1.1, 0)
end Go.Proofs.YtfphgelollhdhaaGreat
namespace Go.Proofs.YtfphgelollhdhaaGreat
open Go Go.RowKit
open Go.Proofs.YtfphgelollhdhaaGreat.Dict (St Bs Wd findD)
open Gen (Nod Xts codN codL oneS sizS mayM wr wr_in wr_range okD okDs loopsM guardM leafM cntN cntL cnt_ab)
set_option maxRecDepth 100000
theorem failp_at (p : Ps) (e : Int) : (failp p e).at' = p.at' := by unfold failp; split <;> rfl
theorem failp_bad {p : Ps} {e : Int} (he : e ≠ 0) : (failp p e).bad ≠ 0 := by
 unfold failp
 split
 ·exact he
 ·rename_i h; exact h
theorem wordP_at (w : Bs) (loops : Int) (p : Ps) : (wordP w loops p).2.at' = p.at' := by
 unfold wordP
 split
 ·split
  ·rfl
  ·dsimp only; split
   ·exact failp_at _ _
   ·rfl
 ·dsimp only; split
  ·rfl
  ·exact failp_at _ _
theorem behindP_at (ws : List Bs) (p : Ps) : p.at' ≤ (behindP ws p).2.at' := by
 unfold behindP
 split
 ·split
  ·exact Nat.le_of_eq (failp_at _ _).symm
  ·exact Nat.le_succ _
 ·exact Nat.le_of_eq (failp_at _ _).symm
def MonoR (R : RowF) : Prop := ∀ e o l p, p.at' ≤ (R e o l p).2.at'
theorem brP_at {R : RowF} (h : MonoR R) (name : Bs) (op loops : Int) (p : Ps) : p.at' ≤ (brP R name op loops p).2.at' := by
 unfold brP ifP beginP doP
 split
 ·split
  ·exact Nat.le_trans (h _ _ _ _) (h _ _ _ _)
  ·exact h _ _ _ _
 ·split
  ·split
   ·exact h _ _ _ _
   ·split
    ·exact h _ _ _ _
    ·exact Nat.le_trans (h _ _ _ _) (h _ _ _ _)
  ·exact h _ _ _ _
theorem partP_at (ws : List Bs) {R : RowF} (h : MonoR R) (name : Bs) (op loops : Int) (p : Ps) : p.at' ≤ (partP ws R name op loops p).2.at' := by
 unfold partP
 split
 ·dsimp only; split
  ·exact Nat.le_of_eq (failp_at _ _).symm
  ·exact Nat.le_refl _
 split
 ·dsimp only; split
  ·exact Nat.le_of_eq (failp_at _ _).symm
  ·exact Nat.le_refl _
 split
 ·exact Nat.le_refl _
 split
 ·split
  ·exact behindP_at _ _
  ·exact behindP_at _ _
 split
 ·dsimp only; split
  ·exact behindP_at _ _
  ·rw [failp_at]; exact behindP_at _ _
 split
 ·split
  ·exact Nat.le_of_eq (failp_at _ _).symm
  ·exact brP_at h _ _ _ _
 split
 ·exact Nat.le_of_eq (failp_at _ _).symm
 ·exact Nat.le_of_eq (failp_at _ _).symm
theorem rowP_at (ws : List Bs) : ∀ (n : Nat) (ends : List Bs) (op loops : Int) (p : Ps) (acc : List Nod), p.at' ≤ (rowP ws n ends op loops p acc).2.at'
 | 0, _, _, _, p, _ => Nat.le_refl _
 | n + 1, ends, op, loops, p, acc => by
  have hm : MonoR (fun e o l q => rowP ws n e o l q []) := fun e o l q => rowP_at ws n e o l q []
  rw [rowP]
  split
  ·exact Nat.le_refl _
  ·split
   ·dsimp only; split
    ·exact Nat.le_refl _
    ·exact Nat.le_of_eq (failp_at _ _).symm
   ·rename_i w _
    have hw := wordP_at w loops ⟨p.at' + 1, p.bad⟩
    dsimp only at hw
    split
    ·show p.at' ≤ (wordP w loops ⟨p.at' + 1, p.bad⟩).2.at'
     omega
    split
    ·have := rowP_at ws n ends op loops (wordP w loops ⟨p.at' + 1, p.bad⟩).2 (acc ++ [(wordP w loops ⟨p.at' + 1, p.bad⟩).1.1])
     omega
    split
    ·show p.at' ≤ (wordP w loops ⟨p.at' + 1, p.bad⟩).2.at'
     omega
    ·have h1 := partP_at ws hm (wordP w loops ⟨p.at' + 1, p.bad⟩).1.2 op loops (wordP w loops ⟨p.at' + 1, p.bad⟩).2
     have h2 := rowP_at ws n ends op loops (partP ws (fun e o l q => rowP ws n e o l q []) (wordP w loops ⟨p.at' + 1, p.bad⟩).1.2 op loops (wordP w loops ⟨p.at' + 1, p.bad⟩).2).2 (acc ++ [(partP ws (fun e o l q => rowP ws n e o l q []) (wordP w loops ⟨p.at' + 1, p.bad⟩).1.2 op loops (wordP w loops ⟨p.at' + 1, p.bad⟩).2).1])
     omega
def SpAt (ws : List Bs) (i : Nat) (name : Bs) : Prop := ∃ w, ws[i]? = some w ∧ (findD D0 w).2.2 = true ∧ 300 ≤ kdW (findD D0 w).1 ∧ nameS (kdW (findD D0 w).1) = name
inductive Tok1 (ws : List Bs) (i : Nat) : Itm → Prop
 | num {w : Bs} : ws[i]? = some w → (findD D0 w).2.2 = false → (numD w).2 = true → Tok1 ws i (.lay [xtD nLit, (numD w).1])
 | prim {w : Bs} : ws[i]? = some w → (findD D0 w).2.2 = true → kdW (findD D0 w).1 < 300 → (findD D0 w).1.fl % 2 ≠ 1 → Tok1 ws i (.lay [(findD D0 w).1.xt])
 | exit : SpAt ws i nEXIT → Tok1 ws i (.lay [xtD nEx])
 | self : SpAt ws i nRECURSE → Tok1 ws i (.lay [1368])
 | br {b : Nat} {nm : Bs} : SpAt ws i nm → nmC[b]? = some nm → b < 13 → Tok1 ws i (.br b)
inductive Tok2 (ws : List Bs) (i : Nat) : Itm → Prop
 | char {c : UInt8} {w : Bs} : SpAt ws i nBCHAR → ws[i + 1]? = some (c :: w) → Tok2 ws i (.lay [xtD nLit, (c.toNat : Int)])
 | tick {w : Bs} : SpAt ws i nBTICK → ws[i + 1]? = some w → w ≠ [] → (findD D0 w).2.2 = true → Tok2 ws i (.lay [xtD nLit, (findD D0 w).1.xt])
inductive Toks (ws : List Bs) : Nat → List Itm → Nat → Prop
 | nil (i : Nat) : Toks ws i [] i
 | one {i j : Nat} {it : Itm} {its : List Itm} : Tok1 ws i it → Toks ws (i + 1) its j → Toks ws i (it :: its) j
 | two {i j : Nat} {it : Itm} {its : List Itm} : Tok2 ws i it → Toks ws (i + 2) its j → Toks ws i (it :: its) j
theorem Toks.app {ws : List Bs} {i j k : Nat} {a b : List Itm} (h : Toks ws i a j) : Toks ws j b k → Toks ws i (a ++ b) k := by
 induction h with
 | nil i => exact fun g => g
 | one h1 h2 ih => exact fun g => .one h1 (ih g)
 | two h1 h2 ih => exact fun g => .two h1 (ih g)
theorem Toks.le {ws : List Bs} {i j : Nat} {a : List Itm} (h : Toks ws i a j) : i + a.length ≤ j := by
 induction h with
 | nil i => exact Nat.le_refl _
 | one h1 h2 ih => rw [List.length_cons]; omega
 | two h1 h2 ih => rw [List.length_cons]; omega
mutual
def rgN : Nod → Prop
 | .mk k n a b => In64 n ∧ rgL a ∧ rgL b
def rgL : List Nod → Prop
 | [] => True
 | x :: l => rgN x ∧ rgL l
end
structure RowOk (ws : List Bs) (p : Ps) (op loops : Int) (t : List Nod) (i : Nat) : Prop where
 may : ∀ x, x ∈ t → mayM (16 - op.toNat) x loops = true
 cnt : cntL t + p.at' ≤ i
 tok : Toks ws p.at' (itL 1368 t) i
 rg : rgL t
structure RowE (ws : List Bs) (ends : List Bs) (p : Ps) (op loops : Int) (acc : List Nod) (r : RowR) : Prop where
 ex : ∃ t i, r.1.1 = acc ++ t ∧ RowOk ws p op loops t i ∧ ((r.1.2 = [] ∧ [] ∈ ends ∧ i = r.2.at' ∧ ws[i]? = none) ∨ (r.1.2 ≠ [] ∧ r.1.2 ∈ ends ∧ r.2.at' = i + 1 ∧ SpAt ws i r.1.2))
structure RowG (ws : List Bs) (R : RowF) : Prop where
 go : ∀ ends op loops p, 0 ≤ op → op ≤ 16 → 0 ≤ loops → p.bad = 0 → (R ends op loops p).2.bad = 0 → RowE ws ends p op loops [] (R ends op loops p)
 bd : ∀ ends op loops p, p.bad ≠ 0 → (R ends op loops p).2.bad ≠ 0
theorem in64_s (n : Int) (h : 0 ≤ n ∧ n ≤ 100000) : In64 n := ⟨by omega, by omega⟩
theorem may_leaf (m : Nat) (k n loops : Int) (h : k = 1 ∨ k = 2 ∨ (k = 9 ∧ n = 0 ∧ 0 < loops) ∨ (k = 10 ∧ n = 0 ∧ loops = 0) ∨ (k = 11 ∧ n = 0)) : mayM m (.mk k n [] []) loops = true := by
 rw [Gen.mayM.eq_def]
 dsimp only
 have hk : (Nod.mk k n [] []).k = k := rfl
 have hn : (Nod.mk k n [] []).n = n := rfl
 have ha : (Nod.mk k n [] []).a = [] := rfl
 have hb : (Nod.mk k n [] []).b = [] := rfl
 unfold leafM
 rw [hk, hn, ha, hb, if_pos (by omega)]
 rcases h with rfl | rfl | ⟨rfl, rfl, h⟩ | ⟨rfl, rfl, rfl⟩ | ⟨rfl, rfl⟩
 ·simp
 ·simp
 ·simp [h]
 ·simp
 ·simp
theorem may_node {m : Nat} {k n loops : Int} {a b : List Nod} (h : ¬ (k = 1 ∨ k = 2 ∨ k = 9 ∨ k = 10 ∨ k = 11)) (hg : guardM (.mk k n a b) = true) (ha : ∀ x, x ∈ a → mayM m x (loopsM (.mk k n a b) loops) = true) (hb : ∀ x, x ∈ b → mayM m x (loopsM (.mk k n a b) loops) = true) : mayM (m + 1) (.mk k n a b) loops = true := by
 rw [Gen.mayM.eq_def]
 dsimp only
 have hk : (Nod.mk k n a b).k = k := rfl
 rw [hk, if_neg h, hg]
 simp only [Bool.true_and, Bool.and_eq_true, List.all_eq_true]
 exact ⟨ha, hb⟩
theorem op_nat {op : Int} (h : 0 ≤ op) (h2 : op < 16) : 16 - op.toNat = (16 - (op + 1).toNat) + 1 := by omega
theorem cntN_mk (k n : Int) (a b : List Nod) : cntN (.mk k n a b) = 1 + cntL a + cntL b := by rw [cntN]
theorem it_1 (self n : Int) (a b : List Nod) : itN self (.mk 1 n a b) = [.lay [xtD nLit, n]] := by rw [itN]; rfl
theorem it_2 (self n : Int) (a b : List Nod) : itN self (.mk 2 n a b) = [.lay [n]] := by rw [itN]; rfl
theorem it_9 (self n : Int) (a b : List Nod) : itN self (.mk 9 n a b) = [.br 12] := by rw [itN]; rfl
theorem it_10 (self n : Int) (a b : List Nod) : itN self (.mk 10 n a b) = [.lay [xtD nEx]] := by rw [itN]; rfl
theorem it_11 (self n : Int) (a b : List Nod) : itN self (.mk 11 n a b) = [.lay [self]] := by rw [itN]; rfl
theorem it_30 (self : Int) (a b : List Nod) : itN self (.mk 3 0 a b) = .br 0 :: (itL self a ++ [.br 2]) := by rw [itN]; rfl
theorem it_31 (self : Int) (a b : List Nod) : itN self (.mk 3 1 a b) = .br 0 :: (itL self a ++ (.br 1 :: (itL self b ++ [.br 2]))) := by rw [itN]; rfl
theorem it_4 (self n : Int) (a b : List Nod) : itN self (.mk 4 n a b) = .br 3 :: (itL self a ++ [.br 6]) := by rw [itN]; rfl
theorem it_5 (self n : Int) (a b : List Nod) : itN self (.mk 5 n a b) = .br 3 :: (itL self a ++ [.br 7]) := by rw [itN]; rfl
theorem it_6 (self n : Int) (a b : List Nod) : itN self (.mk 6 n a b) = .br 3 :: (itL self a ++ (.br 4 :: (itL self b ++ [.br 5]))) := by rw [itN]; rfl
theorem it_7 (self n : Int) (a b : List Nod) : itN self (.mk 7 n a b) = .br (if n = 1 then 9 else 8) :: (itL self a ++ [.br 10]) := by rw [itN]; rfl
theorem it_8 (self n : Int) (a b : List Nod) : itN self (.mk 8 n a b) = .br (if n = 1 then 9 else 8) :: (itL self a ++ [.br 11]) := by rw [itN]; rfl
structure PartOk (ws : List Bs) (p : Ps) (op loops : Int) (x : Nod) (q : Ps) : Prop where
 may : mayM (16 - op.toNat) x loops = true
 cnt : cntN x + (p.at' - 1) ≤ q.at'
 tok : Toks ws (p.at' - 1) (itN 1368 x) q.at'
 rg : rgN x
 ok : q.bad = 0
theorem part_leaf {ws : List Bs} {p : Ps} {op loops k n : Int} {q : Ps} (hp : 1 ≤ p.at') (hm : k = 1 ∨ k = 2 ∨ (k = 9 ∧ n = 0 ∧ 0 < loops) ∨ (k = 10 ∧ n = 0 ∧ loops = 0) ∨ (k = 11 ∧ n = 0)) (hn : In64 n) (hq : p.at' ≤ q.at') (ht : Toks ws (p.at' - 1) (itN 1368 (.mk k n [] [])) q.at') (hb : q.bad = 0) : PartOk ws p op loops (.mk k n [] []) q :=
 ⟨may_leaf _ k n loops hm, by rw [cntN_mk, Gen.cntL_nil]; omega, ht, by rw [rgN, rgL]; exact ⟨hn, trivial, trivial⟩, hb⟩
theorem z64 : In64 0 := ⟨by decide, by decide⟩
theorem part_ok {ws : List Bs} {R : RowF} (hR : RowG ws R) (hM : MonoR R) {name : Bs} {op loops : Int} {p : Ps} (h0 : 0 ≤ op) (h1 : op ≤ 16) (h2 : 0 ≤ loops) (hp : 1 ≤ p.at') (hb : p.bad = 0) (hs : SpAt ws (p.at' - 1) name) (hq : (partP ws R name op loops p).2.bad = 0) : PartOk ws p op loops (partP ws R name op loops p).1 (partP ws R name op loops p).2 := by
 have e1 : p.at' - 1 + 1 = p.at' := by omega
 unfold partP at hq ⊢
 split at hq
 ·rename_i hn
  subst hn
  rw [if_pos rfl]
  by_cases hl : loops = 0
  ·rw [if_pos hl] at hq
   exact absurd hq (failp_bad (by decide))
  ·rw [if_neg hl]
   refine part_leaf hp (by omega) z64 (Nat.le_refl _) ?_ hb
   rw [it_9]
   exact .one (.br (nm := nLEAVE) hs rfl (by decide)) (by rw [e1]; exact .nil _)
 rename_i n1
 rw [if_neg n1]
 split at hq
 ·rename_i hn
  subst hn
  rw [if_pos rfl]
  by_cases hl : 0 < loops
  ·rw [if_pos hl] at hq
   exact absurd hq (failp_bad (by decide))
  ·rw [if_neg hl]
   refine part_leaf hp (by omega) z64 (Nat.le_refl _) ?_ hb
   rw [it_10]
   exact .one (.exit hs) (by rw [e1]; exact .nil _)
 rename_i n2
 rw [if_neg n2]
 split at hq
 ·rename_i hn
  subst hn
  rw [if_pos rfl]
  refine part_leaf hp (by omega) z64 (Nat.le_refl _) ?_ hb
  rw [it_11]
  exact .one (.self hs) (by rw [e1]; exact .nil _)
 rename_i n3
 rw [if_neg n3]
 split at hq
 ·rename_i hn
  subst hn
  rw [if_pos rfl]
  unfold behindP at hq ⊢
  cases hw : ws[p.at']? with
  | none =>
   rw [hw] at hq
   exact absurd hq (failp_bad (by decide))
  | some w =>
   rw [hw] at hq
   dsimp only at hq ⊢
   cases w with
   | nil =>
    rw [if_pos rfl] at hq
    exact absurd hq (failp_bad (by decide))
   | cons c w =>
    rw [if_neg (by simp)]
    dsimp only
    have hc := c.toNat_lt
    refine part_leaf hp (.inl rfl) (in64_s _ (by omega)) (Nat.le_succ _) ?_ hb
    rw [it_1]
    exact .two (.char hs (by rw [e1]; exact hw)) (by rw [show p.at' - 1 + 2 = p.at' + 1 by omega]; exact .nil _)
 rename_i n4
 rw [if_neg n4]
 split at hq
 ·rename_i hn
  subst hn
  rw [if_pos rfl]
  dsimp only at hq ⊢
  by_cases hf : (findD D0 (behindP ws p).1).2.2 = true
  ·rw [if_pos hf] at hq ⊢
   unfold behindP at hq hf ⊢
   cases hw : ws[p.at']? with
   | none =>
    rw [hw] at hq
    exact absurd hq (failp_bad (by decide))
   | some w =>
    rw [hw] at hq hf
    dsimp only at hq hf ⊢
    by_cases hwn : w = []
    ·rw [if_pos hwn] at hq
     exact absurd hq (failp_bad (by decide))
    ·rw [if_neg hwn] at hf ⊢
     dsimp only at hf ⊢
     have hwd := wd_at (find_in hf)
     refine part_leaf hp (.inl rfl) (in64_s _ (by have := hwd.lo; have := hwd.hi; omega)) (Nat.le_succ _) ?_ hb
     rw [it_1]
     exact .two (.tick hs (by rw [e1]; exact hw) hwn hf) (by rw [show p.at' - 1 + 2 = p.at' + 1 by omega]; exact .nil _)
  ·rw [if_neg hf] at hq
   exact absurd hq (failp_bad (by decide))
 rename_i n5
 rw [if_neg n5]
 split at hq
 ·rename_i hn
  rw [if_pos hn]
  split at hq
  ·exact absurd hq (failp_bad (by decide))
  rename_i ho
  rw [if_neg ho]
  have ho2 : op < 16 := by omega
  have em := op_nat h0 ho2
  unfold brP at hq ⊢
  have sp0 : Toks ws (p.at' - 1) [] (p.at' - 1) := .nil _
  by_cases hIF : name = nIF
  ·subst hIF
   rw [if_pos rfl] at hq ⊢
   unfold ifP at hq ⊢
   have hg := hR.go [nELSE, nTHEN] (op + 1) loops p (by omega) (by omega) h2 hb
   by_cases he : (R [nELSE, nTHEN] (op + 1) loops p).1.2 = nELSE
   ·rw [if_pos he] at hq ⊢
    dsimp only at hq ⊢
    have hb1 : (R [nELSE, nTHEN] (op + 1) loops p).2.bad = 0 := Classical.byContradiction (fun hc => hR.bd _ _ _ _ hc hq)
    obtain ⟨t, i, e2, ro, hcase⟩ := (hg hb1).ex
    have hi : i + 1 = (R [nELSE, nTHEN] (op + 1) loops p).2.at' ∧ SpAt ws i nELSE := by
     rcases hcase with ⟨h, _⟩ | ⟨_, _, h, g⟩
     ·rw [he] at h; exact absurd h (by decide)
     ·rw [he] at g; exact ⟨h.symm, g⟩
    have hg2 := hR.go [nTHEN] (op + 1) loops (R [nELSE, nTHEN] (op + 1) loops p).2 (by omega) (by omega) h2 hb1 hq
    generalize R [nELSE, nTHEN] (op + 1) loops p = r1 at *
    obtain ⟨t2, i2, e3, ro2, hcase2⟩ := hg2.ex
    generalize R [nTHEN] (op + 1) loops r1.2 = r2 at *
    have hi2 : i2 + 1 = r2.2.at' ∧ SpAt ws i2 nTHEN := by
     rcases hcase2 with ⟨_, h, _⟩ | ⟨_, h, h3, g⟩
     ·exact absurd h (by decide)
     ·rw [List.mem_singleton] at h; rw [h] at g; exact ⟨h3.symm, g⟩
    rw [List.nil_append] at e2 e3
    rw [e2, e3]
    have c1 := ro.cnt
    have c2 := ro2.cnt
    refine ⟨?_, by rw [cntN_mk]; omega, ?_, by rw [rgN]; exact ⟨⟨by decide, by decide⟩, ro.rg, ro2.rg⟩, hq⟩
    ·rw [em]
     exact may_node (by decide) rfl ro.may ro2.may
    ·rw [it_31]
     refine .one (.br (nm := nIF) hs rfl (by decide)) ?_
     rw [e1]
     refine ro.tok.app (.one (.br (nm := nELSE) hi.2 rfl (by decide)) ?_)
     rw [hi.1]
     refine ro2.tok.app (.one (.br (nm := nTHEN) hi2.2 rfl (by decide)) ?_)
     rw [hi2.1]
     exact .nil _
   ·rw [if_neg he] at hq ⊢
    dsimp only at hq ⊢
    obtain ⟨t, i, e2, ro, hcase⟩ := (hg hq).ex
    generalize R [nELSE, nTHEN] (op + 1) loops p = r1 at *
    have hi : i + 1 = r1.2.at' ∧ SpAt ws i nTHEN := by
     rcases hcase with ⟨_, h, _⟩ | ⟨_, h, h3, g⟩
     ·exact absurd h (by decide)
     ·simp only [List.mem_cons, List.not_mem_nil, or_false] at h
      rcases h with h | h
      ·exact absurd h he
      ·rw [h] at g; exact ⟨h3.symm, g⟩
    rw [List.nil_append] at e2
    rw [e2]
    have c1 := ro.cnt
    refine ⟨?_, by rw [cntN_mk, Gen.cntL_nil]; omega, ?_, by rw [rgN, rgL]; exact ⟨z64, ro.rg, trivial⟩, hq⟩
    ·rw [em]
     exact may_node (by decide) rfl ro.may (fun x hx => by cases hx)
    ·rw [it_30]
     refine .one (.br (nm := nIF) hs rfl (by decide)) ?_
     rw [e1]
     refine ro.tok.app (.one (.br (nm := nTHEN) hi.2 rfl (by decide)) ?_)
     rw [hi.1]
     exact .nil _
  rw [if_neg hIF] at hq ⊢
  by_cases hBE : name = nBEGIN
  ·subst hBE
   rw [if_pos rfl] at hq ⊢
   unfold beginP at hq ⊢
   have hg := hR.go [nUNTIL, nAGAIN, nWHILE] (op + 1) loops p (by omega) (by omega) h2 hb
   by_cases he : (R [nUNTIL, nAGAIN, nWHILE] (op + 1) loops p).1.2 = nUNTIL
   ·rw [if_pos he] at hq ⊢
    dsimp only at hq ⊢
    obtain ⟨t, i, e2, ro, hcase⟩ := (hg hq).ex
    generalize R [nUNTIL, nAGAIN, nWHILE] (op + 1) loops p = r1 at *
    have hi : i + 1 = r1.2.at' ∧ SpAt ws i nUNTIL := by
     rcases hcase with ⟨h, _⟩ | ⟨_, _, h, g⟩
     ·rw [he] at h; exact absurd h (by decide)
     ·rw [he] at g; exact ⟨h.symm, g⟩
    rw [List.nil_append] at e2
    rw [e2]
    have c1 := ro.cnt
    refine ⟨?_, by rw [cntN_mk, Gen.cntL_nil]; omega, ?_, by rw [rgN, rgL]; exact ⟨z64, ro.rg, trivial⟩, hq⟩
    ·rw [em]
     exact may_node (by decide) rfl ro.may (fun x hx => by cases hx)
    ·rw [it_4]
     refine .one (.br (nm := nBEGIN) hs rfl (by decide)) ?_
     rw [e1]
     refine ro.tok.app (.one (.br (nm := nUNTIL) hi.2 rfl (by decide)) ?_)
     rw [hi.1]
     exact .nil _
   rw [if_neg he] at hq ⊢
   by_cases he2 : (R [nUNTIL, nAGAIN, nWHILE] (op + 1) loops p).1.2 = nAGAIN
   ·rw [if_pos he2] at hq ⊢
    dsimp only at hq ⊢
    obtain ⟨t, i, e2, ro, hcase⟩ := (hg hq).ex
    generalize R [nUNTIL, nAGAIN, nWHILE] (op + 1) loops p = r1 at *
    have hi : i + 1 = r1.2.at' ∧ SpAt ws i nAGAIN := by
     rcases hcase with ⟨h, _⟩ | ⟨_, _, h, g⟩
     ·rw [he2] at h; exact absurd h (by decide)
     ·rw [he2] at g; exact ⟨h.symm, g⟩
    rw [List.nil_append] at e2
    rw [e2]
    have c1 := ro.cnt
    refine ⟨?_, by rw [cntN_mk, Gen.cntL_nil]; omega, ?_, by rw [rgN, rgL]; exact ⟨z64, ro.rg, trivial⟩, hq⟩
    ·rw [em]
     exact may_node (by decide) rfl ro.may (fun x hx => by cases hx)
    ·rw [it_5]
     refine .one (.br (nm := nBEGIN) hs rfl (by decide)) ?_
     rw [e1]
     refine ro.tok.app (.one (.br (nm := nAGAIN) hi.2 rfl (by decide)) ?_)
     rw [hi.1]
     exact .nil _
   rw [if_neg he2] at hq ⊢
   dsimp only at hq ⊢
   have hb1 : (R [nUNTIL, nAGAIN, nWHILE] (op + 1) loops p).2.bad = 0 := Classical.byContradiction (fun hc => hR.bd _ _ _ _ hc hq)
   obtain ⟨t, i, e2, ro, hcase⟩ := (hg hb1).ex
   have hg2 := hR.go [nREPEAT] (op + 1) loops (R [nUNTIL, nAGAIN, nWHILE] (op + 1) loops p).2 (by omega) (by omega) h2 hb1 hq
   generalize R [nUNTIL, nAGAIN, nWHILE] (op + 1) loops p = r1 at *
   have hi : i + 1 = r1.2.at' ∧ SpAt ws i nWHILE := by
    rcases hcase with ⟨_, h, _⟩ | ⟨_, h, h3, g⟩
    ·exact absurd h (by decide)
    ·simp only [List.mem_cons, List.not_mem_nil, or_false] at h
     rcases h with h | h | h
     ·exact absurd h he
     ·exact absurd h he2
     ·rw [h] at g; exact ⟨h3.symm, g⟩
   obtain ⟨t2, i2, e3, ro2, hcase2⟩ := hg2.ex
   generalize R [nREPEAT] (op + 1) loops r1.2 = r2 at *
   have hi2 : i2 + 1 = r2.2.at' ∧ SpAt ws i2 nREPEAT := by
    rcases hcase2 with ⟨_, h, _⟩ | ⟨_, h, h3, g⟩
    ·exact absurd h (by decide)
    ·rw [List.mem_singleton] at h; rw [h] at g; exact ⟨h3.symm, g⟩
   rw [List.nil_append] at e2 e3
   rw [e2, e3]
   have c1 := ro.cnt
   have c2 := ro2.cnt
   refine ⟨?_, by rw [cntN_mk]; omega, ?_, by rw [rgN]; exact ⟨z64, ro.rg, ro2.rg⟩, hq⟩
   ·rw [em]
    exact may_node (by decide) rfl ro.may ro2.may
   ·rw [it_6]
    refine .one (.br (nm := nBEGIN) hs rfl (by decide)) ?_
    rw [e1]
    refine ro.tok.app (.one (.br (nm := nWHILE) hi.2 rfl (by decide)) ?_)
    rw [hi.1]
    refine ro2.tok.app (.one (.br (nm := nREPEAT) hi2.2 rfl (by decide)) ?_)
    rw [hi2.1]
    exact .nil _
  rw [if_neg hBE] at hq ⊢
  unfold doP at hq ⊢
  dsimp only at hq ⊢
  have hg := hR.go [nLOOP, nPLOOP] (op + 1) (loops + 1) p (by omega) (by omega) (by omega) hb hq
  obtain ⟨t, i, e2, ro, hcase⟩ := hg.ex
  generalize R [nLOOP, nPLOOP] (op + 1) (loops + 1) p = r1 at *
  have hi : i + 1 = r1.2.at' ∧ (r1.1.2 = nLOOP ∨ r1.1.2 = nPLOOP) ∧ SpAt ws i r1.1.2 := by
   rcases hcase with ⟨_, h, _⟩ | ⟨_, h, h3, g⟩
   ·exact absurd h (by decide)
   ·simp only [List.mem_cons, List.not_mem_nil, or_false] at h
    exact ⟨h3.symm, h, g⟩
  have hd : ∃ b nv, (if name = nQDO then (1 : Int) else 0) = nv ∧ (nv = 0 ∨ nv = 1) ∧ (if nv = 1 then 9 else 8 : Nat) = b ∧ nmC[b]? = some name ∧ b < 13 := by
   by_cases hq2 : name = nQDO
   ·exact ⟨9, 1, if_pos hq2, .inr rfl, rfl, by rw [hq2]; rfl, by decide⟩
   ·have hdo : name = nDOW := by
     rcases hn with h | h | h | h
     ·exact absurd h hIF
     ·exact absurd h hBE
     ·exact h
     ·exact absurd h hq2
    exact ⟨8, 0, if_neg hq2, .inl rfl, rfl, by rw [hdo]; rfl, by decide⟩
  obtain ⟨b, nv, d1, d2, d3, d4, d5⟩ := hd
  rw [d1]
  rw [List.nil_append] at e2
  rw [e2]
  have c1 := ro.cnt
  rcases hi.2.1 with hk | hk
  ·rw [if_neg (by rw [hk]; decide)]
   have hi2 := hi.2.2
   rw [hk] at hi2
   refine ⟨?_, by rw [cntN_mk, Gen.cntL_nil]; omega, ?_, by rw [rgN, rgL]; exact ⟨in64_s _ (by omega), ro.rg, trivial⟩, hq⟩
   ·rw [em]
    exact may_node (k := 7) (by decide) (by rcases d2 with rfl | rfl <;> rfl) ro.may (fun x hx => by cases hx)
   ·rw [it_7, d3]
    refine .one (.br hs d4 d5) ?_
    rw [e1]
    refine ro.tok.app (.one (.br (nm := nLOOP) hi2 rfl (by decide)) ?_)
    rw [hi.1]
    exact .nil _
  ·rw [if_pos hk]
   have hi2 := hi.2.2
   rw [hk] at hi2
   refine ⟨?_, by rw [cntN_mk, Gen.cntL_nil]; omega, ?_, by rw [rgN, rgL]; exact ⟨in64_s _ (by omega), ro.rg, trivial⟩, hq⟩
   ·rw [em]
    exact may_node (k := 8) (by decide) (by rcases d2 with rfl | rfl <;> rfl) ro.may (fun x hx => by cases hx)
   ·rw [it_8, d3]
    refine .one (.br hs d4 d5) ?_
    rw [e1]
    refine ro.tok.app (.one (.br (nm := nPLOOP) hi2 rfl (by decide)) ?_)
    rw [hi.1]
    exact .nil _
 rename_i n6
 split at hq
 ·exact absurd hq (failp_bad (by decide))
 ·exact absurd hq (failp_bad (by decide))
theorem SpAt.lt {ws : List Bs} {i : Nat} {nm : Bs} (h : SpAt ws i nm) : i < ws.length := by
 obtain ⟨w, h, _⟩ := h
 exact (List.getElem?_eq_some_iff.1 h).1
theorem Tok1.lt {ws : List Bs} {i : Nat} {it : Itm} (h : Tok1 ws i it) : i < ws.length := by
 cases h with
 | num h _ _ => exact (List.getElem?_eq_some_iff.1 h).1
 | prim h _ _ _ => exact (List.getElem?_eq_some_iff.1 h).1
 | exit h => exact h.lt
 | self h => exact h.lt
 | br h _ _ => exact h.lt
theorem Tok2.lt {ws : List Bs} {i : Nat} {it : Itm} (h : Tok2 ws i it) : i + 1 < ws.length := by
 cases h with
 | char _ h => exact (List.getElem?_eq_some_iff.1 h).1
 | tick _ h _ _ => exact (List.getElem?_eq_some_iff.1 h).1
theorem Toks.hi {ws : List Bs} {i j : Nat} {a : List Itm} (h : Toks ws i a j) : i ≤ ws.length → j ≤ ws.length := by
 induction h with
 | nil i => exact fun h => h
 | one h1 h2 ih => exact fun _ => ih (by have := h1.lt; omega)
 | two h1 h2 ih => exact fun _ => ih (by have := h1.lt; omega)
theorem wordP_ok {ws : List Bs} {i : Nat} {w : Bs} {loops : Int} {p : Ps} (hw : ws[i]? = some w) (hb : p.bad = 0) (hq : (wordP w loops p).2.bad = 0) :
  (wordP w loops p).2 = p ∧ (((wordP w loops p).1.2 = [] ∧ (∀ m, mayM m (wordP w loops p).1.1 loops = true) ∧ cntN (wordP w loops p).1.1 = 1 ∧ rgN (wordP w loops p).1.1 ∧ ∃ it, itN 1368 (wordP w loops p).1.1 = [it] ∧ Tok1 ws i it) ∨ ((wordP w loops p).1.2 ≠ [] ∧ SpAt ws i (wordP w loops p).1.2)) := by
 unfold wordP at hq ⊢
 by_cases hf : (findD D0 w).2.2 = true
 ·have hwd := wd_at (find_in hf)
  rw [if_pos hf] at hq ⊢
  by_cases hk : 300 ≤ kdW (findD D0 w).1
  ·rw [if_pos hk]
   refine ⟨rfl, .inr ⟨?_, w, hw, hf, hk, rfl⟩⟩
   rcases hwd.kd with h | h
   ·omega
   ·exact h.2.1
  ·rw [if_neg hk] at hq ⊢
   dsimp only at hq ⊢
   by_cases ho : oddF (findD D0 w).1 loops
   ·rw [if_pos ho] at hq
    exact absurd hq (failp_bad (by decide))
   ·rw [if_neg ho]
    refine ⟨rfl, .inl ⟨rfl, fun m => may_leaf m 2 _ loops (.inr (.inl rfl)), by rw [cntN_mk, Gen.cntL_nil], ?_, _, it_2 _ _ _ _, .prim hw hf (by omega) (fun e => ho (.inl e))⟩⟩
    rw [rgN, rgL]
    exact ⟨in64_s _ (by have := hwd.lo; have := hwd.hi; omega), trivial, trivial⟩
 ·rw [if_neg hf] at hq ⊢
  dsimp only at hq ⊢
  by_cases hn : (numD w).2 = true
  ·rw [if_pos hn]
   refine ⟨rfl, .inl ⟨rfl, fun m => may_leaf m 1 _ loops (.inl rfl), by rw [cntN_mk, Gen.cntL_nil], ?_, _, it_1 _ _ _ _, .num hw (by simpa using hf) hn⟩⟩
   rw [rgN, rgL]
   exact ⟨numD_in w, trivial, trivial⟩
  ·rw [if_neg hn] at hq
   exact absurd hq (failp_bad (by decide))
theorem rowP_bd (ws : List Bs) : ∀ (n : Nat) (ends : List Bs) (op loops : Int) (p : Ps) (acc : List Nod), p.bad ≠ 0 → (rowP ws n ends op loops p acc).2.bad ≠ 0
 | 0, _, _, _, p, _, h => by rw [rowP]; exact show (1 : Int) ≠ 0 by decide
 | n + 1, _, _, _, p, _, h => by rw [rowP, if_pos h]; exact h
theorem row_ok (ws : List Bs) : ∀ (n : Nat) (ends : List Bs) (op loops : Int) (p : Ps) (acc : List Nod), 0 ≤ op → op ≤ 16 → 0 ≤ loops → p.bad = 0 → (rowP ws n ends op loops p acc).2.bad = 0 → RowE ws ends p op loops acc (rowP ws n ends op loops p acc)
 | 0, ends, op, loops, p, acc, h0, h1, h2, hb, hq => by rw [rowP] at hq; exact absurd hq (show (1 : Int) ≠ 0 by decide)
 | n + 1, ends, op, loops, p, acc, h0, h1, h2, hb, hq => by
  have hR : RowG ws (fun e o l q => rowP ws n e o l q []) := ⟨fun e o l q a b c d f => row_ok ws n e o l q [] a b c d f, fun e o l q h => rowP_bd ws n e o l q [] h⟩
  have hM : MonoR (fun e o l q => rowP ws n e o l q []) := fun e o l q => rowP_at ws n e o l q []
  rw [rowP, if_neg (fun e => e hb)] at hq ⊢
  cases hw : ws[p.at']? with
  | none =>
   rw [hw] at hq
   dsimp only at hq ⊢
   by_cases he : [] ∈ ends
   ·rw [if_pos he]
    exact ⟨[], p.at', (List.append_nil _).symm, ⟨fun x hx => (by cases hx), by rw [Gen.cntL_nil]; omega, by rw [itL]; exact .nil _, by rw [rgL]; trivial⟩, .inl ⟨rfl, he, rfl, hw⟩⟩
   ·rw [if_neg he] at hq
    exact absurd hq (failp_bad (by decide))
  | some w =>
   rw [hw] at hq
   dsimp only at hq ⊢
   by_cases hwb : (wordP w loops ⟨p.at' + 1, p.bad⟩).2.bad = 0
   case neg =>
    rw [if_pos hwb] at hq
    exact absurd hq hwb
   rw [if_neg (fun e => e hwb)] at hq ⊢
   obtain ⟨hp1, hcs⟩ := wordP_ok (ws := ws) (i := p.at') (loops := loops) (p := ⟨p.at' + 1, p.bad⟩) hw hb hwb
   rw [hp1] at hq ⊢
   rcases hcs with ⟨hn, hmay, hcn, hrg, it, hit, htk⟩ | ⟨hn, hsp⟩
   ·rw [if_pos hn] at hq ⊢
    generalize (wordP w loops ⟨p.at' + 1, p.bad⟩).1.1 = x at *
    obtain ⟨t, i, e2, ro, hc⟩ := (row_ok ws n ends op loops ⟨p.at' + 1, p.bad⟩ (acc ++ [x]) h0 h1 h2 hb hq).ex
    refine ⟨x :: t, i, by rw [e2, List.append_assoc]; rfl, ⟨fun y hy => ?_, ?_, ?_, ?_⟩, hc⟩
    ·rcases List.mem_cons.1 hy with rfl | hy
     ·exact hmay _
     ·exact ro.may y hy
    ·have := ro.cnt
     rw [cntL]
     dsimp only at this
     omega
    ·rw [itL, hit]
     exact .one htk ro.tok
    ·rw [rgL]
     exact ⟨hrg, ro.rg⟩
   ·rw [if_neg hn] at hq ⊢
    generalize (wordP w loops ⟨p.at' + 1, p.bad⟩).1.2 = nm at *
    by_cases he : nm ∈ ends
    ·rw [if_pos he]
     exact ⟨[], p.at', (List.append_nil _).symm, ⟨fun x hx => (by cases hx), by rw [Gen.cntL_nil]; omega, by rw [itL]; exact .nil _, by rw [rgL]; trivial⟩, .inr ⟨hn, he, rfl, hsp⟩⟩
    ·rw [if_neg he] at hq ⊢
     have hpb : (partP ws (fun e o l q => rowP ws n e o l q []) nm op loops ⟨p.at' + 1, p.bad⟩).2.bad = 0 := Classical.byContradiction (fun hc => rowP_bd ws n _ _ _ _ _ hc hq)
     have hpo := part_ok (ws := ws) (name := nm) (p := ⟨p.at' + 1, p.bad⟩) hR hM h0 h1 h2 (Nat.succ_le_succ (Nat.zero_le _)) hb hsp hpb
     generalize partP ws (fun e o l q => rowP ws n e o l q []) nm op loops ⟨p.at' + 1, p.bad⟩ = y at *
     obtain ⟨x, q⟩ := y
     dsimp only at hq hpo ⊢
     obtain ⟨t, i, e2, ro, hc⟩ := (row_ok ws n ends op loops q (acc ++ [x]) h0 h1 h2 hpo.ok hq).ex
     refine ⟨x :: t, i, by rw [e2, List.append_assoc]; rfl, ⟨fun y hy => ?_, ?_, ?_, ?_⟩, hc⟩
     ·rcases List.mem_cons.1 hy with rfl | hy
      ·exact hpo.may
      ·exact ro.may y hy
     ·have h3 := ro.cnt
      have h4 := hpo.cnt
      rw [cntL]
      dsimp only at h4
      omega
     ·rw [itL]
      exact hpo.tok.app ro.tok
     ·rw [rgL]
      exact ⟨hpo.rg, ro.rg⟩
theorem parse_ok {ws : List Bs} (h : (parseP ws).2 = 0) : (∀ x, x ∈ (parseP ws).1 → mayM 16 x 0 = true) ∧ cntL (parseP ws).1 ≤ ws.length ∧ rgL (parseP ws).1 ∧ Toks ws 0 (itL 1368 (parseP ws).1) ws.length := by
 unfold parseP at h ⊢
 by_cases hb : (rowP ws (ws.length + 1) [[]] 0 0 ⟨0, 0⟩ []).2.bad = 0
 case neg =>
  rw [if_pos hb] at h
  exact absurd h hb
 rw [if_neg (fun e => e hb)]
 obtain ⟨t, i, e2, ro, hc⟩ := (row_ok ws (ws.length + 1) [[]] 0 0 ⟨0, 0⟩ [] (by decide) (by decide) (by decide) rfl hb).ex
 rcases hc with ⟨h1, h2, h3, h4⟩ | ⟨h1, h2, _⟩
 ·have hle : ws.length ≤ i := List.getElem?_eq_none_iff.1 h4
  have hge : i ≤ ws.length := ro.tok.hi (Nat.zero_le _)
  obtain rfl : i = ws.length := by omega
  dsimp only
  rw [e2, List.nil_append]
  have := ro.cnt
  exact ⟨ro.may, by dsimp only at this; omega, ro.rg, ro.tok⟩
 ·rw [List.mem_singleton] at h2
  exact absurd h2 h1
end Go.Proofs.YtfphgelollhdhaaGreat
namespace Go.Proofs.YtfphgelollhdhaaGreat
open Go Go.RowKit
open Go.Proofs.YtfphgelollhdhaaGreat.Dict (St Bs bs_eq st_app st_size Wd findD)
open Go.Proofs.YtfphgelollhdhaaGreat.Mem (Mm encM encBs closed_bs encP encP_closed closed_m storeD fetchD)
open Gen (wr wr_in wr_eq wr_range)
set_option maxRecDepth 100000
def tokD : Bs → Bs → Nat → Bs × Nat
 | [], acc, pos => (acc, pos)
 | c :: r, acc, pos => if 32 < c.toNat then tokD r (acc ++ [c]) (pos + 1) else if acc = [] then tokD r acc (pos + 1) else (acc, pos + 1)
theorem drop_at {s : Bs} {i : Nat} {c : UInt8} (h : s[i]? = some c) : s.drop i = c :: s.drop (i + 1) := by
 rw [List.drop_eq_getElem_cons (List.getElem?_eq_some_iff.1 h).1, (List.getElem?_eq_some_iff.1 h).2]
theorem ext1 {s : Bs} {i : Nat} {c : UInt8} (h : s[i]? = some c) : (ByteArray.mk s.toArray).extract i (i + 1) = ByteArray.mk [c].toArray := by
 have hi := (List.getElem?_eq_some_iff.1 h).1
 apply ByteArray.ext
 apply Array.ext'
 rw [ByteArray.data_extract]
 simp only [List.extract_toArray, List.toList_toArray]
 rw [List.extract_eq_take_drop, show i + 1 - i = 1 by omega, drop_at h]
 rfl
attribute [local irreducible] Decidable.decide awp ARun regK toK
theorem start8_c (s : Bs) (at' : Nat) (hl : s.length ≤ 1000000) (ha : at' ≤ s.length) : FnC Tryz.prog 56 [St s, .val (.int .i64 (at' : Nat))] (.val (.int .i64 (at' : Nat))) := by
 have hz : (ByteArray.mk s.toArray).size = s.length := rfl
 have d1 : decide (((at' : Nat) : Int) < 0) = false := decide_eq_false (by omega)
 have d2 : decide ((((ByteArray.mk s.toArray).size : Nat) : Int) < ((at' : Nat) : Int)) = false := decide_eq_false (by omega)
 refine goF Tryz.func56 (closedL_cons (.val _) (closedL_cons (.val _) closedL_nil)) (fun w0 st0 => ?_)
 dsimp only [frOf]
 (repeat' (first | refine goA ?_ | refine goB ?_ | fail))
 exact awp_ret ⟨_, ResL.cons (ResA.tmp (.val _)) .nil, rfl⟩
set_option maxHeartbeats 4000000 in
theorem word8_c (s : Bs) (at' : Nat) (hl : s.length ≤ 1000000) (ha : at' ≤ s.length) : FnC Tryz.prog 33 [St s, .val (.int .i64 (at' : Nat))] (.tup [St (tokD (s.drop at') [] at').1, .val (.int .i64 ((tokD (s.drop at') [] at').2 : Nat))]) := by
 have hz : (ByteArray.mk s.toArray).size = s.length := rfl
 have c1 := start8_c s at' hl ha
 generalize hR : tokD (s.drop at') [] at' = R
 refine goF Tryz.func33 (closedL_cons (.val _) (closedL_cons (.val _) closedL_nil)) (fun w0 st0 => ?_)
 dsimp only [frOf]
 (repeat' (first | refine goA ?_ | refine cX c1 ?_ | refine goB ?_ | fail))
 refine awp_loopT (T := Nat × Bs × Nat) (fun t => ⟨[(7, .val (.int .i64 (t.1 : Nat))), (6, St t.2.1), (0, St s)], [], t.2.2⟩) (fun t => t.1 ≤ s.length ∧ t.2.1.length ≤ t.1 ∧ tokD (s.drop t.1) t.2.1 t.1 = R) (fun t => s.length - t.1) (at', [], _) ⟨ha, Nat.zero_le _, hR⟩ ⟨⟨rfl, rfl, rfl, trivial⟩, trivial, Nat.le_refl _⟩ (fun t ht => ?_)
 obtain ⟨i, acc, gc⟩ := t
 obtain ⟨hi, hal, hA⟩ := ht
 dsimp only at hi hal hA ⊢
 by_cases hlt : i < s.length
 ·have hc : decide (((i : Nat) : Int) < ((ByteArray.mk s.toArray).size : Nat)) = true := decide_eq_true (by omega)
  have h1 : s[i]? = some s[i] := List.getElem?_eq_getElem hlt
  generalize s[i] = ch at h1
  have hs : (ByteArray.mk s.toArray).data[((i : Nat) : Int).toNat]? = some ch := by rw [Int.toNat_natCast]; simpa using h1
  have hc8 := ch.toNat_lt
  have hz3 : (ByteArray.mk [ch].toArray).size = 1 := rfl
  have hz4 : (ByteArray.mk acc.toArray).size = acc.length := rfl
  rw [drop_at h1, tokD] at hA
  by_cases h32 : 32 < ch.toNat
  ·have d1 : decide ((32 : Int) < (ch.toNat : Nat)) = true := decide_eq_true (by omega)
   rw [if_pos h32] at hA
   have hx : (ByteArray.mk s.toArray).extract (((i : Nat) : Int) + 1 - 1).toNat (((i : Nat) : Int) + 1).toNat = ByteArray.mk [ch].toArray := by
    rw [show (((i : Nat) : Int) + 1 - 1).toNat = i by omega, show (((i : Nat) : Int) + 1).toNat = i + 1 by omega]
    exact ext1 h1
   have hap := st_app acc [ch]
   (repeat' (first | refine goA ?_ | refine ARun.index_str rfl rfl (by omega) hs rfl rfl rfl (guardF_spec rfl) ?_ | refine ARun.sliceStr rfl (Bnd.som _ rfl (by omega)) (Bnd.som _ rfl (by omega)) (by omega) (by omega) rfl rfl rfl (guardF_spec rfl) ?_ | refine ARun.bin rfl rfl (bin_cat (by rw [hx, hz3, hz4]; omega)) rfl (guardF_spec rfl) ?_ | refine goB ?_ | fail))
   exact ⟨(i + 1, acc ++ [ch], _), ⟨⟨succI i, congrArg (fun z => AV.val (Value.string z)) ((congrArg (fun z => ByteArray.mk acc.toArray ++ z) hx).trans hap), rfl, trivial⟩, trivial, Nat.le_refl _⟩, ⟨hlt, by dsimp only; rw [List.length_append, List.length_singleton]; omega, hA⟩, (by dsimp only; omega)⟩
  ·have d1 : decide ((32 : Int) < (ch.toNat : Nat)) = false := decide_eq_false (by omega)
   rw [if_neg h32] at hA
   by_cases he : acc = []
   ·subst he
    rw [if_pos rfl] at hA
    have d2 : ((ByteArray.mk ([] : Bs).toArray).toList != (ByteArray.mk #[]).toList) = false := by rw [bne, bs_eq [] []]; exact congrArg (! ·) (decide_eq_true rfl)
    (repeat' (first | refine goA ?_ | refine ARun.index_str rfl rfl (by omega) hs rfl rfl rfl (guardF_spec rfl) ?_ | refine goB ?_ | fail))
    exact ⟨(i + 1, [], _), ⟨⟨succI i, rfl, rfl, trivial⟩, trivial, Nat.le_refl _⟩, ⟨hlt, Nat.zero_le _, hA⟩, (by dsimp only; omega)⟩
   ·rw [if_neg he] at hA
    have d2 : ((ByteArray.mk acc.toArray).toList != (ByteArray.mk #[]).toList) = true := by rw [bne, bs_eq acc []]; exact congrArg (! ·) (decide_eq_false he)
    (repeat' (first | refine goA ?_ | refine ARun.index_str rfl rfl (by omega) hs rfl rfl rfl (guardF_spec rfl) ?_ | refine goB ?_ | fail))
    rw [← hA]
    exact awp_ret ⟨_, ResL.cons (ResA.tmp (.val _)) (ResL.cons (ResA.tmp (.val _)) .nil), by rw [show (((i : Nat) : Int) + 1) = ((i + 1 : Nat) : Int) by omega]; rfl⟩
 ·have hii : i = s.length := by omega
  subst hii
  have hc : decide (((s.length : Nat) : Int) < ((ByteArray.mk s.toArray).size : Nat)) = false := decide_eq_false (by omega)
  rw [List.drop_length, tokD] at hA
  (repeat' (first | refine goA ?_ | refine goB ?_ | fail))
  rw [← hA]
  exact awp_ret ⟨_, ResL.cons (ResA.tmp (.val _)) (ResL.cons (ResA.tmp (.val _)) .nil), rfl⟩
end Go.Proofs.YtfphgelollhdhaaGreat
namespace Go.Proofs.YtfphgelollhdhaaGreat
open Go Go.RowKit
open Go.Proofs.YtfphgelollhdhaaGreat.Dict (St Bs bs_eq st_app st_size Wd findD)
open Go.Proofs.YtfphgelollhdhaaGreat.Mem (Mm encM encBs closed_bs encP encP_closed closed_m storeD fetchD)
open Gen (wr wr_in wr_eq wr_range)
set_option maxRecDepth 100000
theorem awp_cut2 {C : ACtx} {s : AS} {Q Q2 Q3 : Exit → AS → Prop} {c1 c2 c3 : Code} {T : Type} (S : T → AS) (I : T → Prop) (h1 : awp C c1 s (thenA (fun s1 => awp C c2 s1 (thenA (fun s' => ∃ t, (FrLe s'.fr (S t).fr ∧ HpLe s'.hp (S t).hp ∧ s'.gc ≤ (S t).gc) ∧ I t) Q2)) Q3))
  (h2 : ∀ t, I t → awp C c3 (S t) Q) : awp C c1 s (thenA (fun s1 => awp C c2 s1 (thenA (fun s' => awp C c3 s' Q) Q2)) Q3) :=
 awp_mono h1 (fun e s' h => by
  cases e <;> first
   | exact awp_cut S I h h2
   | exact h)
attribute [local irreducible] Decidable.decide awp ARun regK toK
theorem worth_0 (c : UInt8) (base : Int) (h : c.toNat < 48) : FnC Tryz.prog 72 [.val (.int .u8 (c.toNat : Nat)), .val (.int .i64 base)] (.tup [.val (.int .i64 (worthD c base).1), .val (.bool (worthD c base).2)]) := by
 have hc8 := c.toNat_lt
 have hN : worthN c = 99 := (if_neg (by omega)).trans ((if_neg (by omega)).trans (if_neg (by omega)))
 unfold worthD
 rw [hN]
 have f0 : decide ((48 : Int) ≤ ((c.toNat : Nat) : Int)) = false := decide_eq_false (by omega)
 have f1 : decide (((c.toNat : Nat) : Int) ≤ 57) = true := decide_eq_true (by omega)
 have f2 : decide ((65 : Int) ≤ ((c.toNat : Nat) : Int)) = false := decide_eq_false (by omega)
 have f3 : decide (((c.toNat : Nat) : Int) ≤ 90) = true := decide_eq_true (by omega)
 have f4 : decide ((97 : Int) ≤ ((c.toNat : Nat) : Int)) = false := decide_eq_false (by omega)
 have f5 : decide (((c.toNat : Nat) : Int) ≤ 122) = true := decide_eq_true (by omega)
 by_cases b1 : base < 2
 ·have e1 : decide (base < 2) = true := decide_eq_true b1
  rw [if_pos (.inl b1)]
  refine goF Tryz.func72 (closedL_cons (.val _) (closedL_cons (.val _) closedL_nil)) (fun w0 st0 => ?_)
  dsimp only [frOf]
  (repeat' (first | refine goA ?_ | refine goB ?_ | fail))
  exact awp_ret ⟨_, ResL.cons (ResA.tmp (.val _)) (ResL.cons (ResA.tmp (.val _)) .nil), rfl⟩
 have e1 : decide (base < 2) = false := decide_eq_false b1
 by_cases b2 : 36 < base
 ·have e2 : decide (36 < base) = true := decide_eq_true b2
  rw [if_pos (.inr (.inl b2))]
  refine goF Tryz.func72 (closedL_cons (.val _) (closedL_cons (.val _) closedL_nil)) (fun w0 st0 => ?_)
  dsimp only [frOf]
  (repeat' (first | refine goA ?_ | refine goB ?_ | fail))
  exact awp_ret ⟨_, ResL.cons (ResA.tmp (.val _)) (ResL.cons (ResA.tmp (.val _)) .nil), rfl⟩
 have e2 : decide (36 < base) = false := decide_eq_false b2
 by_cases b3 : base ≤ 99
 ·have e3 : decide (base ≤ 99) = true := decide_eq_true b3
  rw [if_pos (.inr (.inr b3))]
  refine goF Tryz.func72 (closedL_cons (.val _) (closedL_cons (.val _) closedL_nil)) (fun w0 st0 => ?_)
  dsimp only [frOf]
  (repeat' (first | refine goA ?_ | refine goB ?_ | fail))
  exact awp_ret ⟨_, ResL.cons (ResA.tmp (.val _)) (ResL.cons (ResA.tmp (.val _)) .nil), rfl⟩
 have e3 : decide (base ≤ 99) = false := decide_eq_false b3
 rw [if_neg (by omega)]
 refine goF Tryz.func72 (closedL_cons (.val _) (closedL_cons (.val _) closedL_nil)) (fun w0 st0 => ?_)
 dsimp only [frOf]
 (repeat' (first | refine goA ?_ | refine goB ?_ | fail))
 exact awp_ret ⟨_, ResL.cons (ResA.tmp (.val _)) (ResL.cons (ResA.tmp (.val _)) .nil), rfl⟩
theorem worth_1 (c : UInt8) (base : Int) (h : 48 ≤ c.toNat ∧ c.toNat ≤ 57) : FnC Tryz.prog 72 [.val (.int .u8 (c.toNat : Nat)), .val (.int .i64 base)] (.tup [.val (.int .i64 (worthD c base).1), .val (.bool (worthD c base).2)]) := by
 have hc8 := c.toNat_lt
 have hN : worthN c = ((c.toNat : Nat) : Int) - 48 := (if_neg (by omega)).trans ((if_neg (by omega)).trans (if_pos (by omega)))
 unfold worthD
 rw [hN]
 have f0 : decide ((48 : Int) ≤ ((c.toNat : Nat) : Int)) = true := decide_eq_true (by omega)
 have f1 : decide (((c.toNat : Nat) : Int) ≤ 57) = true := decide_eq_true (by omega)
 have f2 : decide ((65 : Int) ≤ ((c.toNat : Nat) : Int)) = false := decide_eq_false (by omega)
 have f3 : decide (((c.toNat : Nat) : Int) ≤ 90) = true := decide_eq_true (by omega)
 have f4 : decide ((97 : Int) ≤ ((c.toNat : Nat) : Int)) = false := decide_eq_false (by omega)
 have f5 : decide (((c.toNat : Nat) : Int) ≤ 122) = true := decide_eq_true (by omega)
 by_cases b1 : base < 2
 ·have e1 : decide (base < 2) = true := decide_eq_true b1
  rw [if_pos (.inl b1)]
  refine goF Tryz.func72 (closedL_cons (.val _) (closedL_cons (.val _) closedL_nil)) (fun w0 st0 => ?_)
  dsimp only [frOf]
  (repeat' (first | refine goA ?_ | refine goB ?_ | fail))
  exact awp_ret ⟨_, ResL.cons (ResA.tmp (.val _)) (ResL.cons (ResA.tmp (.val _)) .nil), rfl⟩
 have e1 : decide (base < 2) = false := decide_eq_false b1
 by_cases b2 : 36 < base
 ·have e2 : decide (36 < base) = true := decide_eq_true b2
  rw [if_pos (.inr (.inl b2))]
  refine goF Tryz.func72 (closedL_cons (.val _) (closedL_cons (.val _) closedL_nil)) (fun w0 st0 => ?_)
  dsimp only [frOf]
  (repeat' (first | refine goA ?_ | refine goB ?_ | fail))
  exact awp_ret ⟨_, ResL.cons (ResA.tmp (.val _)) (ResL.cons (ResA.tmp (.val _)) .nil), rfl⟩
 have e2 : decide (36 < base) = false := decide_eq_false b2
 by_cases b3 : base ≤ ((c.toNat : Nat) : Int) - 48
 ·have e3 : decide (base ≤ ((c.toNat : Nat) : Int) - 48) = true := decide_eq_true b3
  rw [if_pos (.inr (.inr b3))]
  refine goF Tryz.func72 (closedL_cons (.val _) (closedL_cons (.val _) closedL_nil)) (fun w0 st0 => ?_)
  dsimp only [frOf]
  (repeat' (first | refine goA ?_ | refine goB ?_ | fail))
  exact awp_ret ⟨_, ResL.cons (ResA.tmp (.val _)) (ResL.cons (ResA.tmp (.val _)) .nil), rfl⟩
 have e3 : decide (base ≤ ((c.toNat : Nat) : Int) - 48) = false := decide_eq_false b3
 rw [if_neg (by omega)]
 refine goF Tryz.func72 (closedL_cons (.val _) (closedL_cons (.val _) closedL_nil)) (fun w0 st0 => ?_)
 dsimp only [frOf]
 (repeat' (first | refine goA ?_ | refine goB ?_ | fail))
 exact awp_ret ⟨_, ResL.cons (ResA.tmp (.val _)) (ResL.cons (ResA.tmp (.val _)) .nil), rfl⟩
theorem worth_2 (c : UInt8) (base : Int) (h : 58 ≤ c.toNat ∧ c.toNat ≤ 64) : FnC Tryz.prog 72 [.val (.int .u8 (c.toNat : Nat)), .val (.int .i64 base)] (.tup [.val (.int .i64 (worthD c base).1), .val (.bool (worthD c base).2)]) := by
 have hc8 := c.toNat_lt
 have hN : worthN c = 99 := (if_neg (by omega)).trans ((if_neg (by omega)).trans (if_neg (by omega)))
 unfold worthD
 rw [hN]
 have f0 : decide ((48 : Int) ≤ ((c.toNat : Nat) : Int)) = true := decide_eq_true (by omega)
 have f1 : decide (((c.toNat : Nat) : Int) ≤ 57) = false := decide_eq_false (by omega)
 have f2 : decide ((65 : Int) ≤ ((c.toNat : Nat) : Int)) = false := decide_eq_false (by omega)
 have f3 : decide (((c.toNat : Nat) : Int) ≤ 90) = true := decide_eq_true (by omega)
 have f4 : decide ((97 : Int) ≤ ((c.toNat : Nat) : Int)) = false := decide_eq_false (by omega)
 have f5 : decide (((c.toNat : Nat) : Int) ≤ 122) = true := decide_eq_true (by omega)
 by_cases b1 : base < 2
 ·have e1 : decide (base < 2) = true := decide_eq_true b1
  rw [if_pos (.inl b1)]
  refine goF Tryz.func72 (closedL_cons (.val _) (closedL_cons (.val _) closedL_nil)) (fun w0 st0 => ?_)
  dsimp only [frOf]
  (repeat' (first | refine goA ?_ | refine goB ?_ | fail))
  exact awp_ret ⟨_, ResL.cons (ResA.tmp (.val _)) (ResL.cons (ResA.tmp (.val _)) .nil), rfl⟩
 have e1 : decide (base < 2) = false := decide_eq_false b1
 by_cases b2 : 36 < base
 ·have e2 : decide (36 < base) = true := decide_eq_true b2
  rw [if_pos (.inr (.inl b2))]
  refine goF Tryz.func72 (closedL_cons (.val _) (closedL_cons (.val _) closedL_nil)) (fun w0 st0 => ?_)
  dsimp only [frOf]
  (repeat' (first | refine goA ?_ | refine goB ?_ | fail))
  exact awp_ret ⟨_, ResL.cons (ResA.tmp (.val _)) (ResL.cons (ResA.tmp (.val _)) .nil), rfl⟩
 have e2 : decide (36 < base) = false := decide_eq_false b2
 by_cases b3 : base ≤ 99
 ·have e3 : decide (base ≤ 99) = true := decide_eq_true b3
  rw [if_pos (.inr (.inr b3))]
  refine goF Tryz.func72 (closedL_cons (.val _) (closedL_cons (.val _) closedL_nil)) (fun w0 st0 => ?_)
  dsimp only [frOf]
  (repeat' (first | refine goA ?_ | refine goB ?_ | fail))
  exact awp_ret ⟨_, ResL.cons (ResA.tmp (.val _)) (ResL.cons (ResA.tmp (.val _)) .nil), rfl⟩
 have e3 : decide (base ≤ 99) = false := decide_eq_false b3
 rw [if_neg (by omega)]
 refine goF Tryz.func72 (closedL_cons (.val _) (closedL_cons (.val _) closedL_nil)) (fun w0 st0 => ?_)
 dsimp only [frOf]
 (repeat' (first | refine goA ?_ | refine goB ?_ | fail))
 exact awp_ret ⟨_, ResL.cons (ResA.tmp (.val _)) (ResL.cons (ResA.tmp (.val _)) .nil), rfl⟩
theorem worth_3 (c : UInt8) (base : Int) (h : 65 ≤ c.toNat ∧ c.toNat ≤ 90) : FnC Tryz.prog 72 [.val (.int .u8 (c.toNat : Nat)), .val (.int .i64 base)] (.tup [.val (.int .i64 (worthD c base).1), .val (.bool (worthD c base).2)]) := by
 have hc8 := c.toNat_lt
 have hN : worthN c = ((c.toNat : Nat) : Int) - 55 := (if_neg (by omega)).trans (if_pos (by omega))
 unfold worthD
 rw [hN]
 have f0 : decide ((48 : Int) ≤ ((c.toNat : Nat) : Int)) = true := decide_eq_true (by omega)
 have f1 : decide (((c.toNat : Nat) : Int) ≤ 57) = false := decide_eq_false (by omega)
 have f2 : decide ((65 : Int) ≤ ((c.toNat : Nat) : Int)) = true := decide_eq_true (by omega)
 have f3 : decide (((c.toNat : Nat) : Int) ≤ 90) = true := decide_eq_true (by omega)
 have f4 : decide ((97 : Int) ≤ ((c.toNat : Nat) : Int)) = false := decide_eq_false (by omega)
 have f5 : decide (((c.toNat : Nat) : Int) ≤ 122) = true := decide_eq_true (by omega)
 by_cases b1 : base < 2
 ·have e1 : decide (base < 2) = true := decide_eq_true b1
  rw [if_pos (.inl b1)]
  refine goF Tryz.func72 (closedL_cons (.val _) (closedL_cons (.val _) closedL_nil)) (fun w0 st0 => ?_)
  dsimp only [frOf]
  (repeat' (first | refine goA ?_ | refine goB ?_ | fail))
  exact awp_ret ⟨_, ResL.cons (ResA.tmp (.val _)) (ResL.cons (ResA.tmp (.val _)) .nil), rfl⟩
 have e1 : decide (base < 2) = false := decide_eq_false b1
 by_cases b2 : 36 < base
 ·have e2 : decide (36 < base) = true := decide_eq_true b2
  rw [if_pos (.inr (.inl b2))]
  refine goF Tryz.func72 (closedL_cons (.val _) (closedL_cons (.val _) closedL_nil)) (fun w0 st0 => ?_)
  dsimp only [frOf]
  (repeat' (first | refine goA ?_ | refine goB ?_ | fail))
  exact awp_ret ⟨_, ResL.cons (ResA.tmp (.val _)) (ResL.cons (ResA.tmp (.val _)) .nil), rfl⟩
 have e2 : decide (36 < base) = false := decide_eq_false b2
 by_cases b3 : base ≤ ((c.toNat : Nat) : Int) - 55
 ·have e3 : decide (base ≤ ((c.toNat : Nat) : Int) - 55) = true := decide_eq_true b3
  rw [if_pos (.inr (.inr b3))]
  refine goF Tryz.func72 (closedL_cons (.val _) (closedL_cons (.val _) closedL_nil)) (fun w0 st0 => ?_)
  dsimp only [frOf]
  (repeat' (first | refine goA ?_ | refine goB ?_ | fail))
  exact awp_ret ⟨_, ResL.cons (ResA.tmp (.val _)) (ResL.cons (ResA.tmp (.val _)) .nil), rfl⟩
 have e3 : decide (base ≤ ((c.toNat : Nat) : Int) - 55) = false := decide_eq_false b3
 rw [if_neg (by omega)]
 refine goF Tryz.func72 (closedL_cons (.val _) (closedL_cons (.val _) closedL_nil)) (fun w0 st0 => ?_)
 dsimp only [frOf]
 (repeat' (first | refine goA ?_ | refine goB ?_ | fail))
 exact awp_ret ⟨_, ResL.cons (ResA.tmp (.val _)) (ResL.cons (ResA.tmp (.val _)) .nil), rfl⟩
theorem worth_4 (c : UInt8) (base : Int) (h : 91 ≤ c.toNat ∧ c.toNat ≤ 96) : FnC Tryz.prog 72 [.val (.int .u8 (c.toNat : Nat)), .val (.int .i64 base)] (.tup [.val (.int .i64 (worthD c base).1), .val (.bool (worthD c base).2)]) := by
 have hc8 := c.toNat_lt
 have hN : worthN c = 99 := (if_neg (by omega)).trans ((if_neg (by omega)).trans (if_neg (by omega)))
 unfold worthD
 rw [hN]
 have f0 : decide ((48 : Int) ≤ ((c.toNat : Nat) : Int)) = true := decide_eq_true (by omega)
 have f1 : decide (((c.toNat : Nat) : Int) ≤ 57) = false := decide_eq_false (by omega)
 have f2 : decide ((65 : Int) ≤ ((c.toNat : Nat) : Int)) = true := decide_eq_true (by omega)
 have f3 : decide (((c.toNat : Nat) : Int) ≤ 90) = false := decide_eq_false (by omega)
 have f4 : decide ((97 : Int) ≤ ((c.toNat : Nat) : Int)) = false := decide_eq_false (by omega)
 have f5 : decide (((c.toNat : Nat) : Int) ≤ 122) = true := decide_eq_true (by omega)
 by_cases b1 : base < 2
 ·have e1 : decide (base < 2) = true := decide_eq_true b1
  rw [if_pos (.inl b1)]
  refine goF Tryz.func72 (closedL_cons (.val _) (closedL_cons (.val _) closedL_nil)) (fun w0 st0 => ?_)
  dsimp only [frOf]
  (repeat' (first | refine goA ?_ | refine goB ?_ | fail))
  exact awp_ret ⟨_, ResL.cons (ResA.tmp (.val _)) (ResL.cons (ResA.tmp (.val _)) .nil), rfl⟩
 have e1 : decide (base < 2) = false := decide_eq_false b1
 by_cases b2 : 36 < base
 ·have e2 : decide (36 < base) = true := decide_eq_true b2
  rw [if_pos (.inr (.inl b2))]
  refine goF Tryz.func72 (closedL_cons (.val _) (closedL_cons (.val _) closedL_nil)) (fun w0 st0 => ?_)
  dsimp only [frOf]
  (repeat' (first | refine goA ?_ | refine goB ?_ | fail))
  exact awp_ret ⟨_, ResL.cons (ResA.tmp (.val _)) (ResL.cons (ResA.tmp (.val _)) .nil), rfl⟩
 have e2 : decide (36 < base) = false := decide_eq_false b2
 by_cases b3 : base ≤ 99
 ·have e3 : decide (base ≤ 99) = true := decide_eq_true b3
  rw [if_pos (.inr (.inr b3))]
  refine goF Tryz.func72 (closedL_cons (.val _) (closedL_cons (.val _) closedL_nil)) (fun w0 st0 => ?_)
  dsimp only [frOf]
  (repeat' (first | refine goA ?_ | refine goB ?_ | fail))
  exact awp_ret ⟨_, ResL.cons (ResA.tmp (.val _)) (ResL.cons (ResA.tmp (.val _)) .nil), rfl⟩
 have e3 : decide (base ≤ 99) = false := decide_eq_false b3
 rw [if_neg (by omega)]
 refine goF Tryz.func72 (closedL_cons (.val _) (closedL_cons (.val _) closedL_nil)) (fun w0 st0 => ?_)
 dsimp only [frOf]
 (repeat' (first | refine goA ?_ | refine goB ?_ | fail))
 exact awp_ret ⟨_, ResL.cons (ResA.tmp (.val _)) (ResL.cons (ResA.tmp (.val _)) .nil), rfl⟩
theorem worth_5 (c : UInt8) (base : Int) (h : 97 ≤ c.toNat ∧ c.toNat ≤ 122) : FnC Tryz.prog 72 [.val (.int .u8 (c.toNat : Nat)), .val (.int .i64 base)] (.tup [.val (.int .i64 (worthD c base).1), .val (.bool (worthD c base).2)]) := by
 have hc8 := c.toNat_lt
 have hN : worthN c = ((c.toNat : Nat) : Int) - 87 := if_pos (by omega)
 unfold worthD
 rw [hN]
 have f0 : decide ((48 : Int) ≤ ((c.toNat : Nat) : Int)) = true := decide_eq_true (by omega)
 have f1 : decide (((c.toNat : Nat) : Int) ≤ 57) = false := decide_eq_false (by omega)
 have f2 : decide ((65 : Int) ≤ ((c.toNat : Nat) : Int)) = true := decide_eq_true (by omega)
 have f3 : decide (((c.toNat : Nat) : Int) ≤ 90) = false := decide_eq_false (by omega)
 have f4 : decide ((97 : Int) ≤ ((c.toNat : Nat) : Int)) = true := decide_eq_true (by omega)
 have f5 : decide (((c.toNat : Nat) : Int) ≤ 122) = true := decide_eq_true (by omega)
 by_cases b1 : base < 2
 ·have e1 : decide (base < 2) = true := decide_eq_true b1
  rw [if_pos (.inl b1)]
  refine goF Tryz.func72 (closedL_cons (.val _) (closedL_cons (.val _) closedL_nil)) (fun w0 st0 => ?_)
  dsimp only [frOf]
  (repeat' (first | refine goA ?_ | refine goB ?_ | fail))
  exact awp_ret ⟨_, ResL.cons (ResA.tmp (.val _)) (ResL.cons (ResA.tmp (.val _)) .nil), rfl⟩
 have e1 : decide (base < 2) = false := decide_eq_false b1
 by_cases b2 : 36 < base
 ·have e2 : decide (36 < base) = true := decide_eq_true b2
  rw [if_pos (.inr (.inl b2))]
  refine goF Tryz.func72 (closedL_cons (.val _) (closedL_cons (.val _) closedL_nil)) (fun w0 st0 => ?_)
  dsimp only [frOf]
  (repeat' (first | refine goA ?_ | refine goB ?_ | fail))
  exact awp_ret ⟨_, ResL.cons (ResA.tmp (.val _)) (ResL.cons (ResA.tmp (.val _)) .nil), rfl⟩
 have e2 : decide (36 < base) = false := decide_eq_false b2
 by_cases b3 : base ≤ ((c.toNat : Nat) : Int) - 87
 ·have e3 : decide (base ≤ ((c.toNat : Nat) : Int) - 87) = true := decide_eq_true b3
  rw [if_pos (.inr (.inr b3))]
  refine goF Tryz.func72 (closedL_cons (.val _) (closedL_cons (.val _) closedL_nil)) (fun w0 st0 => ?_)
  dsimp only [frOf]
  (repeat' (first | refine goA ?_ | refine goB ?_ | fail))
  exact awp_ret ⟨_, ResL.cons (ResA.tmp (.val _)) (ResL.cons (ResA.tmp (.val _)) .nil), rfl⟩
 have e3 : decide (base ≤ ((c.toNat : Nat) : Int) - 87) = false := decide_eq_false b3
 rw [if_neg (by omega)]
 refine goF Tryz.func72 (closedL_cons (.val _) (closedL_cons (.val _) closedL_nil)) (fun w0 st0 => ?_)
 dsimp only [frOf]
 (repeat' (first | refine goA ?_ | refine goB ?_ | fail))
 exact awp_ret ⟨_, ResL.cons (ResA.tmp (.val _)) (ResL.cons (ResA.tmp (.val _)) .nil), rfl⟩
theorem worth_6 (c : UInt8) (base : Int) (h : 123 ≤ c.toNat) : FnC Tryz.prog 72 [.val (.int .u8 (c.toNat : Nat)), .val (.int .i64 base)] (.tup [.val (.int .i64 (worthD c base).1), .val (.bool (worthD c base).2)]) := by
 have hc8 := c.toNat_lt
 have hN : worthN c = 99 := (if_neg (by omega)).trans ((if_neg (by omega)).trans (if_neg (by omega)))
 unfold worthD
 rw [hN]
 have f0 : decide ((48 : Int) ≤ ((c.toNat : Nat) : Int)) = true := decide_eq_true (by omega)
 have f1 : decide (((c.toNat : Nat) : Int) ≤ 57) = false := decide_eq_false (by omega)
 have f2 : decide ((65 : Int) ≤ ((c.toNat : Nat) : Int)) = true := decide_eq_true (by omega)
 have f3 : decide (((c.toNat : Nat) : Int) ≤ 90) = false := decide_eq_false (by omega)
 have f4 : decide ((97 : Int) ≤ ((c.toNat : Nat) : Int)) = true := decide_eq_true (by omega)
 have f5 : decide (((c.toNat : Nat) : Int) ≤ 122) = false := decide_eq_false (by omega)
 by_cases b1 : base < 2
 ·have e1 : decide (base < 2) = true := decide_eq_true b1
  rw [if_pos (.inl b1)]
  refine goF Tryz.func72 (closedL_cons (.val _) (closedL_cons (.val _) closedL_nil)) (fun w0 st0 => ?_)
  dsimp only [frOf]
  (repeat' (first | refine goA ?_ | refine goB ?_ | fail))
  exact awp_ret ⟨_, ResL.cons (ResA.tmp (.val _)) (ResL.cons (ResA.tmp (.val _)) .nil), rfl⟩
 have e1 : decide (base < 2) = false := decide_eq_false b1
 by_cases b2 : 36 < base
 ·have e2 : decide (36 < base) = true := decide_eq_true b2
  rw [if_pos (.inr (.inl b2))]
  refine goF Tryz.func72 (closedL_cons (.val _) (closedL_cons (.val _) closedL_nil)) (fun w0 st0 => ?_)
  dsimp only [frOf]
  (repeat' (first | refine goA ?_ | refine goB ?_ | fail))
  exact awp_ret ⟨_, ResL.cons (ResA.tmp (.val _)) (ResL.cons (ResA.tmp (.val _)) .nil), rfl⟩
 have e2 : decide (36 < base) = false := decide_eq_false b2
 by_cases b3 : base ≤ 99
 ·have e3 : decide (base ≤ 99) = true := decide_eq_true b3
  rw [if_pos (.inr (.inr b3))]
  refine goF Tryz.func72 (closedL_cons (.val _) (closedL_cons (.val _) closedL_nil)) (fun w0 st0 => ?_)
  dsimp only [frOf]
  (repeat' (first | refine goA ?_ | refine goB ?_ | fail))
  exact awp_ret ⟨_, ResL.cons (ResA.tmp (.val _)) (ResL.cons (ResA.tmp (.val _)) .nil), rfl⟩
 have e3 : decide (base ≤ 99) = false := decide_eq_false b3
 rw [if_neg (by omega)]
 refine goF Tryz.func72 (closedL_cons (.val _) (closedL_cons (.val _) closedL_nil)) (fun w0 st0 => ?_)
 dsimp only [frOf]
 (repeat' (first | refine goA ?_ | refine goB ?_ | fail))
 exact awp_ret ⟨_, ResL.cons (ResA.tmp (.val _)) (ResL.cons (ResA.tmp (.val _)) .nil), rfl⟩
theorem worth_c (c : UInt8) (base : Int) : FnC Tryz.prog 72 [.val (.int .u8 (c.toNat : Nat)), .val (.int .i64 base)] (.tup [.val (.int .i64 (worthD c base).1), .val (.bool (worthD c base).2)]) := by
 by_cases h0 : c.toNat < 48
 ·exact worth_0 c base h0
 by_cases h1 : c.toNat ≤ 57
 ·exact worth_1 c base ⟨by omega, h1⟩
 by_cases h2 : c.toNat ≤ 64
 ·exact worth_2 c base ⟨by omega, h2⟩
 by_cases h3 : c.toNat ≤ 90
 ·exact worth_3 c base ⟨by omega, h3⟩
 by_cases h4 : c.toNat ≤ 96
 ·exact worth_4 c base ⟨by omega, h4⟩
 by_cases h5 : c.toNat ≤ 122
 ·exact worth_5 c base ⟨by omega, h5⟩
 ·exact worth_6 c base (by omega)
end Go.Proofs.YtfphgelollhdhaaGreat
namespace Go.Proofs.YtfphgelollhdhaaGreat
open Go Go.RowKit
open Go.Proofs.YtfphgelollhdhaaGreat.Dict (St Bs bs_eq st_app st_size Wd findD)
open Gen (wr wr_in wr_eq wr_range)
set_option maxRecDepth 100000
theorem goNum_cons {base : Int} {c : UInt8} {l : List UInt8} {n : Int} (h : (worthD c base).2 = true) : goNum base (c :: l) n = goNum base l (wr (wr (n * base) + (worthD c base).1)) := by rw [goNum, if_pos h]
theorem goNum_no {base : Int} {c : UInt8} {l : List UInt8} {n : Int} (h : (worthD c base).2 = false) : goNum base (c :: l) n = (0, false) := by rw [goNum, if_neg (by simp [h])]
theorem worthD_rng (c : UInt8) (base : Int) : 0 ≤ (worthD c base).1 ∧ (worthD c base).1 ≤ 99 := by
 have := c.toNat_lt
 have hw : 0 ≤ worthN c ∧ worthN c ≤ 99 := by
  unfold worthN
  (repeat' split) <;> omega
 unfold worthD
 split
 ·exact ⟨Int.le_refl _, by decide⟩
 ·exact hw
theorem numBase_in (s : Bs) : 2 ≤ numBase s ∧ numBase s ≤ 16 := by
 unfold numBase
 split
 ·(repeat' split) <;> omega
 ·omega
theorem numAt_in (s : Bs) : numAt s ≤ 1 := by
 unfold numAt
 split
 ·split <;> omega
 ·omega
attribute [local irreducible] Decidable.decide awp ARun regK toK
set_option maxHeartbeats 8000000 in
theorem num_c (s : Bs) (hl : s.length ≤ 1000) (hne : s ≠ []) : FnC Tryz.prog 42 [St s, .val (.int .i64 10)] (.tup [.val (.int .i64 (numD s).1), .val (.bool (numD s).2)]) := by
 have hz : (ByteArray.mk s.toArray).size = s.length := rfl
 have hat : ∀ (i : Nat) (c : UInt8), s[i]? = some c → (ByteArray.mk s.toArray).data[((i : Nat) : Int).toNat]? = some c := fun i c h => by rw [Int.toNat_natCast]; simpa using h
 have hpos : 0 < s.length := List.length_pos_iff.2 hne
 have hb0 := numBase_in s
 have ha0 := numAt_in s
 generalize hR : numD s = R
 unfold numD at hR
 refine goF Tryz.func42 (closedL_cons (.val _) (closedL_cons (.val _) closedL_nil)) (fun w0 st0 => ?_)
 dsimp only [frOf]
 (repeat' (first | refine goN ?_ | refine awp_region_ne 1 rfl (fun _ => hmix) ?_ | refine ARun.o rfl ?_ | refine goB ?_ | ((fail_if_success refine ARun.plain rfl ?_); refine ARun.fork rfl rfl rfl (fun h => ?_) (fun h => ?_)) | refine awp_cond rfl (fun h => ?_) (fun h => ?_)))
 refine awp_cut2 (T := Nat) (fun t => ⟨[(0, St s), (1, .val (.int .i64 10))], [], t⟩) (fun _ => numB3 s = none) ?_ (fun t1 h3 => ?_)
 ·by_cases hl3 : s.length = 3
  case neg =>
   have d1 : ((((ByteArray.mk s.toArray).size : Nat) : Int) == 3) = false := beq_eq_false_iff_ne.2 (by omega)
   have hno : numB3 s = none := by
    unfold numB3
    split
    ·exact absurd rfl hl3
    ·rfl
   (repeat' (first | refine goA ?_ | refine goB ?_ | fail))
   exact ⟨_, ⟨⟨rfl, rfl, trivial⟩, trivial, Nat.le_refl _⟩, hno⟩
  have d1 : ((((ByteArray.mk s.toArray).size : Nat) : Int) == 3) = true := beq_iff_eq.2 (by omega)
  match s, hl3 with
  | [a, b, c], _ =>
   have i0 := hat 0 a rfl
   have i1 := hat 1 b rfl
   have i2 := hat 2 c rfl
   have hb8 := b.toNat_lt
   by_cases h0 : a = 39
   case neg =>
    have d2 : (((a.toNat : Nat) : Int) == 39) = false := beq_eq_false_iff_ne.2 (fun e => h0 (UInt8.toNat_inj.1 (by show a.toNat = 39; omega)))
    (repeat' (first | refine goA ?_ | refine ARun.index_str rfl rfl (by omega) i0 rfl rfl rfl (guardF_spec rfl) ?_ | refine goB ?_ | fail))
    exact ⟨_, ⟨⟨rfl, rfl, trivial⟩, trivial, Nat.le_refl _⟩, if_neg (fun e => h0 e.1)⟩
   subst h0
   have d2 : ((((39 : UInt8).toNat : Nat) : Int) == 39) = true := beq_iff_eq.2 rfl
   by_cases h2 : c = 39
   case neg =>
    have d3 : (((c.toNat : Nat) : Int) == 39) = false := beq_eq_false_iff_ne.2 (fun e => h2 (UInt8.toNat_inj.1 (by show c.toNat = 39; omega)))
    (repeat' (first | refine goA ?_ | refine ARun.index_str rfl rfl (by omega) i0 rfl rfl rfl (guardF_spec rfl) ?_ | refine ARun.index_str rfl rfl (by omega) i2 rfl rfl rfl (guardF_spec rfl) ?_ | refine goB ?_ | fail))
    exact ⟨_, ⟨⟨rfl, rfl, trivial⟩, trivial, Nat.le_refl _⟩, if_neg (fun e => h2 e.2.1)⟩
   subst h2
   by_cases h4 : 33 ≤ b.toNat
   case neg =>
    have d4 : decide ((33 : Int) ≤ ((b.toNat : Nat) : Int)) = false := decide_eq_false (by omega)
    (repeat' (first | refine goA ?_ | refine ARun.index_str rfl rfl (by omega) i0 rfl rfl rfl (guardF_spec rfl) ?_ | refine ARun.index_str rfl rfl (by omega) i2 rfl rfl rfl (guardF_spec rfl) ?_ | refine ARun.index_str rfl rfl (by omega) i1 rfl rfl rfl (guardF_spec rfl) ?_ | refine goB ?_ | fail))
    exact ⟨_, ⟨⟨rfl, rfl, trivial⟩, trivial, Nat.le_refl _⟩, if_neg (fun e => h4 e.2.2.1)⟩
   have d4 : decide ((33 : Int) ≤ ((b.toNat : Nat) : Int)) = true := decide_eq_true (by omega)
   by_cases h5 : b.toNat ≤ 126
   case neg =>
    have d5 : decide (((b.toNat : Nat) : Int) ≤ 126) = false := decide_eq_false (by omega)
    (repeat' (first | refine goA ?_ | refine ARun.index_str rfl rfl (by omega) i0 rfl rfl rfl (guardF_spec rfl) ?_ | refine ARun.index_str rfl rfl (by omega) i2 rfl rfl rfl (guardF_spec rfl) ?_ | refine ARun.index_str rfl rfl (by omega) i1 rfl rfl rfl (guardF_spec rfl) ?_ | refine goB ?_ | fail))
    exact ⟨_, ⟨⟨rfl, rfl, trivial⟩, trivial, Nat.le_refl _⟩, if_neg (fun e => h5 e.2.2.2)⟩
   have d5 : decide (((b.toNat : Nat) : Int) ≤ 126) = true := decide_eq_true (by omega)
   rw [show numB3 [39, b, 39] = some b from if_pos ⟨rfl, rfl, h4, h5⟩] at hR
   dsimp only at hR
   subst hR
   (repeat' (first | refine goA ?_ | refine ARun.index_str rfl rfl (by omega) i0 rfl rfl rfl (guardF_spec rfl) ?_ | refine ARun.index_str rfl rfl (by omega) i2 rfl rfl rfl (guardF_spec rfl) ?_ | refine ARun.index_str rfl rfl (by omega) i1 rfl rfl rfl (guardF_spec rfl) ?_ | refine goB ?_ | fail))
   exact awp_ret ⟨_, ResL.cons (ResA.tmp (.val _)) (ResL.cons (ResA.tmp (.val _)) .nil), rfl⟩
 rw [h3] at hR
 dsimp only at hR
 obtain ⟨c0, r, rfl⟩ : ∃ c0 r, s = c0 :: r := by
  cases s with
  | nil => exact absurd rfl hne
  | cons c0 r => exact ⟨c0, r, rfl⟩
 have i0 := hat 0 c0 rfl
 have hc8 := c0.toNat_lt
 have dl : decide ((0 : Int) < (((ByteArray.mk (c0 :: r).toArray).size : Nat) : Int)) = true := decide_eq_true (by omega)
 (repeat' (first | refine goN ?_ | refine awp_region_ne 4 rfl (fun _ => hmix) ?_ | refine ARun.o rfl ?_ | refine goB ?_ | ((fail_if_success refine ARun.plain rfl ?_); refine ARun.fork rfl rfl rfl (fun h => ?_) (fun h => ?_)) | refine awp_cond rfl (fun h => ?_) (fun h => ?_)))
 refine awp_cut2 (T := Nat) (fun t => ⟨[(0, St (c0 :: r)), (1, .val (.int .i64 (numBase (c0 :: r)))), (6, .val (.int .i64 (numAt (c0 :: r) : Nat)))], [], t⟩) (fun _ => True) ?_ (fun t2 _ => ?_)
 ·by_cases k1 : c0 = 35
  ·subst k1
   have e1 : ((((35 : UInt8).toNat : Nat) : Int) == 35) = true := beq_iff_eq.2 rfl
   have e2 : ((((35 : UInt8).toNat : Nat) : Int) == 36) = false := beq_eq_false_iff_ne.2 (by decide)
   have e3 : ((((35 : UInt8).toNat : Nat) : Int) == 37) = false := beq_eq_false_iff_ne.2 (by decide)
   (repeat' (first | refine goA ?_ | refine ARun.index_str rfl rfl (by omega) i0 rfl rfl rfl (guardF_spec rfl) ?_ | refine goB ?_ | fail))
   exact ⟨_, ⟨⟨rfl, rfl, rfl, trivial⟩, trivial, Nat.le_refl _⟩, trivial⟩
  have e1 : (((c0.toNat : Nat) : Int) == 35) = false := beq_eq_false_iff_ne.2 (fun e => k1 (UInt8.toNat_inj.1 (by show c0.toNat = 35; omega)))
  by_cases k2 : c0 = 36
  ·subst k2
   have e2 : ((((36 : UInt8).toNat : Nat) : Int) == 36) = true := beq_iff_eq.2 rfl
   have e3 : ((((36 : UInt8).toNat : Nat) : Int) == 37) = false := beq_eq_false_iff_ne.2 (by decide)
   (repeat' (first | refine goA ?_ | refine ARun.index_str rfl rfl (by omega) i0 rfl rfl rfl (guardF_spec rfl) ?_ | refine goB ?_ | fail))
   exact ⟨_, ⟨⟨rfl, rfl, rfl, trivial⟩, trivial, Nat.le_refl _⟩, trivial⟩
  have e2 : (((c0.toNat : Nat) : Int) == 36) = false := beq_eq_false_iff_ne.2 (fun e => k2 (UInt8.toNat_inj.1 (by show c0.toNat = 36; omega)))
  by_cases k3 : c0 = 37
  ·subst k3
   have e3 : ((((37 : UInt8).toNat : Nat) : Int) == 37) = true := beq_iff_eq.2 rfl
   (repeat' (first | refine goA ?_ | refine ARun.index_str rfl rfl (by omega) i0 rfl rfl rfl (guardF_spec rfl) ?_ | refine goB ?_ | fail))
   exact ⟨_, ⟨⟨rfl, rfl, rfl, trivial⟩, trivial, Nat.le_refl _⟩, trivial⟩
  have e3 : (((c0.toNat : Nat) : Int) == 37) = false := beq_eq_false_iff_ne.2 (fun e => k3 (UInt8.toNat_inj.1 (by show c0.toNat = 37; omega)))
  have hB : numBase (c0 :: r) = 10 := by show (if c0 = 36 then (16 : Int) else if c0 = 37 then 2 else 10) = 10; rw [if_neg k2, if_neg k3]
  have hA : numAt (c0 :: r) = 0 := by show (if c0 = 35 ∨ c0 = 36 ∨ c0 = 37 then 1 else 0) = 0; rw [if_neg (fun e => e.elim k1 (fun e => e.elim k2 k3))]
  rw [hB, hA]
  (repeat' (first | refine goA ?_ | refine ARun.index_str rfl rfl (by omega) i0 rfl rfl rfl (guardF_spec rfl) ?_ | refine goB ?_ | fail))
  exact ⟨_, ⟨⟨rfl, rfl, rfl, trivial⟩, trivial, Nat.le_refl _⟩, trivial⟩
 generalize c0 :: r = s at *
 refine awp_seq ?_
 refine awp_cut (T := Nat) (fun t => ⟨[(0, St s), (1, .val (.int .i64 (numBase s))), (6, .val (.int .i64 (numAt s : Nat))), (7, .val (.bool (numNeg s)))], [], t⟩) (fun _ => True) ?_ (fun t3 _ => ?_)
 ·by_cases k1 : numAt s < s.length
  case neg =>
   have e1 : decide (((numAt s : Nat) : Int) < (((ByteArray.mk s.toArray).size : Nat) : Int)) = false := decide_eq_false (by omega)
   have hN : numNeg s = false := by unfold numNeg; rw [List.getElem?_eq_none_iff.2 (by omega)]
   rw [hN]
   (repeat' (first | refine goA ?_ | refine goB ?_ | fail))
   exact ⟨_, ⟨⟨rfl, rfl, rfl, rfl, trivial⟩, trivial, Nat.le_refl _⟩, trivial⟩
  have e1 : decide (((numAt s : Nat) : Int) < (((ByteArray.mk s.toArray).size : Nat) : Int)) = true := decide_eq_true (by omega)
  have h1 : s[numAt s]? = some s[numAt s] := List.getElem?_eq_getElem k1
  generalize s[numAt s] = c at h1
  have hs := hat _ c h1
  have hc9 := c.toNat_lt
  have hN : numNeg s = decide (c = 45) := by unfold numNeg; rw [h1]
  rw [hN]
  by_cases k2 : c = 45
  ·subst k2
   have e2 : ((((45 : UInt8).toNat : Nat) : Int) == 45) = true := beq_iff_eq.2 rfl
   rw [decide_eq_true rfl]
   (repeat' (first | refine goA ?_ | refine ARun.index_str rfl rfl (by omega) hs rfl rfl rfl (guardF_spec rfl) ?_ | refine goB ?_ | fail))
   exact ⟨_, ⟨⟨rfl, rfl, rfl, congrArg (fun b => AV.val (.bool b)) e2, trivial⟩, trivial, Nat.le_refl _⟩, trivial⟩
  ·have e2 : (((c.toNat : Nat) : Int) == 45) = false := beq_eq_false_iff_ne.2 (fun e => k2 (UInt8.toNat_inj.1 (by show c.toNat = 45; omega)))
   rw [decide_eq_false k2]
   (repeat' (first | refine goA ?_ | refine ARun.index_str rfl rfl (by omega) hs rfl rfl rfl (guardF_spec rfl) ?_ | refine goB ?_ | fail))
   exact ⟨_, ⟨⟨rfl, rfl, rfl, congrArg (fun b => AV.val (.bool b)) e2, trivial⟩, trivial, Nat.le_refl _⟩, trivial⟩
 (repeat' (first | refine goN ?_ | refine awp_region_ne 12 rfl (fun _ => hmix) ?_ | refine ARun.o rfl ?_ | refine goB ?_ | ((fail_if_success refine ARun.plain rfl ?_); refine ARun.fork rfl rfl rfl (fun h => ?_) (fun h => ?_)) | refine awp_cond rfl (fun h => ?_) (fun h => ?_)))
 refine awp_cut2 (T := Nat) (fun t => ⟨[(0, St s), (1, .val (.int .i64 (numBase s))), (6, .val (.int .i64 (numAt2 s : Nat))), (7, .val (.bool (numNeg s)))], [], t⟩) (fun _ => True) ?_ (fun t4 _ => ?_)
 ·unfold numAt2
  by_cases hn : numNeg s = true
  ·rw [if_pos hn]
   rw [show ((numAt s + 1 : Nat) : Int) = ((numAt s : Nat) : Int) + 1 by omega]
   (repeat' (first | refine goA ?_ | refine goB ?_ | fail))
   exact ⟨_, ⟨⟨rfl, rfl, rfl, rfl, trivial⟩, trivial, Nat.le_refl _⟩, trivial⟩
  ·have hn : numNeg s = false := by simpa using hn
   rw [if_neg (by simp [hn])]
   (repeat' (first | refine goA ?_ | refine goB ?_ | fail))
   exact ⟨_, ⟨⟨rfl, rfl, rfl, rfl, trivial⟩, trivial, Nat.le_refl _⟩, trivial⟩
 have ha2 : numAt2 s ≤ 2 := by unfold numAt2; split <;> omega
 generalize numAt2 s = a at *
 by_cases hla : s.length ≤ a
 ·have e1 : decide ((((ByteArray.mk s.toArray).size : Nat) : Int) ≤ ((a : Nat) : Int)) = true := decide_eq_true (by omega)
  rw [if_pos hla] at hR
  subst hR
  (repeat' (first | refine goA ?_ | refine goB ?_ | fail))
  exact awp_ret ⟨_, ResL.cons (ResA.tmp (.val _)) (ResL.cons (ResA.tmp (.val _)) .nil), rfl⟩
 have e1 : decide ((((ByteArray.mk s.toArray).size : Nat) : Int) ≤ ((a : Nat) : Int)) = false := decide_eq_false (by omega)
 rw [if_neg hla] at hR
 generalize hG : goNum (numBase s) (s.drop a) 0 = G at hR
 (repeat' (first | refine goA ?_ | refine goB ?_ | fail))
 refine awp_loopT (T := Nat × Int × Nat) (fun t => ⟨[(9, .val (.int .i64 (t.1 : Nat))), (8, .val (.int .i64 t.2.1)), (7, .val (.bool (numNeg s))), (1, .val (.int .i64 (numBase s))), (0, St s)], [], t.2.2⟩) (fun t => t.1 ≤ s.length ∧ In64 t.2.1 ∧ goNum (numBase s) (s.drop t.1) t.2.1 = G) (fun t => s.length - t.1) (a, 0, _) ⟨by dsimp only; omega, z64, hG⟩ ⟨⟨rfl, rfl, rfl, rfl, rfl, trivial⟩, trivial, Nat.le_refl _⟩ (fun t ht => ?_)
 obtain ⟨i, n, gc⟩ := t
 obtain ⟨hi, hin, hA⟩ := ht
 dsimp only at hi hin hA ⊢
 by_cases hlt : i < s.length
 ·have hc : decide (((i : Nat) : Int) < ((ByteArray.mk s.toArray).size : Nat)) = true := decide_eq_true (by omega)
  have h1 : s[i]? = some s[i] := List.getElem?_eq_getElem hlt
  generalize s[i] = ch at h1
  have hs := hat _ ch h1
  have c1 := worth_c ch (numBase s)
  rw [drop_at h1] at hA
  have hw := worthD_rng ch (numBase s)
  cases hq : (worthD ch (numBase s)).2 with
  | false =>
   rw [goNum_no hq] at hA
   rw [hq] at c1
   subst hA
   rw [if_neg (by decide)] at hR
   subst hR
   generalize worthD ch (numBase s) = W at *
   (repeat' (first | refine goA ?_ | refine ARun.index_str rfl rfl (by omega) hs rfl rfl rfl (guardF_spec rfl) ?_ | refine cX c1 ?_ | refine goB ?_ | fail))
   exact awp_ret ⟨_, ResL.cons (ResA.tmp (.val _)) (ResL.cons (ResA.tmp (.val _)) .nil), rfl⟩
  | true =>
   rw [goNum_cons hq] at hA
   rw [hq] at c1
   generalize worthD ch (numBase s) = W at *
   (repeat' (first | refine goA ?_ | refine ARun.index_str rfl rfl (by omega) hs rfl rfl rfl (guardF_spec rfl) ?_ | refine cX c1 ?_ | refine ARun.bin rfl rfl bin_mul rfl (guardF_spec rfl) ?_ | refine ARun.bin rfl rfl bin_add rfl (guardF_spec rfl) ?_ | refine goB ?_ | fail))
   exact ⟨(i + 1, wr (wr (n * numBase s) + W.1), _), ⟨⟨succI i, rfl, rfl, rfl, rfl, trivial⟩, trivial, Nat.le_refl _⟩, ⟨hlt, wr_range _, hA⟩, (by dsimp only; omega)⟩
 ·have hii : i = s.length := by omega
  subst hii
  have hc : decide (((s.length : Nat) : Int) < ((ByteArray.mk s.toArray).size : Nat)) = false := decide_eq_false (by omega)
  rw [List.drop_length, goNum] at hA
  subst hA
  rw [if_pos rfl] at hR
  dsimp only at hR
  subst hR
  by_cases hn : numNeg s = true
  ·rw [if_pos hn]
   (repeat' (first | refine goA ?_ | refine ARun.bin rfl rfl bin_sub rfl (guardF_spec rfl) ?_ | refine goB ?_ | fail))
   exact awp_ret ⟨_, ResL.cons (ResA.tmp (.val _)) (ResL.cons (ResA.tmp (.val _)) .nil), rfl⟩
  ·have hn : numNeg s = false := by simpa using hn
   rw [if_neg (by simp [hn])]
   (repeat' (first | refine goA ?_ | refine goB ?_ | fail))
   exact awp_ret ⟨_, ResL.cons (ResA.tmp (.val _)) (ResL.cons (ResA.tmp (.val _)) .nil), rfl⟩
end Go.Proofs.YtfphgelollhdhaaGreat
