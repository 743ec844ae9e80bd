/- yK5, yK6, yK7, yT1, yG1. -/
import Derived.Test.YtfphgelollhdhaaGreatW1
import Derived.Test.YtfphgelollhdhaaGreatW2
import Derived.Test.YtfphgelollhdhaaGreatW3
import Derived.Test.YtfphgelollhdhaaGreatW4
import Derived.Test.YtfphgelollhdhaaGreatyW5
import Derived.Test.YtfphgelollhdhaaGreatyW6
import Derived.Test.YtfphgelollhdhaaGreatyW7
import Derived.Test.YtfphgelollhdhaaGreatyW8
set_option linter.unusedVariables false
set_option linter.unusedSimpArgs false
namespace Go.Proofs.YtfphgelollhdhaaGreat.Dict
open Go Go.RowKit
set_option maxRecDepth 100000
attribute [local irreducible] Decidable.decide awp ARun regK toK
def lastAt (p : Wd → Bool) (l : List Wd) : Nat → Option Nat
 | 0 => none
 | n + 1 => match l[n]? with
  | some w => if p w then some n else lastAt p l n
  | none => lastAt p l n
abbrev Fd := Wd × Int × Bool
def foundD (l : List Wd) : Option Nat → Fd
 | some i => match l[i]? with
  | some w => (w, (i : Int), true)
  | none => (⟨[], 0, 0⟩, 0, false)
 | none => (⟨[], 0, 0⟩, 0, false)
def encFd (r : Fd) : AV := .tup [.agg (encW r.1), .val (.int .i64 r.2.1), .val (.bool r.2.2)]
theorem lastAt_hit {p : Wd → Bool} {l : List Wd} {n : Nat} {w : Wd} (h : l[n]? = some w) (hp : p w = true) : lastAt p l (n + 1) = some n := by
 rw [lastAt, h]
 exact if_pos hp
theorem lastAt_miss {p : Wd → Bool} {l : List Wd} {n : Nat} {w : Wd} (h : l[n]? = some w) (hp : p w = false) : lastAt p l (n + 1) = lastAt p l n := by
 rw [lastAt, h]
 exact if_neg (by simp [hp])
theorem found_hit {l : List Wd} {n : Nat} {w : Wd} (h : l[n]? = some w) : foundD l (some n) = (w, (n : Int), true) := by
 simp only [foundD, h]
end Go.Proofs.YtfphgelollhdhaaGreat.Dict
namespace Go.Proofs.YtfphgelollhdhaaGreat.Dict
open Go Go.RowKit
set_option maxRecDepth 100000
attribute [local irreducible] Decidable.decide awp ARun regK toK
def findP (name : Bs) (w : Wd) : Bool := !hidD w && alikeD w.name name
def findD (l : List Wd) (name : Bs) : Fd := foundD l (lastAt (findP name) l l.length)
def NameIn (l : List Wd) : Prop := ∀ w, w ∈ l → w.name.length ≤ 1000000 ∧ 0 ≤ w.fl ∧ w.fl ≤ 7
set_option maxHeartbeats 4000000 in
theorem ref_find_c (l : List Wd) (name : Bs) (hl : l.length ≤ 1000000) (hn : name.length ≤ 1000000) (hw : NameIn l) : FnC Tryz.prog 35 [encWs l, St name] (encFd (findD l name)) := by
 generalize hP : findP name = P
 refine goF Tryz.func35 (closedL_cons (closed_ws l) (closedL_cons (.val _) closedL_nil)) (fun w0 st0 => ?_)
 dsimp only [frOf]
 rw [show findD l name = foundD l (lastAt P l l.length) by rw [← hP]; rfl]
 (repeat' (first | refine goA ?_ | refine goB ?_ | ((fail_if_success refine ARun.plain rfl ?_); refine ARun.fork rfl rfl rfl (fun h => ?_) (fun h => ?_)) | refine awp_cond rfl (fun h => ?_) (fun h => ?_)))
 refine awp_loopT (T := Nat × Nat) (fun t => ⟨[(7, .val (.int .i64 ((l.length : Int) - 1 - (t.1 : Nat)))), (0, encWs l), (1, St name), (4, .ptr 4 0 0 0), (5, .val (.int .i64 0)), (6, .val (.bool false))], [(4, some ⟨0, 3, [[St [], .val (.int .i64 0), .val (.int .i64 0)]]⟩)], t.2⟩) (fun t => t.1 ≤ l.length ∧ lastAt P l l.length = lastAt P l (l.length - t.1)) (fun t => l.length - t.1) (0, _) ⟨Nat.zero_le _, rfl⟩ ⟨⟨by rw [List.length_map, Int.ofNat_zero, Int.sub_zero]; rfl, rfl, rfl, rfl, rfl, rfl, trivial⟩, ⟨rfl, trivial⟩, Nat.le_refl _⟩ (fun t ht => ?_)
 obtain ⟨j, gc⟩ := t
 obtain ⟨hj, hA⟩ := ht
 dsimp only at hj hA ⊢
 by_cases hlt : j < l.length
 ·have d1 : decide ((0 : Int) ≤ (l.length : Int) - 1 - (j : Nat)) = true := decide_eq_true (by omega)
  have hpe : l[l.length - 1 - j]? = some (l[l.length - 1 - j]'(by omega)) := List.getElem?_eq_getElem (by omega)
  have hmem : (l[l.length - 1 - j]'(by omega)) ∈ l := List.getElem_mem _
  generalize l[l.length - 1 - j]'(by omega) = w at hpe hmem
  have e1 : l.length - j = (l.length - 1 - j) + 1 := by omega
  have hp : (l.map encW)[((l.length : Int) - 1 - (j : Nat)).toNat]? = some (encW w) := by
   rw [show ((l.length : Int) - 1 - (j : Nat)).toNat = l.length - 1 - j by omega, List.getElem?_map, hpe]
   rfl
  have c1 := ref_alike_c w.name name (hw w hmem).1 hn
  have c2 := hidden_c w (hw w hmem).2
  have miss : P w = false → lastAt P l l.length = lastAt P l (l.length - (j + 1)) := fun hpw => by
   rw [hA, e1, lastAt_miss hpe hpw, show l.length - (j + 1) = l.length - 1 - j by omega]
  have step : AV.val (.int .i64 ((l.length : Int) - 1 - (j : Nat) - 1)) = AV.val (.int .i64 ((l.length : Int) - 1 - ((j + 1 : Nat) : Int))) := by
   rw [Int.natCast_add]
   congr 2
   omega
  cases ha : alikeD w.name name with
  | false =>
   rw [ha] at c1
   have hpw : P w = false := by rw [← hP]; unfold findP; rw [ha, Bool.and_false]
   (repeat' (first | refine goA ?_ | refine ARun.indexAddr rfl rfl lensT (by first | assumption | rfl) rfl rfl rfl rfl rfl (guardF_spec rfl) ?_ | refine cX c1 ?_ | refine cX c2 ?_ | refine goB ?_ | ((fail_if_success refine ARun.plain rfl ?_); refine ARun.fork rfl rfl rfl (fun h => ?_) (fun h => ?_)) | refine awp_cond rfl (fun h => ?_) (fun h => ?_)))
   exact ⟨(j + 1, _), ⟨⟨step, rfl, rfl, rfl, rfl, rfl, trivial⟩, ⟨rfl, trivial⟩, Nat.le_refl _⟩, ⟨hlt, miss hpw⟩, (by dsimp only; omega)⟩
  | true =>
   rw [ha] at c1
   cases hb : hidD w with
   | true =>
    rw [hb] at c2
    have hpw : P w = false := by rw [← hP]; unfold findP; rw [hb]; rfl
    (repeat' (first | refine goA ?_ | refine ARun.indexAddr rfl rfl lensT (by first | assumption | rfl) rfl rfl rfl rfl rfl (guardF_spec rfl) ?_ | refine cX c1 ?_ | refine cX c2 ?_ | refine goB ?_ | ((fail_if_success refine ARun.plain rfl ?_); refine ARun.fork rfl rfl rfl (fun h => ?_) (fun h => ?_)) | refine awp_cond rfl (fun h => ?_) (fun h => ?_)))
    exact ⟨(j + 1, _), ⟨⟨step, rfl, rfl, rfl, rfl, rfl, trivial⟩, ⟨rfl, trivial⟩, Nat.le_refl _⟩, ⟨hlt, miss hpw⟩, (by dsimp only; omega)⟩
   | false =>
    rw [hb] at c2
    have hpw : P w = true := by rw [← hP]; unfold findP; rw [ha, hb]; rfl
    rw [hA, e1, lastAt_hit hpe hpw, found_hit hpe, show ((l.length - 1 - j : Nat) : Int) = (l.length : Int) - 1 - (j : Nat) by omega]
    (repeat' (first | refine goA ?_ | refine ARun.indexAddr rfl rfl lensT (by first | assumption | rfl) rfl rfl rfl rfl rfl (guardF_spec rfl) ?_ | refine cX c1 ?_ | refine cX c2 ?_ | refine goB ?_ | ((fail_if_success refine ARun.plain rfl ?_); refine ARun.fork rfl rfl rfl (fun h => ?_) (fun h => ?_)) | refine awp_cond rfl (fun h => ?_) (fun h => ?_)))
    exact awp_ret ⟨_, ResL.cons (ResA.agg rfl rfl rfl rfl rfl rfl rfl (RL.cons (.val _) (RL.cons (.val _) (RL.cons (.val _) (RL.nil _))))) (ResL.cons (ResA.tmp (.val _)) (ResL.cons (ResA.tmp (.val _)) .nil)), rfl⟩
 ·have hjj : j = l.length := by omega
  subst hjj
  have d1 : decide ((0 : Int) ≤ (l.length : Int) - 1 - ((l.length : Nat) : Int)) = false := decide_eq_false (by omega)
  rw [Nat.sub_self] at hA
  rw [hA]
  (repeat' (first | refine goA ?_ | refine goB ?_ | ((fail_if_success refine ARun.plain rfl ?_); refine ARun.fork rfl rfl rfl (fun h => ?_) (fun h => ?_)) | refine awp_cond rfl (fun h => ?_) (fun h => ?_)))
  exact awp_ret ⟨_, ResL.cons (ResA.agg rfl rfl rfl rfl rfl rfl rfl (RL.cons (.val _) (RL.cons (.val _) (RL.cons (.val _) (RL.nil _))))) (ResL.cons (ResA.tmp (.val _)) (ResL.cons (ResA.tmp (.val _)) .nil)), rfl⟩
end Go.Proofs.YtfphgelollhdhaaGreat.Dict
namespace Go.Proofs.YtfphgelollhdhaaGreat.Dict
open Go Go.RowKit
set_option maxRecDepth 100000
attribute [local irreducible] Decidable.decide awp ARun regK toK
def encWE (r : List Wd × Int) : AV := .tup [encWs r.1, .val (.int .i64 r.2)]
def addD (l : List Wd) (name : Bs) (xt fl limit : Int) : List Wd × Int :=
 if namedD name ≠ 0 then (l, namedD name) else if ¬(0 ≤ fl ∧ fl ≤ 7) then (l, -24) else if limit ≤ l.length ∨ 1024 ≤ l.length then (l, -8) else (l ++ [⟨name, xt, fl⟩], 0)
def setFl (l : List Wd) (i : Nat) (fl : Int) : List Wd := match l[i]? with
 | some w => l.set i ⟨w.name, w.xt, fl⟩
 | none => l
def flagD (l : List Wd) (at' fl : Int) : List Wd × Int := if at' < 0 ∨ (l.length : Int) ≤ at' ∨ ¬(0 ≤ fl ∧ fl ≤ 7) then (l, -24) else (setFl l at'.toNat fl, 0)
def cutD (l : List Wd) (many : Int) : List Wd × Int := if many < 0 ∨ (l.length : Int) < many then (l, -24) else (l.take many.toNat, 0)
theorem setFl_len (l : List Wd) (i : Nat) (fl : Int) : (setFl l i fl).length = l.length := by
 unfold setFl
 split
 ·rw [List.length_set]
 ·rfl
theorem wapp_closed (l : List Wd) (w : Wd) : ∀ el x, el ∈ l.map encW ++ [encW w] → x ∈ el → Closed x := own_closed_app encW_closed (encW_closed w)
set_option maxHeartbeats 4000000 in
theorem ref_add_c (l : List Wd) (name : Bs) (xt fl limit : Int) (hl : l.length ≤ 1000000) (hn : name.length ≤ 1000000) : FnC Tryz.prog 125 [encWs l, St name, .val (.int .i64 xt), .val (.int .i64 fl), .val (.int .i64 limit)] (encWE (addD l name xt fl limit)) := by
 have c1 := ref_named_c name hn
 by_cases h1 : namedD name = 0
 ·have d1 : (namedD name != 0) = false := by simp [h1]
  by_cases h2 : 0 ≤ fl ∧ fl ≤ 7
  ·have d2 : decide (fl < 0) = false := decide_eq_false (by omega)
   have d2' : decide (7 < fl) = false := decide_eq_false (by omega)
   have e0 : (((l.map encW).length : Nat) : Int) = l.length := by rw [List.length_map]
   by_cases h3 : limit ≤ l.length
   ·have d3 : decide (limit ≤ (((l.map encW).length : Nat) : Int)) = true := decide_eq_true (by omega)
    rw [show addD l name xt fl limit = (l, -8) by unfold addD; rw [if_neg (by simp [h1]), if_neg (by simp [h2]), if_pos (.inl h3)]]
    refine goF Tryz.func125 (closedL_cons (closed_ws l) (closedL_cons (.val _) (closedL_cons (.val _) (closedL_cons (.val _) (closedL_cons (.val _) closedL_nil))))) (fun w0 st0 => ?_)
    dsimp only [frOf]
    (repeat' (first | refine goA ?_ | refine cX c1 ?_ | refine goB ?_ | ((fail_if_success refine ARun.plain rfl ?_); refine ARun.fork rfl rfl rfl (fun h => ?_) (fun h => ?_)) | refine awp_cond rfl (fun h => ?_) (fun h => ?_)))
    exact awp_ret ⟨_, (ResL.cons (ResA.tmp (.closed _ (closed_ws _))) (ResL.cons (ResA.tmp (.val _)) .nil)), rfl⟩
   ·have d3 : decide (limit ≤ (((l.map encW).length : Nat) : Int)) = false := decide_eq_false (by omega)
    by_cases h4 : 1024 ≤ l.length
    ·have d4 : decide ((1024 : Int) ≤ (((l.map encW).length : Nat) : Int)) = true := decide_eq_true (by omega)
     rw [show addD l name xt fl limit = (l, -8) by unfold addD; rw [if_neg (by simp [h1]), if_neg (by simp [h2]), if_pos (.inr h4)]]
     refine goF Tryz.func125 (closedL_cons (closed_ws l) (closedL_cons (.val _) (closedL_cons (.val _) (closedL_cons (.val _) (closedL_cons (.val _) closedL_nil))))) (fun w0 st0 => ?_)
     dsimp only [frOf]
     (repeat' (first | refine goA ?_ | refine cX c1 ?_ | refine goB ?_ | ((fail_if_success refine ARun.plain rfl ?_); refine ARun.fork rfl rfl rfl (fun h => ?_) (fun h => ?_)) | refine awp_cond rfl (fun h => ?_) (fun h => ?_)))
     exact awp_ret ⟨_, (ResL.cons (ResA.tmp (.closed _ (closed_ws _))) (ResL.cons (ResA.tmp (.val _)) .nil)), rfl⟩
    ·have d4 : decide ((1024 : Int) ≤ (((l.map encW).length : Nat) : Int)) = false := decide_eq_false (by omega)
     rw [show addD l name xt fl limit = (l ++ [⟨name, xt, fl⟩], 0) by unfold addD; rw [if_neg (by simp [h1]), if_neg (by simp [h2]), if_neg (by omega)]]
     refine goF Tryz.func125 (closedL_cons (closed_ws l) (closedL_cons (.val _) (closedL_cons (.val _) (closedL_cons (.val _) (closedL_cons (.val _) closedL_nil))))) (fun w0 st0 => ?_)
     dsimp only [frOf]
     (repeat' (first | refine goA ?_ | refine cX c1 ?_ | refine ARun.buildSliceO rfl rfl rfl rfl rfl rfl rfl (buildSF_spec rfl) rfl (guardF_spec rfl) ?_ | refine appF rfl ?_ | refine appO rfl ?_ | refine goB ?_ | ((fail_if_success refine ARun.plain rfl ?_); refine ARun.fork rfl rfl rfl (fun h => ?_) (fun h => ?_)) | refine awp_cond rfl (fun h => ?_) (fun h => ?_)))
     refine awp_ret ⟨_, ResL.cons (ResA.tmp (.owned rfl rfl (by simp) (wapp_closed l ⟨name, xt, fl⟩))) (ResL.cons (ResA.tmp (.val _)) .nil), ?_⟩
     unfold encWE encWs
     rw [List.map_append]
     rfl
  ·rw [show addD l name xt fl limit = (l, -24) by unfold addD; rw [if_neg (by simp [h1]), if_pos h2]]
   by_cases h3 : fl < 0
   ·have d2 : decide (fl < 0) = true := decide_eq_true h3
    refine goF Tryz.func125 (closedL_cons (closed_ws l) (closedL_cons (.val _) (closedL_cons (.val _) (closedL_cons (.val _) (closedL_cons (.val _) closedL_nil))))) (fun w0 st0 => ?_)
    dsimp only [frOf]
    (repeat' (first | refine goA ?_ | refine cX c1 ?_ | refine goB ?_ | ((fail_if_success refine ARun.plain rfl ?_); refine ARun.fork rfl rfl rfl (fun h => ?_) (fun h => ?_)) | refine awp_cond rfl (fun h => ?_) (fun h => ?_)))
    exact awp_ret ⟨_, (ResL.cons (ResA.tmp (.closed _ (closed_ws _))) (ResL.cons (ResA.tmp (.val _)) .nil)), rfl⟩
   ·have d2 : decide (fl < 0) = false := decide_eq_false h3
    have d2' : decide (7 < fl) = true := decide_eq_true (by omega)
    refine goF Tryz.func125 (closedL_cons (closed_ws l) (closedL_cons (.val _) (closedL_cons (.val _) (closedL_cons (.val _) (closedL_cons (.val _) closedL_nil))))) (fun w0 st0 => ?_)
    dsimp only [frOf]
    (repeat' (first | refine goA ?_ | refine cX c1 ?_ | refine goB ?_ | ((fail_if_success refine ARun.plain rfl ?_); refine ARun.fork rfl rfl rfl (fun h => ?_) (fun h => ?_)) | refine awp_cond rfl (fun h => ?_) (fun h => ?_)))
    exact awp_ret ⟨_, (ResL.cons (ResA.tmp (.closed _ (closed_ws _))) (ResL.cons (ResA.tmp (.val _)) .nil)), rfl⟩
 ·have d1 : (namedD name != 0) = true := by simp [h1]
  rw [show addD l name xt fl limit = (l, namedD name) by unfold addD; rw [if_pos (by simp [h1])]]
  refine goF Tryz.func125 (closedL_cons (closed_ws l) (closedL_cons (.val _) (closedL_cons (.val _) (closedL_cons (.val _) (closedL_cons (.val _) closedL_nil))))) (fun w0 st0 => ?_)
  dsimp only [frOf]
  (repeat' (first | refine goA ?_ | refine cX c1 ?_ | refine goB ?_ | ((fail_if_success refine ARun.plain rfl ?_); refine ARun.fork rfl rfl rfl (fun h => ?_) (fun h => ?_)) | refine awp_cond rfl (fun h => ?_) (fun h => ?_)))
  exact awp_ret ⟨_, (ResL.cons (ResA.tmp (.closed _ (closed_ws _))) (ResL.cons (ResA.tmp (.val _)) .nil)), rfl⟩
theorem set_fl {l : List Wd} {i : Nat} {w : Wd} (h : l[i]? = some w) (fl : Int) : (l.map encW).set i (encW ⟨w.name, w.xt, fl⟩) = (setFl l i fl).map encW := by
 unfold setFl
 rw [h]
 simp only [List.map_set]
set_option maxHeartbeats 4000000 in
theorem ref_flag_c (l : List Wd) (at' fl : Int) (hl : l.length ≤ 1000000) : FnC Tryz.prog 111 [encWs l, .val (.int .i64 at'), .val (.int .i64 fl)] (encWE (flagD l at' fl)) := by
 have e0 : (((l.map encW).length : Nat) : Int) = l.length := by rw [List.length_map]
 by_cases h1 : at' < 0
 ·rw [show flagD l at' fl = (l, -24) from if_pos (.inl h1)]
  have d1 : decide (at' < 0) = true := decide_eq_true h1
  refine goF Tryz.func111 (closedL_cons (closed_ws l) (closedL_cons (.val _) (closedL_cons (.val _) closedL_nil))) (fun w0 st0 => ?_)
  dsimp only [frOf]
  (repeat' (first | refine goA ?_ | refine goB ?_ | ((fail_if_success refine ARun.plain rfl ?_); refine ARun.fork rfl rfl rfl (fun h => ?_) (fun h => ?_)) | refine awp_cond rfl (fun h => ?_) (fun h => ?_)))
  exact awp_ret ⟨_, (ResL.cons (ResA.tmp (.closed _ (closed_ws _))) (ResL.cons (ResA.tmp (.val _)) .nil)), rfl⟩
 have d1 : decide (at' < 0) = false := decide_eq_false h1
 by_cases h2 : (l.length : Int) ≤ at'
 ·rw [show flagD l at' fl = (l, -24) from if_pos (.inr (.inl h2))]
  have d2 : decide ((((l.map encW).length : Nat) : Int) ≤ at') = true := decide_eq_true (by omega)
  refine goF Tryz.func111 (closedL_cons (closed_ws l) (closedL_cons (.val _) (closedL_cons (.val _) closedL_nil))) (fun w0 st0 => ?_)
  dsimp only [frOf]
  (repeat' (first | refine goA ?_ | refine goB ?_ | ((fail_if_success refine ARun.plain rfl ?_); refine ARun.fork rfl rfl rfl (fun h => ?_) (fun h => ?_)) | refine awp_cond rfl (fun h => ?_) (fun h => ?_)))
  exact awp_ret ⟨_, (ResL.cons (ResA.tmp (.closed _ (closed_ws _))) (ResL.cons (ResA.tmp (.val _)) .nil)), rfl⟩
 have d2 : decide ((((l.map encW).length : Nat) : Int) ≤ at') = false := decide_eq_false (by omega)
 by_cases h3 : 0 ≤ fl ∧ fl ≤ 7
 ·rw [show flagD l at' fl = (setFl l at'.toNat fl, 0) from if_neg (by omega)]
  have d3 : decide (fl < 0) = false := decide_eq_false (by omega)
  have d4 : decide (7 < fl) = false := decide_eq_false (by omega)
  obtain ⟨i, rfl⟩ : ∃ i : Nat, at' = (i : Int) := ⟨at'.toNat, by omega⟩
  have hp : l[i]? = some l[i] := List.getElem?_eq_getElem (by omega)
  generalize l[i] = w at hp
  have he : (l.map encW)[0 + ((i : Nat) : Int).toNat]? = some (encW w) := by rw [Nat.zero_add, Int.toNat_natCast]; exact get_map hp
  have hs : (l.map encW).set (0 + ((i : Nat) : Int).toNat) [St w.name, .val (.int .i64 w.xt), .val (.int .i64 fl)] = (setFl l i fl).map encW := by rw [Nat.zero_add, Int.toNat_natCast]; exact set_fl hp fl
  refine goF Tryz.func111 (closedL_cons (closed_ws l) (closedL_cons (.val _) (closedL_cons (.val _) closedL_nil))) (fun w0 st0 => ?_)
  dsimp only [frOf]
  (repeat' (first | refine goA ?_ | refine ARun.buildSliceO rfl rfl rfl rfl rfl rfl rfl (buildSF_spec rfl) rfl (guardF_spec rfl) ?_ | refine appF rfl ?_ | refine ARun.indexAddr_own rfl rfl rfl rfl lensT lensT rfl rfl rfl rfl rfl (guardF_spec rfl) ?_ | refine ARun.storeAt rfl rfl rfl he rfl rfl rfl rfl rfl hs (guardF_spec rfl) ?_ | refine goB ?_ | ((fail_if_success refine ARun.plain rfl ?_); refine ARun.fork rfl rfl rfl (fun h => ?_) (fun h => ?_)) | refine awp_cond rfl (fun h => ?_) (fun h => ?_)))
  rw [Int.toNat_natCast]
  refine awp_ret ⟨_, ResL.cons (ResA.tmp (.owned rfl rfl (by simp [setFl_len]) (own_closed_map encW_closed))) (ResL.cons (ResA.tmp (.val _)) .nil), ?_⟩
  rfl
 ·rw [show flagD l at' fl = (l, -24) from if_pos (.inr (.inr h3))]
  by_cases h4 : fl < 0
  ·have d3 : decide (fl < 0) = true := decide_eq_true h4
   refine goF Tryz.func111 (closedL_cons (closed_ws l) (closedL_cons (.val _) (closedL_cons (.val _) closedL_nil))) (fun w0 st0 => ?_)
   dsimp only [frOf]
   (repeat' (first | refine goA ?_ | refine goB ?_ | ((fail_if_success refine ARun.plain rfl ?_); refine ARun.fork rfl rfl rfl (fun h => ?_) (fun h => ?_)) | refine awp_cond rfl (fun h => ?_) (fun h => ?_)))
   exact awp_ret ⟨_, (ResL.cons (ResA.tmp (.closed _ (closed_ws _))) (ResL.cons (ResA.tmp (.val _)) .nil)), rfl⟩
  ·have d3 : decide (fl < 0) = false := decide_eq_false h4
   have d4 : decide (7 < fl) = true := decide_eq_true (by omega)
   refine goF Tryz.func111 (closedL_cons (closed_ws l) (closedL_cons (.val _) (closedL_cons (.val _) closedL_nil))) (fun w0 st0 => ?_)
   dsimp only [frOf]
   (repeat' (first | refine goA ?_ | refine goB ?_ | ((fail_if_success refine ARun.plain rfl ?_); refine ARun.fork rfl rfl rfl (fun h => ?_) (fun h => ?_)) | refine awp_cond rfl (fun h => ?_) (fun h => ?_)))
   exact awp_ret ⟨_, (ResL.cons (ResA.tmp (.closed _ (closed_ws _))) (ResL.cons (ResA.tmp (.val _)) .nil)), rfl⟩
set_option maxHeartbeats 4000000 in
theorem ref_cut_c (l : List Wd) (many : Int) (hl : l.length ≤ 1000000) : FnC Tryz.prog 47 [encWs l, .val (.int .i64 many)] (encWE (cutD l many)) := by
 have e0 : (((l.map encW).length : Nat) : Int) = l.length := by rw [List.length_map]
 by_cases h1 : many < 0
 ·rw [show cutD l many = (l, -24) from if_pos (.inl h1)]
  have d1 : decide (many < 0) = true := decide_eq_true h1
  refine goF Tryz.func47 (closedL_cons (closed_ws l) (closedL_cons (.val _) closedL_nil)) (fun w0 st0 => ?_)
  dsimp only [frOf]
  (repeat' (first | refine goA ?_ | refine goB ?_ | ((fail_if_success refine ARun.plain rfl ?_); refine ARun.fork rfl rfl rfl (fun h => ?_) (fun h => ?_)) | refine awp_cond rfl (fun h => ?_) (fun h => ?_)))
  exact awp_ret ⟨_, (ResL.cons (ResA.tmp (.closed _ (closed_ws _))) (ResL.cons (ResA.tmp (.val _)) .nil)), rfl⟩
 have d1 : decide (many < 0) = false := decide_eq_false h1
 by_cases h2 : (l.length : Int) < many
 ·rw [show cutD l many = (l, -24) from if_pos (.inr h2)]
  have d2 : decide ((((l.map encW).length : Nat) : Int) < many) = true := decide_eq_true (by omega)
  refine goF Tryz.func47 (closedL_cons (closed_ws l) (closedL_cons (.val _) closedL_nil)) (fun w0 st0 => ?_)
  dsimp only [frOf]
  (repeat' (first | refine goA ?_ | refine goB ?_ | ((fail_if_success refine ARun.plain rfl ?_); refine ARun.fork rfl rfl rfl (fun h => ?_) (fun h => ?_)) | refine awp_cond rfl (fun h => ?_) (fun h => ?_)))
  exact awp_ret ⟨_, (ResL.cons (ResA.tmp (.closed _ (closed_ws _))) (ResL.cons (ResA.tmp (.val _)) .nil)), rfl⟩
 have d2 : decide ((((l.map encW).length : Nat) : Int) < many) = false := decide_eq_false (by omega)
 rw [show cutD l many = (l.take many.toNat, 0) from if_neg (by omega)]
 have h3 : (0 : Int) ≤ many := by omega
 have hsp : l.map encW = (l.take many.toNat).map encW ++ (l.drop many.toNat).map encW := by rw [← List.map_append, List.take_append_drop]
 have hmy : many = (((l.take many.toNat).map encW).length : Nat) := by rw [List.length_map, List.length_take]; omega
 refine goF Tryz.func47 (closedL_cons (closed_ws l) (closedL_cons (.val _) closedL_nil)) (fun w0 st0 => ?_)
 dsimp only [frOf]
 (repeat' (first | refine goA ?_ | refine ARun.buildSliceO rfl rfl rfl rfl rfl rfl rfl (buildSF_spec rfl) rfl (guardF_spec rfl) ?_ | refine ARun.sliceTo rfl hsp rfl hmy rfl rfl rfl rfl rfl (guardF_spec rfl) ?_ | refine appF rfl ?_ | refine goB ?_ | ((fail_if_success refine ARun.plain rfl ?_); refine ARun.fork rfl rfl rfl (fun h => ?_) (fun h => ?_)) | refine awp_cond rfl (fun h => ?_) (fun h => ?_)))
 refine awp_ret ⟨_, ResL.cons (ResA.tmp (.owned rfl rfl (by simp) (own_closed_map encW_closed))) (ResL.cons (ResA.tmp (.val _)) .nil), rfl⟩
end Go.Proofs.YtfphgelollhdhaaGreat.Dict
namespace Go.Proofs.YtfphgelollhdhaaGreat.Stk
open Go Go.RowKit
set_option maxRecDepth 100000
attribute [local irreducible] Decidable.decide awp ARun regK toK
def encS (s : List Int) : AV := .sl 1 false (s.map encI)
theorem encI_closed (n : Int) : ∀ x, x ∈ encI n → Closed x := fun x hx => by rw [List.mem_singleton.1 hx]; exact .val _
theorem closed_s (s : List Int) : Closed (encS s) := closed_map encI_closed
def pushD (s : List Int) (n limit : Int) : List Int × Int := if limit ≤ (s.length : Int) then (s, -3) else (s ++ [n], 0)
theorem pushD_over {s : List Int} {n limit : Int} (h : limit ≤ (s.length : Int)) : pushD s n limit = (s, -3) := if_pos h
theorem pushD_ok {s : List Int} {n limit : Int} (h : ¬ limit ≤ (s.length : Int)) : pushD s n limit = (s ++ [n], 0) := if_neg h
def popD (s : List Int) : Int × List Int × Int := match s.getLast? with | none => (0, s, -4) | some x => (x, s.dropLast, 0)
theorem popD_nil : popD [] = (0, [], -4) := rfl
theorem popD_snoc (p : List Int) (x : Int) : popD (p ++ [x]) = (x, p, 0) := by unfold popD; simp
theorem snoc_of {s : List Int} (h : s ≠ []) : ∃ p x, s = p ++ [x] := ⟨s.dropLast, s.getLast h, (List.dropLast_concat_getLast h).symm⟩
theorem snoc_ix (p : List Int) (x : Int) : ((p ++ [x]).map encI)[(((((p ++ [x]).map encI).length : Nat) : Int) - 1).toNat]? = some (encI x) := by
 rw [List.length_map, List.length_append, List.length_singleton, List.map_append, show (((p.length + 1 : Nat) : Int) - 1).toNat = (p.map encI).length by rw [List.length_map]; omega]
 simp
def sameD (a b : List Int) : Bool := decide (a = b)
theorem ref_same_c (a b : List Int) (ha : a.length ≤ 1000000) (hb : b.length ≤ 1000000) : FnC Tryz.prog 10 [encS a, encS b] (.val (.bool (sameD a b))) := by
 refine goF Tryz.func10 (closedL_cons (closed_s a) (closedL_cons (closed_s b) closedL_nil)) (fun w0 st0 => ?_)
 dsimp only [frOf]
 by_cases hne : a.length = b.length
 ·have hc0 : ((((a.map encI).length : Nat) : Int) != (((b.map encI).length : Nat) : Int)) = false := by simp [hne]
  (repeat' (first | refine goA ?_ | refine goB ?_ | ((fail_if_success refine ARun.plain rfl ?_); refine ARun.fork rfl rfl rfl (fun h => ?_) (fun h => ?_)) | refine awp_cond rfl (fun h => ?_) (fun h => ?_)))
  refine awp_loopT (T := Nat × Nat) (fun t => ⟨[(0, encS a), (1, encS b), (4, .val (.bool false)), (5, .val (.int .i64 (t.1 : Nat)))], [], t.2⟩)
   (fun t => t.1 ≤ a.length ∧ a.take t.1 = b.take t.1) (fun t => a.length - t.1) (0, _) ⟨Nat.zero_le _, rfl⟩ ⟨⟨rfl, rfl, rfl, rfl, trivial⟩, trivial, Nat.le_refl _⟩ (fun t ht => ?_)
  obtain ⟨k, gc⟩ := t
  obtain ⟨hk, hA⟩ := ht
  dsimp only at hk hA ⊢
  by_cases hlt : k < a.length
  ·have h1 : a[k]? = some a[k] := List.getElem?_eq_getElem hlt
   have h2 : b[k]? = some b[k] := List.getElem?_eq_getElem (by omega)
   have hc : decide (((k : Nat) : Int) < (((a.map encI).length : Nat) : Int)) = true := by rw [List.length_map]; simp; omega
   have e1 := take_succ' h1
   have e2 := take_succ' h2
   by_cases heq : a[k] = b[k]
   ·have hd : (a[k] != b[k]) = false := by simp [heq]
    (repeat' (first | refine goA ?_ | refine ARun.indexAddr rfl rfl (by omega) (by first | with_reducible exact get_map h1 | with_reducible exact get_map h2) rfl rfl rfl rfl rfl (guardF_spec rfl) ?_ | refine goB ?_ | ((fail_if_success refine ARun.plain rfl ?_); refine ARun.fork rfl rfl rfl (fun h => ?_) (fun h => ?_)) | refine awp_cond rfl (fun h => ?_) (fun h => ?_)))
    refine ⟨(k + 1, _), ⟨⟨rfl, rfl, rfl, succI k, trivial⟩, trivial, Nat.le_refl _⟩, ⟨hlt, ?_⟩, (by dsimp only; omega)⟩
    dsimp only
    rw [e1, e2, hA, heq]
   ·have hd : (a[k] != b[k]) = true := by simp [heq]
    (repeat' (first | refine goA ?_ | refine ARun.indexAddr rfl rfl (by omega) (by first | with_reducible exact get_map h1 | with_reducible exact get_map h2) rfl rfl rfl rfl rfl (guardF_spec rfl) ?_ | refine goB ?_ | ((fail_if_success refine ARun.plain rfl ?_); refine ARun.fork rfl rfl rfl (fun h => ?_) (fun h => ?_)) | refine awp_cond rfl (fun h => ?_) (fun h => ?_)))
    have : sameD a b = false := by
     unfold sameD
     rw [decide_eq_false_iff_not]
     intro e
     subst e
     exact heq rfl
    rw [this]
    refine awp_ret ⟨_, ResL.cons (ResA.tmp (.val _)) .nil, rfl⟩
  ·have hk : k = a.length := by omega
   subst hk
   have hc : decide (((a.length : Nat) : Int) < (((a.map encI).length : Nat) : Int)) = false := by rw [List.length_map]; simp
   (repeat' (first | refine goA ?_ | refine goB ?_ | ((fail_if_success refine ARun.plain rfl ?_); refine ARun.fork rfl rfl rfl (fun h => ?_) (fun h => ?_)) | refine awp_cond rfl (fun h => ?_) (fun h => ?_)))
   have : sameD a b = true := by
    unfold sameD
    rw [decide_eq_true_eq]
    rw [List.take_length, hne, List.take_length] at hA
    exact hA
   rw [this]
   refine awp_ret ⟨_, ResL.cons (ResA.tmp (.val _)) .nil, rfl⟩
 ·have hc0 : ((((a.map encI).length : Nat) : Int) != (((b.map encI).length : Nat) : Int)) = true := by simp; omega
  (repeat' (first | refine goA ?_ | refine goB ?_ | ((fail_if_success refine ARun.plain rfl ?_); refine ARun.fork rfl rfl rfl (fun h => ?_) (fun h => ?_)) | refine awp_cond rfl (fun h => ?_) (fun h => ?_)))
  have : sameD a b = false := by
   unfold sameD
   rw [decide_eq_false_iff_not]
   intro e
   subst e
   exact hne rfl
  rw [this]
  refine awp_ret ⟨_, ResL.cons (ResA.tmp (.val _)) .nil, rfl⟩
end Go.Proofs.YtfphgelollhdhaaGreat.Stk
namespace Go.Proofs.YtfphgelollhdhaaGreat
open Go Go.RowKit
open Dict (St Bs bs_eq)
set_option maxRecDepth 100000
def nmsV : List Bs := [
 [40, 101, 120, 105, 116, 41], [40, 108, 105, 116, 41], [40, 98, 114, 97, 110, 99, 104, 41], [40, 48, 98, 114, 97, 110, 99, 104, 41],
 [40, 100, 111, 41], [40, 63, 100, 111, 41], [40, 108, 111, 111, 112, 41], [40, 43, 108, 111, 111, 112, 41], [40, 104, 97, 108, 116, 41],
 [40, 99, 97, 117, 103, 104, 116, 41], [40, 100, 111, 101, 115, 41], [40, 115, 116, 114, 41], [69, 88, 69, 67, 85, 84, 69], [67, 65, 84, 67, 72],
 [84, 72, 82, 79, 87], [73], [74], [85, 78, 76, 79, 79, 80], [62, 82], [82, 62], [82, 64], [50, 62, 82], [50, 82, 62], [68, 85, 80],
 [68, 82, 79, 80], [83, 87, 65, 80], [79, 86, 69, 82], [82, 79, 84], [45, 82, 79, 84], [78, 73, 80], [84, 85, 67, 75], [63, 68, 85, 80],
 [50, 68, 85, 80], [50, 68, 82, 79, 80], [50, 83, 87, 65, 80], [50, 79, 86, 69, 82], [80, 73, 67, 75], [82, 79, 76, 76], [68, 69, 80, 84, 72], [43],
 [45], [42], [47], [77, 79, 68], [65, 78, 68], [79, 82], [88, 79, 82], [76, 83, 72, 73, 70, 84], [82, 83, 72, 73, 70, 84], [77, 73, 78],
 [77, 65, 88], [61], [60, 62], [60], [62], [60, 61], [62, 61], [85, 60], [85, 62], [78, 69, 71, 65, 84, 69], [65, 66, 83], [73, 78, 86, 69, 82, 84],
 [49, 43], [49, 45], [50, 42], [50, 47], [48, 61], [48, 60], [48, 60, 62], [48, 62], [67, 69, 76, 76, 83], [67, 69, 76, 76, 43],
 [65, 76, 73, 71, 78, 69, 68], [47, 77, 79, 68], [42, 47], [42, 47, 77, 79, 68], [85, 77, 42], [85, 77, 47, 77, 79, 68], [77, 42],
 [83, 77, 47, 82, 69, 77], [70, 77, 47, 77, 79, 68], [83, 62, 68], [87, 73, 84, 72, 73, 78], [64], [33], [43, 33], [67, 64], [67, 33], [50, 64],
 [50, 33], [70, 73, 76, 76], [77, 79, 86, 69], [67, 79, 85, 78, 84], [72, 69, 82, 69], [65, 76, 76, 79, 84], [44], [67, 44], [65, 76, 73, 71, 78],
 [66, 65, 83, 69], [83, 84, 65, 84, 69], [84, 82, 85, 69], [70, 65, 76, 83, 69], [66, 76], [68, 69, 67, 73, 77, 65, 76], [72, 69, 88],
 [69, 77, 73, 84], [67, 82], [83, 80, 65, 67, 69], [83, 80, 65, 67, 69, 83], [84, 89, 80, 69], [46], [85, 46], [60, 35], [35], [35, 83],
 [72, 79, 76, 68], [83, 73, 71, 78], [35, 62], [62, 66, 79, 68, 89], [65, 66, 79, 82, 84], [80, 79, 83, 84], [65, 70, 84, 69, 82],
 [69, 86, 69, 82, 89], [67, 65, 78, 67, 69, 76], [65, 82, 71], [83, 69, 76, 70], [78, 79, 87], [83, 69, 84, 45, 83, 84, 65, 84, 69],
 [65, 84, 45, 83, 84, 65, 84, 69], [71, 69, 84, 45, 83, 84, 65, 84, 69]]
def spcV : List Bs := [
 [58], [59], [67, 82, 69, 65, 84, 69], [68, 79, 69, 83, 62], [86, 65, 82, 73, 65, 66, 76, 69], [67, 79, 78, 83, 84, 65, 78, 84],
 [73, 77, 77, 69, 68, 73, 65, 84, 69], [39], [91, 39, 93], [67, 72, 65, 82], [91, 67, 72, 65, 82, 93], [76, 73, 84, 69, 82, 65, 76],
 [80, 79, 83, 84, 80, 79, 78, 69], [82, 69, 67, 85, 82, 83, 69], [73, 70], [69, 76, 83, 69], [84, 72, 69, 78], [66, 69, 71, 73, 78],
 [87, 72, 73, 76, 69], [82, 69, 80, 69, 65, 84], [85, 78, 84, 73, 76], [65, 71, 65, 73, 78], [68, 79], [63, 68, 79], [76, 79, 79, 80],
 [43, 76, 79, 79, 80], [76, 69, 65, 86, 69], [83, 34], [46, 34], [40], [92], [91], [93], [70, 79, 82, 71, 69, 84], [77, 65, 67, 72, 73, 78, 69],
 [79, 78, 58], [69, 88, 73, 84]]
def onlyV : List Bs := [
 [73], [74], [85, 78, 76, 79, 79, 80], [62, 82], [82, 62], [82, 64], [50, 62, 82], [50, 82, 62]]
def nowV : List Bs := [
 [46, 34], [40], [92], [91]]
def bothV : List Bs := [
 [59], [68, 79, 69, 83, 62], [91, 39, 93], [91, 67, 72, 65, 82, 93], [76, 73, 84, 69, 82, 65, 76], [80, 79, 83, 84, 80, 79, 78, 69],
 [82, 69, 67, 85, 82, 83, 69], [73, 70], [69, 76, 83, 69], [84, 72, 69, 78], [66, 69, 71, 73, 78], [87, 72, 73, 76, 69], [82, 69, 80, 69, 65, 84],
 [85, 78, 84, 73, 76], [65, 71, 65, 73, 78], [68, 79], [63, 68, 79], [76, 79, 79, 80], [43, 76, 79, 79, 80], [76, 69, 65, 86, 69], [83, 34],
 [69, 88, 73, 84]]
def encN (l : Bs) : List AV := [St l]
theorem encN_closed (l : Bs) : ∀ x, x ∈ encN l → Closed x := fun x hx => by rw [List.mem_singleton.1 hx]; exact .val _
theorem closed_ns (l : List Bs) : Closed (.sl 1 false (l.map encN)) := closed_map encN_closed
attribute [local irreducible] Decidable.decide awp ARun regK toK
set_option maxHeartbeats 4000000 in
theorem names_c : FnC Tryz.prog 50 [] (.sl 1 true (nmsV.map encN)) := by
 refine goF Tryz.func50 closedL_nil (fun w0 st0 => ?_)
 dsimp only [frOf]
 (repeat' (first | refine goA ?_ | refine goB ?_ | ((fail_if_success refine ARun.plain rfl ?_); refine ARun.fork rfl rfl rfl (fun h => ?_) (fun h => ?_)) | refine awp_cond rfl (fun h => ?_) (fun h => ?_)))
 refine awp_ret ⟨_, ResL.cons (ResA.tmp (.closed (.sl 1 true (nmsV.map encN)) (closed_map encN_closed))) .nil, rfl⟩
set_option maxHeartbeats 4000000 in
theorem ref_names_c : FnC Tryz.prog 26 [] (.sl 1 true (nmsV.map encN)) := by
 refine goF Tryz.func26 closedL_nil (fun w0 st0 => ?_)
 dsimp only [frOf]
 (repeat' (first | refine goA ?_ | refine goB ?_ | ((fail_if_success refine ARun.plain rfl ?_); refine ARun.fork rfl rfl rfl (fun h => ?_) (fun h => ?_)) | refine awp_cond rfl (fun h => ?_) (fun h => ?_)))
 refine awp_ret ⟨_, ResL.cons (ResA.tmp (.closed (.sl 1 true (nmsV.map encN)) (closed_map encN_closed))) .nil, rfl⟩
set_option maxHeartbeats 4000000 in
theorem ref_specials_c : FnC Tryz.prog 27 [] (.sl 1 true (spcV.map encN)) := by
 refine goF Tryz.func27 closedL_nil (fun w0 st0 => ?_)
 dsimp only [frOf]
 (repeat' (first | refine goA ?_ | refine goB ?_ | ((fail_if_success refine ARun.plain rfl ?_); refine ARun.fork rfl rfl rfl (fun h => ?_) (fun h => ?_)) | refine awp_cond rfl (fun h => ?_) (fun h => ?_)))
 refine awp_ret ⟨_, ResL.cons (ResA.tmp (.closed (.sl 1 true (spcV.map encN)) (closed_map encN_closed))) .nil, rfl⟩
theorem len_nms : (nmsV.map encN).length = 130 := by rw [List.length_map]; rfl
theorem len_spc : (spcV.map encN).length = 37 := by rw [List.length_map]; rfl
structure Cf where
 mem : Int
 data : Int
 ret : Int
 words : Int
 out : Int
def encC (c : Cf) : List AV := [.val (.int .i64 c.mem), .val (.int .i64 c.data), .val (.int .i64 c.ret), .val (.int .i64 c.words), .val (.int .i64 c.out)]
theorem encC_closed (c : Cf) : ∀ x, x ∈ encC c → Closed x := closedL_cons (.val _) (closedL_cons (.val _) (closedL_cons (.val _) (closedL_cons (.val _) (closedL_cons (.val _) closedL_nil))))
def FitsP (c : Cf) : Prop := (2048 ≤ c.mem ∧ c.mem ≤ 65536) ∧ c.mem.tmod 8 = 0 ∧ (1 ≤ c.data ∧ c.data ≤ 256) ∧ (1 ≤ c.ret ∧ c.ret ≤ 256) ∧ (200 ≤ c.words ∧ c.words ≤ 1024) ∧ 0 ≤ c.out ∧ c.out ≤ 65536
open Classical in
noncomputable def fitsD (c : Cf) : Bool := if FitsP c then true else false
theorem fits_yes {c : Cf} (h : FitsP c) : fitsD c = true := by unfold fitsD; exact if_pos h
theorem fits_no {c : Cf} (h : ¬ FitsP c) : fitsD c = false := by unfold fitsD; exact if_neg h
set_option maxHeartbeats 8000000 in
theorem ref_fits_c (c : Cf) : FnC Tryz.prog 25 [.agg (encC c)] (.val (.bool (fitsD c))) := by
  by_cases hF : FitsP c
  · have h' := hF
    obtain ⟨⟨h1, h2⟩, h3, ⟨h4, h5⟩, ⟨h6, h7⟩, ⟨h8, h9⟩, h10, h11⟩ := h'
    have d1 := decide_eq_true h1
    have d2 := decide_eq_true h2
    have d3 : (c.mem.tmod 8 == 0) = true := beq_iff_eq.2 h3
    have d4 := decide_eq_true h4
    have d5 := decide_eq_true h5
    have d6 := decide_eq_true h6
    have d7 := decide_eq_true h7
    have d8 := decide_eq_true h8
    have d9 := decide_eq_true h9
    have d10 := decide_eq_true h10
    have d11 := decide_eq_true h11
    rw [fits_yes hF]
    refine goF Tryz.func25 (closedL_cons (.agg (encC_closed _)) closedL_nil) (fun w0 st0 => ?_)
    dsimp only [frOf]
    (repeat' (first | refine goA ?_ | refine goB ?_ | fail))
    exact awp_ret ⟨_, ResL.cons (ResA.tmp (.val _)) .nil, congrArg (fun b => AV.val (.bool b)) d11.symm⟩
  · rw [fits_no hF]
    refine goF Tryz.func25 (closedL_cons (.agg (encC_closed _)) closedL_nil) (fun w0 st0 => ?_)
    dsimp only [frOf]
    (repeat' (first | refine goA ?_ | refine goB ?_ | ((fail_if_success refine ARun.plain rfl ?_); refine ARun.fork rfl rfl rfl (fun h => ?_) (fun h => ?_)) | refine awp_cond rfl (fun h => ?_) (fun h => ?_)))
    all_goals
      refine awp_ret ⟨_, ResL.cons (ResA.tmp (.val _)) .nil, congrArg (fun b => AV.val (.bool b)) ?_⟩
      first
        | rfl
        | (symm
           simp only [decide_eq_true_eq, decide_eq_false_iff_not, beq_iff_eq] at *
           exact fun q => hF ⟨⟨by assumption, by assumption⟩, by assumption, ⟨by assumption, by assumption⟩, ⟨by assumption, by assumption⟩, ⟨by assumption, by assumption⟩, by assumption, q⟩)
end Go.Proofs.YtfphgelollhdhaaGreat
