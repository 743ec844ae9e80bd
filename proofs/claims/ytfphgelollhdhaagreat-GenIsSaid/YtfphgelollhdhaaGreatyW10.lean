/- yG2, yG3, yG4, yG5, yG6. -/
import Derived.Test.YtfphgelollhdhaaGreatW1
import Derived.Test.YtfphgelollhdhaaGreatW2
import Derived.Test.YtfphgelollhdhaaGreatW3
import Derived.Test.YtfphgelollhdhaaGreatW4
import Derived.Test.YtfphgelollhdhaaGreatyW5
import Derived.Test.YtfphgelollhdhaaGreatyW6
import Derived.Test.YtfphgelollhdhaaGreatyW7
import Derived.Test.YtfphgelollhdhaaGreatyW8
import Derived.Test.YtfphgelollhdhaaGreatyW9
set_option linter.unusedVariables false
set_option linter.unusedSimpArgs false
namespace Go.Proofs.YtfphgelollhdhaaGreat
open Go Go.RowKit
open Stk (encS closed_s)
set_option maxRecDepth 100000
attribute [local irreducible] Decidable.decide awp ARun regK toK
structure Fr where
 d : Int
 r : Int
 ip : Int
def encFr (x : Fr) : List AV := [.val (.int .i64 x.d), .val (.int .i64 x.r), .val (.int .i64 x.ip)]
theorem encFr_closed (x : Fr) : ∀ a, a ∈ encFr x → Closed a := closedL_cons (.val _) (closedL_cons (.val _) (closedL_cons (.val _) closedL_nil))
abbrev encLFr (l : List Fr) : AV := .sl 3 false (l.map encFr)
theorem closedFr (l : List Fr) : Closed (encLFr l) := closed_map encFr_closed
structure Rq where
 kind : Int
 arg : Int
 hand : Int
 rank : Int
 delay : Int
 id : Int
def encRq (x : Rq) : List AV := [.val (.int .i64 x.kind), .val (.int .i64 x.arg), .val (.int .i64 x.hand), .val (.int .i64 x.rank), .val (.int .i64 x.delay), .val (.int .i64 x.id)]
theorem encRq_closed (x : Rq) : ∀ a, a ∈ encRq x → Closed a := closedL_cons (.val _) (closedL_cons (.val _) (closedL_cons (.val _) (closedL_cons (.val _) (closedL_cons (.val _) (closedL_cons (.val _) closedL_nil)))))
abbrev encLRq (l : List Rq) : AV := .sl 6 false (l.map encRq)
theorem closedRq (l : List Rq) : Closed (encLRq l) := closed_map encRq_closed
structure Hn where
 xt : Int
 fuel : Int
 strikes : Int
 out : Bool
def encHn (x : Hn) : List AV := [.val (.int .i64 x.xt), .val (.int .i64 x.fuel), .val (.int .i64 x.strikes), .val (.bool x.out)]
theorem encHn_closed (x : Hn) : ∀ a, a ∈ encHn x → Closed a := closedL_cons (.val _) (closedL_cons (.val _) (closedL_cons (.val _) (closedL_cons (.val _) closedL_nil)))
abbrev encLHn (l : List Hn) : AV := .sl 4 false (l.map encHn)
theorem closedHn (l : List Hn) : Closed (encLHn l) := closed_map encHn_closed
end Go.Proofs.YtfphgelollhdhaaGreat
namespace Go.Proofs.YtfphgelollhdhaaGreat
open Go Go.RowKit
open Dict (St Bs bs_eq)
set_option maxRecDepth 100000
def flagsD (a : Bs) (at' : Int) : Int := if at' < 12 then 6 else if a ∈ onlyV then 4 else if a ∈ nowV then 1 else if a ∈ bothV then 5 else 0
theorem flagsD_range (a : Bs) (at' : Int) : 0 ≤ flagsD a at' ∧ flagsD a at' ≤ 7 := by
 unfold flagsD
 split
 ·decide
 ·split
  ·decide
  ·split
   ·decide
   ·split <;> decide
attribute [local irreducible] Decidable.decide awp ARun regK toK
section
variable {C : ACtx} {ops : Array Oper} {K : AS → List (List Nat × List Nat) → Prop} {k : Nat} {rest : List Oper} {fr : List (Nat × AV)} {hp : List (Nat × Option Blk)} {gc : Nat} {fps : List (List Nat × List Nat)}
 {d : Nat} {ty : TypeId} {pos : String} {after : Array Edge} {gd : Option (Nat × Bool)} {x y z : Operand} {v : AV}
end
theorem onlyV_len : onlyV.length = 8 := rfl
theorem nowV_len : nowV.length = 4 := rfl
theorem bothV_len : bothV.length = 22 := rfl
theorem in_c (l : List Bs) (s : Bs) (hl : l.length ≤ 1000000) : FnC Tryz.prog 52 [.sl 1 false (l.map encN), St s] (.val (.bool (decide (s ∈ l)))) := by
 refine goF Tryz.func52 (closedL_cons (closed_ns l) (closedL_cons (.val _) closedL_nil)) (fun w0 st0 => ?_)
 dsimp only [frOf]
 (repeat' (first | refine goA ?_ | refine goB ?_ | ((fail_if_success refine ARun.plain rfl ?_); refine ARun.fork rfl rfl rfl (fun h => ?_) (fun h => ?_)) | refine awp_cond rfl (fun h => ?_) (fun h => ?_)))
 refine awp_loopT (T := Nat × Nat) (fun t => ⟨[(5, .val (.int .i64 (t.1 : Nat))), (0, .sl 1 false (l.map encN)), (1, St s)], [], t.2⟩) (fun t => t.1 ≤ l.length ∧ s ∉ l.take t.1) (fun t => l.length - t.1) (0, _) ⟨Nat.zero_le _, by simp⟩ ⟨⟨rfl, rfl, rfl, trivial⟩, trivial, Nat.le_refl _⟩ (fun t ht => ?_)
 obtain ⟨k, gc⟩ := t
 obtain ⟨hk, hA⟩ := ht
 dsimp only at hk hA ⊢
 by_cases hlt : k < l.length
 ·have hp : l[k]? = some l[k] := List.getElem?_eq_getElem hlt
  have hc : decide (((k : Nat) : Int) < (((l.map encN).length : Nat) : Int)) = true := by simp; omega
  generalize l[k] = a at hp
  by_cases h3 : a = s
  ·have d3 : ((ByteArray.mk a.toArray).toList == (ByteArray.mk s.toArray).toList) = true := by rw [bs_eq]; exact decide_eq_true h3
   rw [show decide (s ∈ l) = true from decide_eq_true (by rw [← h3]; exact List.mem_of_getElem? hp)]
   (repeat' (first | refine goA ?_ | refine ARun.indexAddr rfl rfl (by omega) (by first | with_reducible exact get_map hp) rfl rfl rfl rfl rfl (guardF_spec rfl) ?_ | refine goB ?_ | ((fail_if_success refine ARun.plain rfl ?_); refine ARun.fork rfl rfl rfl (fun h => ?_) (fun h => ?_)) | refine awp_cond rfl (fun h => ?_) (fun h => ?_)))
   exact awp_ret ⟨_, ResL.cons (ResA.tmp (.val _)) .nil, rfl⟩
  ·have d3 : ((ByteArray.mk a.toArray).toList == (ByteArray.mk s.toArray).toList) = false := by rw [bs_eq]; exact decide_eq_false h3
   (repeat' (first | refine goA ?_ | refine ARun.indexAddr rfl rfl (by omega) (by first | with_reducible exact get_map hp) rfl rfl rfl rfl rfl (guardF_spec rfl) ?_ | refine goB ?_ | ((fail_if_success refine ARun.plain rfl ?_); refine ARun.fork rfl rfl rfl (fun h => ?_) (fun h => ?_)) | refine awp_cond rfl (fun h => ?_) (fun h => ?_)))
   exact ⟨(k + 1, _), ⟨⟨succI k, rfl, rfl, trivial⟩, trivial, Nat.le_refl _⟩, ⟨hlt, by
    dsimp only
    rw [take_succ' hp]
    simp only [List.mem_append, List.mem_singleton, not_or]
    exact ⟨hA, fun e => h3 e.symm⟩⟩, (by dsimp only; omega)⟩
 ·have hkk : k = l.length := by omega
  subst hkk
  have hc : decide (((l.length : Nat) : Int) < (((l.map encN).length : Nat) : Int)) = false := by simp
  rw [List.take_length] at hA
  rw [show decide (s ∈ l) = false from decide_eq_false hA]
  (repeat' (first | refine goA ?_ | refine goB ?_ | ((fail_if_success refine ARun.plain rfl ?_); refine ARun.fork rfl rfl rfl (fun h => ?_) (fun h => ?_)) | refine awp_cond rfl (fun h => ?_) (fun h => ?_)))
  exact awp_ret ⟨_, ResL.cons (ResA.tmp (.val _)) .nil, rfl⟩
theorem ref_flags_c (a : Bs) (at' : Int) : FnC Tryz.prog 28 [St a, .val (.int .i64 at')] (.val (.int .i64 (flagsD a at'))) := by
 have c1 := in_c onlyV a (by rw [onlyV_len]; omega)
 have c2 := in_c nowV a (by rw [nowV_len]; omega)
 have c3 := in_c bothV a (by rw [bothV_len]; omega)
 by_cases h0 : at' < 12
 ·have d0 : decide (at' < 12) = true := decide_eq_true h0
  rw [show flagsD a at' = 6 from if_pos h0]
  refine goF Tryz.func28 (closedL_cons (.val _) (closedL_cons (.val _) closedL_nil)) (fun w0 st0 => ?_)
  dsimp only [frOf]
  (repeat' (first | refine goA ?_ | refine goB ?_ | ((fail_if_success refine ARun.plain rfl ?_); refine ARun.fork rfl rfl rfl (fun h => ?_) (fun h => ?_)) | refine awp_cond rfl (fun h => ?_) (fun h => ?_)))
  exact awp_ret ⟨_, ResL.cons (ResA.tmp (.val _)) .nil, rfl⟩
 have d0 : decide (at' < 12) = false := decide_eq_false h0
 by_cases h1 : a ∈ onlyV
 ·rw [decide_eq_true h1] at c1
  rw [show flagsD a at' = 4 by unfold flagsD; rw [if_neg h0, if_pos h1]]
  refine goF Tryz.func28 (closedL_cons (.val _) (closedL_cons (.val _) closedL_nil)) (fun w0 st0 => ?_)
  dsimp only [frOf]
  (repeat' (first | refine goA ?_ | refine callW (c1) rfl wkT rfl rfl ?_ | refine callW (c2) rfl wkT rfl rfl ?_ | refine callW (c3) rfl wkT rfl rfl ?_ | refine goB ?_ | fail))
  exact awp_ret ⟨_, ResL.cons (ResA.tmp (.val _)) .nil, rfl⟩
 rw [decide_eq_false h1] at c1
 by_cases h2 : a ∈ nowV
 ·rw [decide_eq_true h2] at c2
  rw [show flagsD a at' = 1 by unfold flagsD; rw [if_neg h0, if_neg h1, if_pos h2]]
  refine goF Tryz.func28 (closedL_cons (.val _) (closedL_cons (.val _) closedL_nil)) (fun w0 st0 => ?_)
  dsimp only [frOf]
  (repeat' (first | refine goA ?_ | refine callW (c1) rfl wkT rfl rfl ?_ | refine callW (c2) rfl wkT rfl rfl ?_ | refine callW (c3) rfl wkT rfl rfl ?_ | refine goB ?_ | fail))
  exact awp_ret ⟨_, ResL.cons (ResA.tmp (.val _)) .nil, rfl⟩
 rw [decide_eq_false h2] at c2
 by_cases h3 : a ∈ bothV
 ·rw [decide_eq_true h3] at c3
  rw [show flagsD a at' = 5 by unfold flagsD; rw [if_neg h0, if_neg h1, if_neg h2, if_pos h3]]
  refine goF Tryz.func28 (closedL_cons (.val _) (closedL_cons (.val _) closedL_nil)) (fun w0 st0 => ?_)
  dsimp only [frOf]
  (repeat' (first | refine goA ?_ | refine callW (c1) rfl wkT rfl rfl ?_ | refine callW (c2) rfl wkT rfl rfl ?_ | refine callW (c3) rfl wkT rfl rfl ?_ | refine goB ?_ | fail))
  exact awp_ret ⟨_, ResL.cons (ResA.tmp (.val _)) .nil, rfl⟩
 ·rw [decide_eq_false h3] at c3
  rw [show flagsD a at' = 0 by unfold flagsD; rw [if_neg h0, if_neg h1, if_neg h2, if_neg h3]]
  refine goF Tryz.func28 (closedL_cons (.val _) (closedL_cons (.val _) closedL_nil)) (fun w0 st0 => ?_)
  dsimp only [frOf]
  (repeat' (first | refine goA ?_ | refine callW (c1) rfl wkT rfl rfl ?_ | refine callW (c2) rfl wkT rfl rfl ?_ | refine callW (c3) rfl wkT rfl rfl ?_ | refine goB ?_ | fail))
  exact awp_ret ⟨_, ResL.cons (ResA.tmp (.val _)) .nil, rfl⟩
end Go.Proofs.YtfphgelollhdhaaGreat
namespace Go.Proofs.YtfphgelollhdhaaGreat
open Go Go.RowKit
open Dict (St Bs bs_eq Wd encW encWs closed_ws addD)
open Mem (Mm encM storeD closed_m)
set_option maxRecDepth 100000
attribute [local irreducible] Decidable.decide awp ARun regK toK
theorem Rl.cloL {n : Nat} {sX : AS} {f : Fn} {first first' cap cap' : List AV} (h : RlL n sX first first') (h' : RlL n sX cap cap') : Rl n sX (.clo f first cap) (.clo f first' cap') := .clo h.1 h.2 h'.1 h'.2
theorem one_cl {es : List AV} (h : ∀ x, x ∈ es → Closed x) : ∀ el x, el ∈ [es] → x ∈ el → Closed x := fun el x h1 h2 => by
 rw [List.mem_singleton.1 h1] at h2
 exact h x h2
end Go.Proofs.YtfphgelollhdhaaGreat
namespace Go.Proofs.YtfphgelollhdhaaGreat
open Go Go.RowKit
open Dict (St Bs bs_eq Wd encW encWs closed_ws encW_closed addD)
open Mem (Mm encM encBs closed_bs storeD newD freeD writeD thereD there_yes encP encP_closed closed_m)
open Stk (encS closed_s)
set_option maxRecDepth 100000
structure V where
 cf : Cf
 m : Mm
 here : Int
 d : List Int
 r : List Int
 f : List Fr
 dict : List Wd
 last : Int
 out : Bs
 pb : Bs
 po : Bool
 req : List Rq
 free : Int
 next : Int
 arg : Int
 self : Int
 now : Int
 hand : List Hn
def encV (v : V) : List AV := [.val (.int .i64 v.cf.mem), .val (.int .i64 v.cf.data), .val (.int .i64 v.cf.ret), .val (.int .i64 v.cf.words), .val (.int .i64 v.cf.out), encBs v.m.b, .sl 2 false (v.m.old.map encP), .val (.int .i64 v.here), encS v.d, encS v.r, encLFr v.f, encWs v.dict, .val (.int .i64 v.last), encBs v.out, encBs v.pb, .val (.bool v.po), encLRq v.req, .val (.int .i64 v.free), .val (.int .i64 v.next), .val (.int .i64 v.arg), .val (.int .i64 v.self), .val (.int .i64 v.now), encLHn v.hand]
theorem encV_closed (v : V) : ∀ x, x ∈ encV v → Closed x :=
 closedL_cons (.val _) (closedL_cons (.val _) (closedL_cons (.val _) (closedL_cons (.val _) (closedL_cons (.val _) (closedL_cons (closed_bs _) (closedL_cons (closed_map encP_closed) (closedL_cons (.val _) (closedL_cons (closed_s _) (closedL_cons (closed_s _) (closedL_cons (closedFr _) (closedL_cons (closed_ws _) (closedL_cons (.val _) (closedL_cons (closed_bs _) (closedL_cons (closed_bs _) (closedL_cons (.val _) (closedL_cons (closedRq _) (closedL_cons (.val _) (closedL_cons (.val _) (closedL_cons (.val _) (closedL_cons (.val _) (closedL_cons (.val _) (closedL_cons (closedHn _) closedL_nil))))))))))))))))))))))
theorem closedV (v : V) : Closed (.agg (encV v)) := .agg (encV_closed v)
def vZero : V := ⟨⟨0, 0, 0, 0, 0⟩, ⟨[], []⟩, 0, [], [], [], [], 0, [], [], false, [], 0, 0, 0, 0, 0, []⟩
def nHalt : Bs := [40, 104, 97, 108, 116, 41]
def nCaught : Bs := [40, 99, 97, 117, 103, 104, 116, 41]
def haltD (nm : Bs) (m : Mm) (a : Int) : Mm := if nm = nHalt then (storeD m 16 a).1 else if nm = nCaught then (storeD m 24 a).1 else m
def stepV (words : Int) (s : Mm × List Wd) (a : Int) (nm : Bs) (n number : Int) : Mm × List Wd := ((storeD s.1 a number).1, (addD s.2 nm a (flagsD nm n) words).1)
def newN (c : Cf) : Nat → Mm × List Wd
 | 0 => ((newD c.mem).1, [])
 | i + 1 => match nmsV[i]? with
  | some nm => (haltD nm (stepV c.words (newN c i) (32 + 8 * (i : Nat)) nm (i : Nat) (i : Nat)).1 (32 + 8 * (i : Nat)), (stepV c.words (newN c i) (32 + 8 * (i : Nat)) nm (i : Nat) (i : Nat)).2)
  | none => newN c i
def newS (c : Cf) : Nat → Mm × List Wd
 | 0 => newN c 130
 | j + 1 => match spcV[j]? with
  | some nm => stepV c.words (newS c j) (1072 + 8 * (j : Nat)) nm (12 + (j : Nat)) (300 + (j : Nat))
  | none => newS c j
open Classical in
noncomputable def newV (c : Cf) : V × Int := if FitsP c then (⟨c, freeD (storeD (newS c 37).1 0 10).1, 1368, [], [], [], (newS c 37).2, 0, [], [], false, [], 0, 0, 0, 0, 0, []⟩, 0) else (vZero, -24)
theorem newV_yes {c : Cf} (h : FitsP c) : newV c = (⟨c, freeD (storeD (newS c 37).1 0 10).1, 1368, [], [], [], (newS c 37).2, 0, [], [], false, [], 0, 0, 0, 0, 0, []⟩, 0) := by unfold newV; exact if_pos h
theorem newV_no {c : Cf} (h : ¬ FitsP c) : newV c = (vZero, -24) := by unfold newV; exact if_neg h
theorem store_len (m : Mm) (a n : Int) : (storeD m a n).1.b.length = m.b.length ∧ (storeD m a n).1.old.length ≤ m.old.length + 1 := by
 unfold storeD
 split
 ·exact ⟨rfl, Nat.le_succ _⟩
 ·unfold writeD
  split
  ·exact ⟨rfl, Nat.le_succ _⟩
  ·rename_i h1
   split
   ·exact ⟨rfl, Nat.le_succ _⟩
   ·rename_i h2
    simp only [Bool.not_eq_false] at h1
    have h3 := there_yes h1 (by
     have := List.length_pos_iff.2 h2
     omega)
    exact ⟨by dsimp only; exact overL_length (by omega), by simp⟩
end Go.Proofs.YtfphgelollhdhaaGreat
namespace Go.Proofs.YtfphgelollhdhaaGreat
open Go Go.RowKit
open Dict (St Bs bs_eq Wd encW encWs closed_ws encW_closed addD)
open Mem (Mm encM encBs closed_bs storeD newD freeD writeD thereD there_yes encP encP_closed closed_m)
open Stk (encS closed_s)
set_option maxRecDepth 100000
theorem halt_len (nm : Bs) (m : Mm) (a : Int) : (haltD nm m a).b.length = m.b.length ∧ (haltD nm m a).old.length ≤ m.old.length + 1 := by
 unfold haltD
 split
 ·exact store_len _ _ _
 ·split
  ·exact store_len _ _ _
  ·exact ⟨rfl, Nat.le_succ _⟩
theorem addD_le (l : List Wd) (name : Bs) (xt fl limit : Int) : (addD l name xt fl limit).1.length ≤ l.length + 1 := by
 unfold addD
 split
 ·exact Nat.le_succ _
 ·split
  ·exact Nat.le_succ _
  ·split
   ·exact Nat.le_succ _
   ·simp
theorem newN_len (c : Cf) : ∀ i : Nat, (newN c i).1.b.length = (newD c.mem).1.b.length ∧ (newN c i).1.old.length ≤ (newD c.mem).1.old.length + 2 * i ∧ (newN c i).2.length ≤ i
 | 0 => ⟨rfl, Nat.le_refl _, Nat.le_refl _⟩
 | i + 1 => by
  obtain ⟨h1, h2, h3⟩ := newN_len c i
  unfold newN
  split
  ·rename_i nm hnm
   unfold stepV
   have k1 := store_len (newN c i).1 (32 + 8 * (i : Nat)) (i : Nat)
   have k2 := halt_len nm (storeD (newN c i).1 (32 + 8 * (i : Nat)) (i : Nat)).1 (32 + 8 * (i : Nat))
   have k3 := addD_le (newN c i).2 nm (32 + 8 * (i : Nat)) (flagsD nm (i : Nat)) c.words
   exact ⟨by dsimp only; omega, by dsimp only; omega, by dsimp only; omega⟩
  ·exact ⟨h1, by omega, by omega⟩
theorem newS_len (c : Cf) : ∀ j : Nat, (newS c j).1.b.length = (newD c.mem).1.b.length ∧ (newS c j).1.old.length ≤ (newD c.mem).1.old.length + 260 + j ∧ (newS c j).2.length ≤ 130 + j
 | 0 => by have := newN_len c 130; exact ⟨this.1, this.2.1, this.2.2⟩
 | j + 1 => by
  obtain ⟨h1, h2, h3⟩ := newS_len c j
  unfold newS
  split
  ·rename_i nm hnm
   unfold stepV
   have k1 := store_len (newS c j).1 (1072 + 8 * (j : Nat)) (300 + (j : Nat))
   have k3 := addD_le (newS c j).2 nm (1072 + 8 * (j : Nat)) (flagsD nm (12 + (j : Nat))) c.words
   exact ⟨by dsimp only; omega, by dsimp only; omega, by dsimp only; omega⟩
  ·exact ⟨h1, by omega, by omega⟩
attribute [local irreducible] Decidable.decide awp ARun regK toK
end Go.Proofs.YtfphgelollhdhaaGreat
