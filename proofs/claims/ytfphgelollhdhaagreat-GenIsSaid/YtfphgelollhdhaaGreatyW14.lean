/- yX3, yX4, yX5, yX6, yX7. -/
import Derived.Test.YtfphgelollhdhaaGreatW1
import Derived.Test.YtfphgelollhdhaaGreatW2
import Derived.Test.YtfphgelollhdhaaGreatW3
import Derived.Test.YtfphgelollhdhaaGreatW4
import Derived.Test.YtfphgelollhdhaaGreatyW5
import Derived.Test.YtfphgelollhdhaaGreatyW6
import Derived.Test.YtfphgelollhdhaaGreatyW7
import Derived.Test.YtfphgelollhdhaaGreatyW8
import Derived.Test.YtfphgelollhdhaaGreatyW9
import Derived.Test.YtfphgelollhdhaaGreatyW10
import Derived.Test.YtfphgelollhdhaaGreatyW11
import Derived.Test.YtfphgelollhdhaaGreatyW12
import Derived.Test.YtfphgelollhdhaaGreatyW13
set_option linter.unusedVariables false
set_option linter.unusedSimpArgs false
namespace Go.Proofs.YtfphgelollhdhaaGreat
open Go Go.RowKit
open Dict (St Bs bs_eq Wd encW encWs closed_ws)
open Mem (Mm encM encBs closed_bs encP encP_closed closed_m storeD fetchD commaD)
open Stk (encS closed_s)
set_option maxRecDepth 100000
theorem idx_rng : ∀ (l : List Bs) (s : Bs) (k : Nat), -1 ≤ idxFrom l s k ∧ idxFrom l s k ≤ k + l.length
 | [], _, _ => ⟨by unfold idxFrom; omega, by unfold idxFrom; omega⟩
 | a :: l, s, k => by
  have := idx_rng l s (k + 1)
  unfold idxFrom
  split
  ·exact ⟨by omega, by omega⟩
  ·rw [List.length_cons]; exact ⟨this.1, by omega⟩
theorem idx_step {l : List Bs} {s a : Bs} {k : Nat} (h : l[k]? = some a) : idxFrom (l.drop k) s k = if s = a then (k : Int) else idxFrom (l.drop (k + 1)) s (k + 1) := by
 rw [List.drop_eq_getElem_cons (List.getElem?_eq_some_iff.1 h).1, idxFrom, (List.getElem?_eq_some_iff.1 h).2]
attribute [local irreducible] Decidable.decide awp ARun regK toK
theorem index_c (l : List Bs) (s : Bs) (hl : l.length ≤ 1000000) : FnC Tryz.prog 49 [.sl 1 false (l.map encN), St s] (.val (.int .i64 (idxFrom l s 0))) := by
 refine goF Tryz.func49 (closedL_cons (closed_ns l) (closedL_cons (.val _) closedL_nil)) (fun w0 st0 => ?_)
 dsimp only [frOf]
 (repeat' (first | refine goA ?_ | refine goB ?_ | ((fail_if_success refine ARun.plain rfl ?_); refine ARun.fork rfl rfl rfl (fun h => ?_) (fun h => ?_)) | refine awp_cond rfl (fun h => ?_) (fun h => ?_)))
 refine awp_loopT (T := Nat × Nat) (fun t => ⟨[(8, .val (.int .i64 (t.1 : Nat))), (7, .val (.int .i64 ((l.map encN).length : Nat))), (0, .sl 1 false (l.map encN)), (1, St s)], [], t.2⟩) (fun t => t.1 ≤ l.length ∧ idxFrom l s 0 = idxFrom (l.drop t.1) s t.1) (fun t => l.length - t.1) (0, _) ⟨Nat.zero_le _, rfl⟩ ⟨⟨rfl, rfl, rfl, rfl, trivial⟩, trivial, Nat.le_refl _⟩ (fun t ht => ?_)
 obtain ⟨k, gc⟩ := t
 obtain ⟨hk, hA⟩ := ht
 dsimp only at hk hA ⊢
 by_cases hlt : k < l.length
 ·have hp : l[k]? = some l[k] := List.getElem?_eq_getElem hlt
  have hc : decide (((k : Nat) : Int) < (((l.map encN).length : Nat) : Int)) = true := by simp; omega
  generalize l[k] = a at hp
  have hs := idx_step (s := s) hp
  by_cases h3 : s = a
  ·have d3 : ((ByteArray.mk s.toArray).toList == (ByteArray.mk a.toArray).toList) = true := by rw [bs_eq]; exact decide_eq_true h3
   (repeat' (first | refine goA ?_ | refine ARun.indexAddr rfl rfl (by omega) (by first | with_reducible exact get_map hp | with_reducible exact get_map hp) rfl rfl rfl rfl rfl (guardF_spec rfl) ?_ | refine goB ?_ | ((fail_if_success refine ARun.plain rfl ?_); refine ARun.fork rfl rfl rfl (fun h => ?_) (fun h => ?_)) | refine awp_cond rfl (fun h => ?_) (fun h => ?_)))
   refine awp_ret ⟨_, ResL.cons (ResA.tmp (.val _)) .nil, congrArg (fun n => AV.val (.int .i64 n)) ?_⟩
   rw [hA, hs, if_pos h3]
  ·have d3 : ((ByteArray.mk s.toArray).toList == (ByteArray.mk a.toArray).toList) = false := by rw [bs_eq]; exact decide_eq_false h3
   (repeat' (first | refine goA ?_ | refine ARun.indexAddr rfl rfl (by omega) (by first | with_reducible exact get_map hp | with_reducible exact get_map hp) rfl rfl rfl rfl rfl (guardF_spec rfl) ?_ | refine goB ?_ | ((fail_if_success refine ARun.plain rfl ?_); refine ARun.fork rfl rfl rfl (fun h => ?_) (fun h => ?_)) | refine awp_cond rfl (fun h => ?_) (fun h => ?_)))
   exact ⟨(k + 1, _), ⟨⟨succI k, rfl, rfl, rfl, trivial⟩, trivial, Nat.le_refl _⟩, ⟨hlt, by dsimp only; rw [hA, hs, if_neg h3]⟩, (by dsimp only; omega)⟩
 ·have hkk : k = l.length := by omega
  subst hkk
  have hc : decide (((l.length : Nat) : Int) < (((l.map encN).length : Nat) : Int)) = false := by simp
  (repeat' (first | refine goA ?_ | refine goB ?_ | ((fail_if_success refine ARun.plain rfl ?_); refine ARun.fork rfl rfl rfl (fun h => ?_) (fun h => ?_)) | refine awp_cond rfl (fun h => ?_) (fun h => ?_)))
  refine awp_ret ⟨_, ResL.cons (ResA.tmp (.val _)) .nil, congrArg (fun n => AV.val (.int .i64 n)) ?_⟩
  rw [hA, List.drop_length]
  rfl
end Go.Proofs.YtfphgelollhdhaaGreat
namespace Go.Proofs.YtfphgelollhdhaaGreat
open Go Go.RowKit
open Dict (St Bs bs_eq Wd encW encWs closed_ws)
open Mem (Mm encM encBs closed_bs encP encP_closed closed_m storeD fetchD commaD)
open Stk (encS closed_s)
set_option maxRecDepth 100000
def nZb : Bs := [40, 48, 98, 114, 97, 110, 99, 104, 41]
def nBr : Bs := [40, 98, 114, 97, 110, 99, 104, 41]
def nDo : Bs := [40, 100, 111, 41]
def nQdo : Bs := [40, 63, 100, 111, 41]
def nLp : Bs := [40, 108, 111, 111, 112, 41]
def nPl : Bs := [40, 43, 108, 111, 111, 112, 41]
def nUn : Bs := [85, 78, 76, 79, 79, 80]
def nLit : Bs := [40, 108, 105, 116, 41]
theorem cellD_l (w : Kw) (n : Int) : (cellD w n).l = w.l := by unfold cellD; split <;> rfl
theorem okk_cell {w : Kw} {k : Nat} (n : Int) (h : Okk w.v (k + 1)) : Okk (cellD w n).v k := by
 unfold cellD
 split
 ·exact vlay_ok _ h
 ·exact h.le (by omega)
theorem okk_store {v : V} {k : Nat} (a n : Int) (h : Okk v (k + 1)) : Okk (withMH v (storeD v.m a n).1 v.here) k := by
 have := store_len v.m a n
 have hb := h.b
 have ho := h.o
 have h0 := h.h0
 have h1 := h.h1
 exact ⟨by show (storeD v.m a n).1.b.length ≤ _; omega, by show (storeD v.m a n).1.old.length + k ≤ _; omega, h0, by show v.here ≤ ((storeD v.m a n).1.b.length : Nat); omega⟩
theorem okk_here {w : Kw} {k : Nat} (n : Int) (h : Okk w.v (k + 1)) : Okk (hereD w n).v k := by
 unfold hereD
 split
 ·exact okk_store _ _ h
 ·exact h.le (by omega)
def encVLE (r : V × List Cfr × Int) : AV := .tup [.agg (encV r.1), encLCf r.2.1, .val (.int .i64 r.2.2)]
def heresD (w : Kw) (l : List Int) : Kw := l.foldl hereD w
attribute [local irreducible] Decidable.decide awp ARun regK toK
end Go.Proofs.YtfphgelollhdhaaGreat
namespace Go.Proofs.YtfphgelollhdhaaGreat
open Go Go.RowKit
open Dict (St Bs bs_eq Wd encW encWs closed_ws)
open Mem (Mm encM encBs closed_bs encP encP_closed closed_m storeD fetchD commaD)
open Stk (encS closed_s)
set_option maxRecDepth 100000
attribute [local irreducible] Decidable.decide awp ARun regK toK
end Go.Proofs.YtfphgelollhdhaaGreat
namespace Go.Proofs.YtfphgelollhdhaaGreat
open Go Go.RowKit
open Dict (St Bs bs_eq Wd encW encWs closed_ws)
open Mem (Mm encM encBs closed_bs encP encP_closed closed_m storeD fetchD commaD)
open Stk (encS closed_s)
set_option maxRecDepth 100000
def loopFrom (l : List Cfr) : Nat → Int
 | 0 => -1
 | n + 1 => match l[n]? with
  | some c => if c.kind = 3 then (n : Int) else loopFrom l n
  | none => loopFrom l n
def loopAt (l : List Cfr) : Int := loopFrom l l.length
theorem loop_hit {l : List Cfr} {n : Nat} {c : Cfr} (h : l[n]? = some c) (hk : c.kind = 3) : loopFrom l (n + 1) = n := by
 rw [loopFrom, h]
 exact if_pos hk
theorem loop_miss {l : List Cfr} {n : Nat} {c : Cfr} (h : l[n]? = some c) (hk : c.kind ≠ 3) : loopFrom l (n + 1) = loopFrom l n := by
 rw [loopFrom, h]
 exact if_neg hk
def addLv (l : List Cfr) (i : Nat) (a : Int) : List Cfr := match l[i]? with
 | some c => l.set i ⟨c.kind, c.at', c.lv ++ [a]⟩
 | none => l
def leavesAt (l : List Cfr) (i : Int) : Nat := match l[i.toNat]? with
 | some c => c.lv.length
 | none => 0
attribute [local irreducible] Decidable.decide awp ARun regK toK
end Go.Proofs.YtfphgelollhdhaaGreat
namespace Go.Proofs.YtfphgelollhdhaaGreat
open Go Go.RowKit
open Dict (St Bs bs_eq Wd encW encWs closed_ws)
open Mem (Mm encM encBs closed_bs encP encP_closed closed_m storeD fetchD commaD)
open Stk (encS closed_s)
set_option maxRecDepth 100000
def nmC : List Bs := [[73, 70], [69, 76, 83, 69], [84, 72, 69, 78], [66, 69, 71, 73, 78], [87, 72, 73, 76, 69], [82, 69, 80, 69, 65, 84], [85, 78, 84, 73, 76], [65, 71, 65, 73, 78], [68, 79], [63, 68, 79], [76, 79, 79, 80], [43, 76, 79, 79, 80], [76, 69, 65, 86, 69]]
def OkC (c : Cfr) : Prop := (1 ≤ c.kind ∧ c.kind ≤ 3) ∧ c.lv.length ≤ 32 ∧ (c.kind = 3 ∨ c.lv.length = 0)
def RightC (l : List Cfr) : Prop := (∀ c, c ∈ l → OkC c) ∧ l.length ≤ 32
def FewC (l : List Cfr) : Prop := (∀ c, c ∈ l → c.lv.length ≤ 40) ∧ l.length ≤ 40
attribute [local irreducible] Decidable.decide awp ARun regK toK
end Go.Proofs.YtfphgelollhdhaaGreat
