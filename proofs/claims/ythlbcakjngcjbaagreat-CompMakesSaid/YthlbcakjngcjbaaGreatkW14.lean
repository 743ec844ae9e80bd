/- kX3, kX4, kX5, kX6, kX7. -/
import Derived.Test.YthlbcakjngcjbaaGreatW1
import Derived.Test.YthlbcakjngcjbaaGreatW2
import Derived.Test.YthlbcakjngcjbaaGreatW3
import Derived.Test.YthlbcakjngcjbaaGreatW4
import Derived.Test.YthlbcakjngcjbaaGreatkW5
import Derived.Test.YthlbcakjngcjbaaGreatkW6
import Derived.Test.YthlbcakjngcjbaaGreatkW7
import Derived.Test.YthlbcakjngcjbaaGreatkW8
import Derived.Test.YthlbcakjngcjbaaGreatkW9
import Derived.Test.YthlbcakjngcjbaaGreatkW10
import Derived.Test.YthlbcakjngcjbaaGreatkW11
import Derived.Test.YthlbcakjngcjbaaGreatkW12
import Derived.Test.YthlbcakjngcjbaaGreatkW13
set_option linter.unusedVariables false
set_option linter.unusedSimpArgs false
namespace Go.Proofs.YthlbcakjngcjbaaGreat
open Go Go.RowKit
open Dict (St Bs bs_eq Wd encW encWs closed_ws)
open Mem (Mm encM encBs closed_bs encP encP_closed closed_m storeD fetchD commaD)
open Stk (encS closed_s)
set_option maxRecDepth 100000
theorem idx_rng : ∀ (l : List Bs) (s : Bs) (k : Nat), -1 ≤ idxFrom l s k ∧ idxFrom l s k ≤ k + l.length
 | [], _, _ => ⟨by unfold idxFrom; omega, by unfold idxFrom; omega⟩
 | a :: l, s, k => by
  have := idx_rng l s (k + 1)
  unfold idxFrom
  split
  ·exact ⟨by omega, by omega⟩
  ·rw [List.length_cons]; exact ⟨this.1, by omega⟩
theorem idx_step {l : List Bs} {s a : Bs} {k : Nat} (h : l[k]? = some a) : idxFrom (l.drop k) s k = if s = a then (k : Int) else idxFrom (l.drop (k + 1)) s (k + 1) := by
 rw [List.drop_eq_getElem_cons (List.getElem?_eq_some_iff.1 h).1, idxFrom, (List.getElem?_eq_some_iff.1 h).2]
attribute [local irreducible] Decidable.decide awp ARun regK toK
end Go.Proofs.YthlbcakjngcjbaaGreat
namespace Go.Proofs.YthlbcakjngcjbaaGreat
open Go Go.RowKit
open Dict (St Bs bs_eq Wd encW encWs closed_ws)
open Mem (Mm encM encBs closed_bs encP encP_closed closed_m storeD fetchD commaD)
open Stk (encS closed_s)
set_option maxRecDepth 100000
theorem cellD_l (w : Kw) (n : Int) : (cellD w n).l = w.l := by unfold cellD; split <;> rfl
theorem okk_cell {w : Kw} {k : Nat} (n : Int) (h : Okk w.v (k + 1)) : Okk (cellD w n).v k := by
 unfold cellD
 split
 ·exact vlay_ok _ h
 ·exact h.le (by omega)
attribute [local irreducible] Decidable.decide awp ARun regK toK
end Go.Proofs.YthlbcakjngcjbaaGreat
namespace Go.Proofs.YthlbcakjngcjbaaGreat
open Go Go.RowKit
open Dict (St Bs bs_eq Wd encW encWs closed_ws)
open Mem (Mm encM encBs closed_bs encP encP_closed closed_m storeD fetchD commaD)
open Stk (encS closed_s)
set_option maxRecDepth 100000
attribute [local irreducible] Decidable.decide awp ARun regK toK
end Go.Proofs.YthlbcakjngcjbaaGreat
namespace Go.Proofs.YthlbcakjngcjbaaGreat
open Go Go.RowKit
open Dict (St Bs bs_eq Wd encW encWs closed_ws)
open Mem (Mm encM encBs closed_bs encP encP_closed closed_m storeD fetchD commaD)
open Stk (encS closed_s)
set_option maxRecDepth 100000
attribute [local irreducible] Decidable.decide awp ARun regK toK
end Go.Proofs.YthlbcakjngcjbaaGreat
namespace Go.Proofs.YthlbcakjngcjbaaGreat
open Go Go.RowKit
open Dict (St Bs bs_eq Wd encW encWs closed_ws)
open Mem (Mm encM encBs closed_bs encP encP_closed closed_m storeD fetchD commaD)
open Stk (encS closed_s)
set_option maxRecDepth 100000
def OkC (c : Cfr) : Prop := (1 ≤ c.kind ∧ c.kind ≤ 3) ∧ c.lv.length ≤ 32 ∧ (c.kind = 3 ∨ c.lv.length = 0)
def RightC (l : List Cfr) : Prop := (∀ c, c ∈ l → OkC c) ∧ l.length ≤ 32
def FewC (l : List Cfr) : Prop := (∀ c, c ∈ l → c.lv.length ≤ 40) ∧ l.length ≤ 40
attribute [local irreducible] Decidable.decide awp ARun regK toK
set_option maxHeartbeats 8000000 in
theorem cright_c (l : List Cfr) (hl : l.length ≤ 1000000) : FnC Tryz.prog 48 [encLCf l] (.val (.bool (pD (RightC l)))) := by
 refine goF Tryz.func48 (closedL_cons (closedLCf l) closedL_nil) (fun w0 st0 => ?_)
 dsimp only [frOf]
 (repeat' (first | refine goA ?_ | refine goB ?_ | ((fail_if_success refine ARun.plain rfl ?_); refine ARun.fork rfl rfl rfl (fun h => ?_) (fun h => ?_)) | refine awp_cond rfl (fun h => ?_) (fun h => ?_)))
 refine awp_loopT (T := Nat × Nat) (fun t => ⟨[(7, .val (.int .i64 (t.1 : Nat))), (6, .val (.int .i64 ((l.map encCf).length : Nat))), (5, encLCf l), (0, encLCf l)], [], t.2⟩) (fun t => t.1 ≤ l.length ∧ ∀ x, x ∈ l.take t.1 → OkC x) (fun t => l.length - t.1) (0, _) ⟨Nat.zero_le _, fun w h => by cases h⟩ ⟨⟨rfl, rfl, rfl, rfl, trivial⟩, trivial, Nat.le_refl _⟩ (fun t ht => ?_)
 obtain ⟨i, gc⟩ := t
 obtain ⟨hi, hA⟩ := ht
 dsimp only at hi hA ⊢
 by_cases hlt : i < l.length
 ·have hc : decide (((i : Nat) : Int) < ((l.map encCf).length : Nat)) = true := by simp; omega
  have hp : l[i]? = some l[i] := List.getElem?_eq_getElem hlt
  have hm : l[i] ∈ l := List.getElem_mem hlt
  generalize l[i] = x at hp hm
  have e1 : (((x.lv.map encI).length : Nat) : Int) = x.lv.length := by rw [List.length_map]
  have bad : ¬ OkC x → pD (RightC l) = false := fun hn => pD_no (fun h => hn (h.1 x hm))
  have hsn := fun h => mem_snocG hp hA h
  unfold OkC at bad hsn
  by_cases k1 : x.kind < 1
  ·have d1 : decide (x.kind < 1) = true := decide_eq_true k1
   rw [bad (fun h => by have := h.1.1; omega)]
   (repeat' (first | refine goA ?_ | refine ARun.indexAddr rfl rfl (by omega) (by first | with_reducible exact get_map hp | with_reducible exact get_map hp) rfl rfl rfl rfl rfl (guardF_spec rfl) ?_ | refine goB ?_ | fail))
   exact awp_ret ⟨_, ResL.cons (ResA.tmp (.val _)) .nil, rfl⟩
  have d1 : decide (x.kind < 1) = false := decide_eq_false k1
  by_cases k2 : 3 < x.kind
  ·have d2 : decide (3 < x.kind) = true := decide_eq_true k2
   rw [bad (fun h => by have := h.1.2; omega)]
   (repeat' (first | refine goA ?_ | refine ARun.indexAddr rfl rfl (by omega) (by first | with_reducible exact get_map hp | with_reducible exact get_map hp) rfl rfl rfl rfl rfl (guardF_spec rfl) ?_ | refine goB ?_ | fail))
   exact awp_ret ⟨_, ResL.cons (ResA.tmp (.val _)) .nil, rfl⟩
  have d2 : decide (3 < x.kind) = false := decide_eq_false k2
  by_cases k3 : 32 < x.lv.length
  ·have d3 : decide ((32 : Int) < (((x.lv.map encI).length : Nat) : Int)) = true := decide_eq_true (by omega)
   rw [bad (fun h => by have := h.2.1; omega)]
   (repeat' (first | refine goA ?_ | refine ARun.indexAddr rfl rfl (by omega) (by first | with_reducible exact get_map hp | with_reducible exact get_map hp) rfl rfl rfl rfl rfl (guardF_spec rfl) ?_ | refine goB ?_ | fail))
   exact awp_ret ⟨_, ResL.cons (ResA.tmp (.val _)) .nil, rfl⟩
  have d3 : decide ((32 : Int) < (((x.lv.map encI).length : Nat) : Int)) = false := decide_eq_false (by omega)
  by_cases k4 : x.kind = 3
  ·have d4 : (x.kind != 3) = false := by simp [k4]
   (repeat' (first | refine goA ?_ | refine ARun.indexAddr rfl rfl (by omega) (by first | with_reducible exact get_map hp | with_reducible exact get_map hp) rfl rfl rfl rfl rfl (guardF_spec rfl) ?_ | refine goB ?_ | fail))
   exact ⟨(i + 1, _), ⟨⟨succI i, rfl, rfl, rfl, trivial⟩, trivial, Nat.le_refl _⟩, ⟨hlt, hsn ⟨⟨by omega, by omega⟩, by omega, .inl k4⟩⟩, (by dsimp only; omega)⟩
  have d4 : (x.kind != 3) = true := by simp [k4]
  by_cases k5 : x.lv.length = 0
  ·have d5 : decide ((0 : Int) < (((x.lv.map encI).length : Nat) : Int)) = false := decide_eq_false (by omega)
   (repeat' (first | refine goA ?_ | refine ARun.indexAddr rfl rfl (by omega) (by first | with_reducible exact get_map hp | with_reducible exact get_map hp) rfl rfl rfl rfl rfl (guardF_spec rfl) ?_ | refine goB ?_ | fail))
   exact ⟨(i + 1, _), ⟨⟨succI i, rfl, rfl, rfl, trivial⟩, trivial, Nat.le_refl _⟩, ⟨hlt, hsn ⟨⟨by omega, by omega⟩, by omega, .inr k5⟩⟩, (by dsimp only; omega)⟩
  ·have d5 : decide ((0 : Int) < (((x.lv.map encI).length : Nat) : Int)) = true := decide_eq_true (by omega)
   rw [bad (fun h => by rcases h.2.2 with h | h; exact k4 h; exact k5 h)]
   (repeat' (first | refine goA ?_ | refine ARun.indexAddr rfl rfl (by omega) (by first | with_reducible exact get_map hp | with_reducible exact get_map hp) rfl rfl rfl rfl rfl (guardF_spec rfl) ?_ | refine goB ?_ | fail))
   exact awp_ret ⟨_, ResL.cons (ResA.tmp (.val _)) .nil, rfl⟩
 have hii : i = l.length := by omega
 subst hii
 have hc : decide (((l.length : Nat) : Int) < ((l.map encCf).length : Nat)) = false := by simp
 rw [List.take_length] at hA
 have e1 : (((l.map encCf).length : Nat) : Int) = l.length := by rw [List.length_map]
 (repeat' (first | refine goA ?_ | refine goB ?_ | ((fail_if_success refine ARun.plain rfl ?_); refine ARun.fork rfl rfl rfl (fun h => ?_) (fun h => ?_)) | refine awp_cond rfl (fun h => ?_) (fun h => ?_)))
 refine awp_ret ⟨_, ResL.cons (ResA.tmp (.val _)) .nil, congrArg (fun b => AV.val (.bool b)) ?_⟩
 rw [show pD (RightC l) = pD (l.length ≤ 32) from pD_congr ⟨fun h => h.2, fun h => ⟨hA, h⟩⟩, ← dec_pD]
 exact decide_eq_decide.2 (by omega)
set_option maxHeartbeats 8000000 in
theorem ref_cright_c (l : List Cfr) (hl : l.length ≤ 1000000) : FnC Tryz.prog 50 [encLCf l] (.val (.bool (pD (RightC l)))) := by
 refine goF Tryz.func50 (closedL_cons (closedLCf l) closedL_nil) (fun w0 st0 => ?_)
 dsimp only [frOf]
 (repeat' (first | refine goA ?_ | refine goB ?_ | ((fail_if_success refine ARun.plain rfl ?_); refine ARun.fork rfl rfl rfl (fun h => ?_) (fun h => ?_)) | refine awp_cond rfl (fun h => ?_) (fun h => ?_)))
 refine awp_loopT (T := Nat × Nat) (fun t => ⟨[(3, .val (.int .i64 (t.1 : Nat))), (0, encLCf l)], [], t.2⟩) (fun t => t.1 ≤ l.length ∧ ∀ x, x ∈ l.take t.1 → OkC x) (fun t => l.length - t.1) (0, _) ⟨Nat.zero_le _, fun w h => by cases h⟩ ⟨⟨rfl, rfl, trivial⟩, trivial, Nat.le_refl _⟩ (fun t ht => ?_)
 obtain ⟨i, gc⟩ := t
 obtain ⟨hi, hA⟩ := ht
 dsimp only at hi hA ⊢
 by_cases hlt : i < l.length
 ·have hc : decide (((i : Nat) : Int) < ((l.map encCf).length : Nat)) = true := by simp; omega
  have hp : l[i]? = some l[i] := List.getElem?_eq_getElem hlt
  have hm : l[i] ∈ l := List.getElem_mem hlt
  generalize l[i] = x at hp hm
  have e1 : (((x.lv.map encI).length : Nat) : Int) = x.lv.length := by rw [List.length_map]
  have bad : ¬ OkC x → pD (RightC l) = false := fun hn => pD_no (fun h => hn (h.1 x hm))
  have hsn := fun h => mem_snocG hp hA h
  unfold OkC at bad hsn
  by_cases k1 : x.kind < 1
  ·have d1 : decide (x.kind < 1) = true := decide_eq_true k1
   rw [bad (fun h => by have := h.1.1; omega)]
   (repeat' (first | refine goA ?_ | refine ARun.indexAddr rfl rfl (by omega) (by first | with_reducible exact get_map hp | with_reducible exact get_map hp) rfl rfl rfl rfl rfl (guardF_spec rfl) ?_ | refine goB ?_ | fail))
   exact awp_ret ⟨_, ResL.cons (ResA.tmp (.val _)) .nil, rfl⟩
  have d1 : decide (x.kind < 1) = false := decide_eq_false k1
  by_cases k2 : 3 < x.kind
  ·have d2 : decide (3 < x.kind) = true := decide_eq_true k2
   rw [bad (fun h => by have := h.1.2; omega)]
   (repeat' (first | refine goA ?_ | refine ARun.indexAddr rfl rfl (by omega) (by first | with_reducible exact get_map hp | with_reducible exact get_map hp) rfl rfl rfl rfl rfl (guardF_spec rfl) ?_ | refine goB ?_ | fail))
   exact awp_ret ⟨_, ResL.cons (ResA.tmp (.val _)) .nil, rfl⟩
  have d2 : decide (3 < x.kind) = false := decide_eq_false k2
  by_cases k3 : 32 < x.lv.length
  ·have d3 : decide ((32 : Int) < (((x.lv.map encI).length : Nat) : Int)) = true := decide_eq_true (by omega)
   rw [bad (fun h => by have := h.2.1; omega)]
   (repeat' (first | refine goA ?_ | refine ARun.indexAddr rfl rfl (by omega) (by first | with_reducible exact get_map hp | with_reducible exact get_map hp) rfl rfl rfl rfl rfl (guardF_spec rfl) ?_ | refine goB ?_ | fail))
   exact awp_ret ⟨_, ResL.cons (ResA.tmp (.val _)) .nil, rfl⟩
  have d3 : decide ((32 : Int) < (((x.lv.map encI).length : Nat) : Int)) = false := decide_eq_false (by omega)
  by_cases k4 : x.kind = 3
  ·have d4 : (x.kind != 3) = false := by simp [k4]
   (repeat' (first | refine goA ?_ | refine ARun.indexAddr rfl rfl (by omega) (by first | with_reducible exact get_map hp | with_reducible exact get_map hp) rfl rfl rfl rfl rfl (guardF_spec rfl) ?_ | refine goB ?_ | fail))
   exact ⟨(i + 1, _), ⟨⟨succI i, rfl, trivial⟩, trivial, Nat.le_refl _⟩, ⟨hlt, hsn ⟨⟨by omega, by omega⟩, by omega, .inl k4⟩⟩, (by dsimp only; omega)⟩
  have d4 : (x.kind != 3) = true := by simp [k4]
  by_cases k5 : x.lv.length = 0
  ·have d5 : decide ((0 : Int) < (((x.lv.map encI).length : Nat) : Int)) = false := decide_eq_false (by omega)
   (repeat' (first | refine goA ?_ | refine ARun.indexAddr rfl rfl (by omega) (by first | with_reducible exact get_map hp | with_reducible exact get_map hp) rfl rfl rfl rfl rfl (guardF_spec rfl) ?_ | refine goB ?_ | fail))
   exact ⟨(i + 1, _), ⟨⟨succI i, rfl, trivial⟩, trivial, Nat.le_refl _⟩, ⟨hlt, hsn ⟨⟨by omega, by omega⟩, by omega, .inr k5⟩⟩, (by dsimp only; omega)⟩
  ·have d5 : decide ((0 : Int) < (((x.lv.map encI).length : Nat) : Int)) = true := decide_eq_true (by omega)
   rw [bad (fun h => by rcases h.2.2 with h | h; exact k4 h; exact k5 h)]
   (repeat' (first | refine goA ?_ | refine ARun.indexAddr rfl rfl (by omega) (by first | with_reducible exact get_map hp | with_reducible exact get_map hp) rfl rfl rfl rfl rfl (guardF_spec rfl) ?_ | refine goB ?_ | fail))
   exact awp_ret ⟨_, ResL.cons (ResA.tmp (.val _)) .nil, rfl⟩
 have hii : i = l.length := by omega
 subst hii
 have hc : decide (((l.length : Nat) : Int) < ((l.map encCf).length : Nat)) = false := by simp
 rw [List.take_length] at hA
 have e1 : (((l.map encCf).length : Nat) : Int) = l.length := by rw [List.length_map]
 (repeat' (first | refine goA ?_ | refine goB ?_ | ((fail_if_success refine ARun.plain rfl ?_); refine ARun.fork rfl rfl rfl (fun h => ?_) (fun h => ?_)) | refine awp_cond rfl (fun h => ?_) (fun h => ?_)))
 refine awp_ret ⟨_, ResL.cons (ResA.tmp (.val _)) .nil, congrArg (fun b => AV.val (.bool b)) ?_⟩
 rw [show pD (RightC l) = pD (l.length ≤ 32) from pD_congr ⟨fun h => h.2, fun h => ⟨hA, h⟩⟩, ← dec_pD]
 exact decide_eq_decide.2 (by omega)
set_option maxHeartbeats 8000000 in
theorem ref_cfew_c (l : List Cfr) : FnC Tryz.prog 44 [encLCf l] (.val (.bool (pD (FewC l)))) := by
 have e1 : (((l.map encCf).length : Nat) : Int) = l.length := by rw [List.length_map]
 by_cases h0 : 40 < l.length
 ·have d0 : decide ((40 : Int) < (((l.map encCf).length : Nat) : Int)) = true := decide_eq_true (by omega)
  rw [pD_no (fun h => by have := h.2; omega)]
  refine goF Tryz.func44 (closedL_cons (closedLCf l) closedL_nil) (fun w0 st0 => ?_)
  dsimp only [frOf]
  (repeat' (first | refine goA ?_ | refine goB ?_ | ((fail_if_success refine ARun.plain rfl ?_); refine ARun.fork rfl rfl rfl (fun h => ?_) (fun h => ?_)) | refine awp_cond rfl (fun h => ?_) (fun h => ?_)))
  exact awp_ret ⟨_, ResL.cons (ResA.tmp (.val _)) .nil, rfl⟩
 have d0 : decide ((40 : Int) < (((l.map encCf).length : Nat) : Int)) = false := decide_eq_false (by omega)
 refine goF Tryz.func44 (closedL_cons (closedLCf l) closedL_nil) (fun w0 st0 => ?_)
 dsimp only [frOf]
 (repeat' (first | refine goA ?_ | refine goB ?_ | ((fail_if_success refine ARun.plain rfl ?_); refine ARun.fork rfl rfl rfl (fun h => ?_) (fun h => ?_)) | refine awp_cond rfl (fun h => ?_) (fun h => ?_)))
 refine awp_loopT (T := Nat × Nat) (fun t => ⟨[(3, .val (.int .i64 (t.1 : Nat))), (0, encLCf l)], [], t.2⟩) (fun t => t.1 ≤ l.length ∧ ∀ x, x ∈ l.take t.1 → x.lv.length ≤ 40) (fun t => l.length - t.1) (0, _) ⟨Nat.zero_le _, fun w h => by cases h⟩ ⟨⟨rfl, rfl, trivial⟩, trivial, Nat.le_refl _⟩ (fun t ht => ?_)
 obtain ⟨i, gc⟩ := t
 obtain ⟨hi, hA⟩ := ht
 dsimp only at hi hA ⊢
 by_cases hlt : i < l.length
 ·have hc : decide (((i : Nat) : Int) < ((l.map encCf).length : Nat)) = true := by simp; omega
  have hp : l[i]? = some l[i] := List.getElem?_eq_getElem hlt
  have hm : l[i] ∈ l := List.getElem_mem hlt
  generalize l[i] = x at hp hm
  have e1 : (((x.lv.map encI).length : Nat) : Int) = x.lv.length := by rw [List.length_map]
  by_cases k3 : 40 < x.lv.length
  ·have d3 : decide ((40 : Int) < (((x.lv.map encI).length : Nat) : Int)) = true := decide_eq_true (by omega)
   rw [pD_no (fun h => by have := h.1 x hm; omega)]
   (repeat' (first | refine goA ?_ | refine ARun.indexAddr rfl rfl (by omega) (by first | with_reducible exact get_map hp | with_reducible exact get_map hp) rfl rfl rfl rfl rfl (guardF_spec rfl) ?_ | refine goB ?_ | fail))
   exact awp_ret ⟨_, ResL.cons (ResA.tmp (.val _)) .nil, rfl⟩
  have d3 : decide ((40 : Int) < (((x.lv.map encI).length : Nat) : Int)) = false := decide_eq_false (by omega)
  (repeat' (first | refine goA ?_ | refine ARun.indexAddr rfl rfl (by omega) (by first | with_reducible exact get_map hp | with_reducible exact get_map hp) rfl rfl rfl rfl rfl (guardF_spec rfl) ?_ | refine goB ?_ | fail))
  exact ⟨(i + 1, _), ⟨⟨succI i, rfl, trivial⟩, trivial, Nat.le_refl _⟩, ⟨hlt, mem_snocG hp hA (by omega)⟩, (by dsimp only; omega)⟩
 have hii : i = l.length := by omega
 subst hii
 have hc : decide (((l.length : Nat) : Int) < ((l.map encCf).length : Nat)) = false := by simp
 rw [List.take_length] at hA
 rw [pD_yes ⟨hA, by omega⟩]
 (repeat' (first | refine goA ?_ | refine goB ?_ | ((fail_if_success refine ARun.plain rfl ?_); refine ARun.fork rfl rfl rfl (fun h => ?_) (fun h => ?_)) | refine awp_cond rfl (fun h => ?_) (fun h => ?_)))
 exact awp_ret ⟨_, ResL.cons (ResA.tmp (.val _)) .nil, rfl⟩
end Go.Proofs.YthlbcakjngcjbaaGreat
