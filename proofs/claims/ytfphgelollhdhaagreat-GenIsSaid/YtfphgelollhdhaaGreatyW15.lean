/- yX8, yX9, yX10, yX11, yX12. -/
import Derived.Test.YtfphgelollhdhaaGreatW1
import Derived.Test.YtfphgelollhdhaaGreatW2
import Derived.Test.YtfphgelollhdhaaGreatW3
import Derived.Test.YtfphgelollhdhaaGreatW4
import Derived.Test.YtfphgelollhdhaaGreatyW5
import Derived.Test.YtfphgelollhdhaaGreatyW6
import Derived.Test.YtfphgelollhdhaaGreatyW7
import Derived.Test.YtfphgelollhdhaaGreatyW8
import Derived.Test.YtfphgelollhdhaaGreatyW9
import Derived.Test.YtfphgelollhdhaaGreatyW10
import Derived.Test.YtfphgelollhdhaaGreatyW11
import Derived.Test.YtfphgelollhdhaaGreatyW12
import Derived.Test.YtfphgelollhdhaaGreatyW13
import Derived.Test.YtfphgelollhdhaaGreatyW14
set_option linter.unusedVariables false
set_option linter.unusedSimpArgs false
namespace Go.Proofs.YtfphgelollhdhaaGreat
open Go Go.RowKit
open Dict (St Bs bs_eq Wd encW encWs closed_ws)
open Mem (Mm encM encBs closed_bs encP encP_closed closed_m storeD fetchD commaD)
open Stk (encS closed_s)
set_option maxRecDepth 100000
theorem Cfr.ext' {a b : Cfr} (h1 : a.kind = b.kind) (h2 : a.at' = b.at') (h3 : a.lv = b.lv) : a = b := by
 cases a
 cases b
 simp only at h1 h2 h3
 subst h1 h2 h3
 rfl
attribute [local irreducible] Decidable.decide awp ARun regK toK
end Go.Proofs.YtfphgelollhdhaaGreat
namespace Go.Proofs.YtfphgelollhdhaaGreat
open Go Go.RowKit
open Go.Proofs.YtfphgelollhdhaaGreat.Dict (St Bs bs_eq Wd encW encWs closed_ws)
open Go.Proofs.YtfphgelollhdhaaGreat.Mem (Mm encM encBs closed_bs encP encP_closed closed_m storeD fetchD commaD alignD enc3m)
open Go.Proofs.YtfphgelollhdhaaGreat.Stk (encS closed_s)
set_option maxRecDepth 100000
attribute [local irreducible] Decidable.decide awp ARun regK toK
end Go.Proofs.YtfphgelollhdhaaGreat
namespace Go.Proofs.YtfphgelollhdhaaGreat
open Go Go.RowKit
open Go.Proofs.YtfphgelollhdhaaGreat.Dict (St Bs bs_eq Wd encW encWs closed_ws)
open Go.Proofs.YtfphgelollhdhaaGreat.Mem (Mm encM encBs closed_bs encP encP_closed closed_m storeD fetchD commaD alignD enc3m)
open Go.Proofs.YtfphgelollhdhaaGreat.Stk (encS closed_s)
set_option maxRecDepth 100000
def litK (v : V) (n : Int) : Kw := cellD (cellD ⟨v, [], 0⟩ (xtD nLit)) n
def outD (w : Kw) (v : V) : V × Int := if w.bad = 0 then (w.v, 0) else (v, w.bad)
attribute [local irreducible] Decidable.decide awp ARun regK toK
end Go.Proofs.YtfphgelollhdhaaGreat
namespace Go.Proofs.YtfphgelollhdhaaGreat
open Go Go.RowKit
open Go.Proofs.YtfphgelollhdhaaGreat.Dict (St Bs bs_eq Wd encW encWs closed_ws)
open Go.Proofs.YtfphgelollhdhaaGreat.Mem (Mm encM encBs closed_bs encP encP_closed closed_m storeD fetchD commaD alignD enc3m writeD)
open Go.Proofs.YtfphgelollhdhaaGreat.Stk (encS closed_s encI_closed)
set_option maxRecDepth 100000
theorem cellD_bad {w : Kw} (h : w.bad ≠ 0) (n : Int) : cellD w n = w := if_neg h
theorem hereD_bad {w : Kw} (h : w.bad ≠ 0) (n : Int) : hereD w n = w := if_neg h
theorem cells_bad {w : Kw} (h : w.bad ≠ 0) : ∀ l : List Int, l.foldl cellD w = w
 | [] => rfl
 | a :: l => by rw [List.foldl_cons, cellD_bad h, cells_bad h l]
theorem heres_bad {w : Kw} (h : w.bad ≠ 0) : ∀ l : List Int, heresD w l = w
 | [] => rfl
 | a :: l => by
  show heresD (hereD w a) l = w
  rw [hereD_bad h, heres_bad h l]
theorem store_code (m : Mm) (a n : Int) (h : (storeD m a n).2 ≠ 0) : (storeD m a n).1 = m := by
 unfold storeD at h ⊢
 split
 ·rfl
 ·rename_i h1
  rw [if_neg h1] at h
  unfold writeD at h ⊢
  split
  ·rfl
  ·rename_i h2
   rw [if_neg h2] at h
   split at h
   ·exact absurd rfl h
   ·exact absurd rfl h
theorem withMH_id (v : V) : withMH v v.m v.here = v := by cases v; rfl
def wk0 (v : V) : Kw := ⟨v, [], 0⟩
def lastK (l : List Cfr) (n : Nat) : Int := if l.length ≤ n then 0 else (l[l.length - 1 - n]?.getD cf0).kind
attribute [local irreducible] Decidable.decide awp ARun regK toK
theorem number_c (s : Bs) : FnC Tryz.prog 23 [St s] (.val (.int .i64 (idxFrom nmsV s 0))) := by
 have c1 := ref_names_c
 have hl := len_nms
 rw [List.length_map] at hl
 generalize nmsV = l at *
 refine goF Tryz.func23 (closedL_cons (.val _) closedL_nil) (fun w0 st0 => ?_)
 dsimp only [frOf]
 (repeat' (first | refine goA ?_ | refine cX c1 ?_ | refine goB ?_ | ((fail_if_success refine ARun.plain rfl ?_); refine ARun.fork rfl rfl rfl (fun h => ?_) (fun h => ?_)) | refine awp_cond rfl (fun h => ?_) (fun h => ?_)))
 refine awp_loopT (T := Nat × Nat) (fun t => ⟨[(4, .val (.int .i64 (t.1 : Nat))), (3, .sl 1 true (l.map encN)), (0, St s)], [], t.2⟩) (fun t => t.1 ≤ l.length ∧ idxFrom l s 0 = idxFrom (l.drop t.1) s t.1) (fun t => l.length - t.1) (0, _) ⟨Nat.zero_le _, rfl⟩ ⟨⟨rfl, rfl, rfl, trivial⟩, trivial, Nat.le_refl _⟩ (fun t ht => ?_)
 obtain ⟨k, gc⟩ := t
 obtain ⟨hk, hA⟩ := ht
 dsimp only at hk hA ⊢
 by_cases hlt : k < l.length
 ·have hp : l[k]? = some l[k] := List.getElem?_eq_getElem hlt
  have hc : decide (((k : Nat) : Int) < (((l.map encN).length : Nat) : Int)) = true := by simp; omega
  generalize l[k] = a at hp
  have hs := idx_step (s := s) hp
  by_cases h3 : s = a
  ·have d3 : ((ByteArray.mk a.toArray).toList == (ByteArray.mk s.toArray).toList) = true := by rw [bs_eq]; exact decide_eq_true h3.symm
   (repeat' (first | refine goA ?_ | refine ARun.indexAddr rfl rfl (by omega) (by first | with_reducible exact get_map hp | with_reducible exact get_map hp) rfl rfl rfl rfl rfl (guardF_spec rfl) ?_ | refine goB ?_ | ((fail_if_success refine ARun.plain rfl ?_); refine ARun.fork rfl rfl rfl (fun h => ?_) (fun h => ?_)) | refine awp_cond rfl (fun h => ?_) (fun h => ?_)))
   refine awp_ret ⟨_, ResL.cons (ResA.tmp (.val _)) .nil, congrArg (fun b => AV.val (.int .i64 b)) ?_⟩
   rw [hA, hs, if_pos h3]
  ·have d3 : ((ByteArray.mk a.toArray).toList == (ByteArray.mk s.toArray).toList) = false := by rw [bs_eq]; exact decide_eq_false (fun e => h3 e.symm)
   (repeat' (first | refine goA ?_ | refine ARun.indexAddr rfl rfl (by omega) (by first | with_reducible exact get_map hp | with_reducible exact get_map hp) rfl rfl rfl rfl rfl (guardF_spec rfl) ?_ | refine goB ?_ | ((fail_if_success refine ARun.plain rfl ?_); refine ARun.fork rfl rfl rfl (fun h => ?_) (fun h => ?_)) | refine awp_cond rfl (fun h => ?_) (fun h => ?_)))
   exact ⟨(k + 1, _), ⟨⟨succI k, rfl, rfl, trivial⟩, trivial, Nat.le_refl _⟩, ⟨hlt, by dsimp only; rw [hA, hs, if_neg h3]⟩, (by dsimp only; omega)⟩
 ·have hkk : k = l.length := by omega
  subst hkk
  have hc : decide (((l.length : Nat) : Int) < (((l.map encN).length : Nat) : Int)) = false := by simp
  (repeat' (first | refine goA ?_ | refine goB ?_ | ((fail_if_success refine ARun.plain rfl ?_); refine ARun.fork rfl rfl rfl (fun h => ?_) (fun h => ?_)) | refine awp_cond rfl (fun h => ?_) (fun h => ?_)))
  refine awp_ret ⟨_, ResL.cons (ResA.tmp (.val _)) .nil, congrArg (fun b => AV.val (.int .i64 b)) ?_⟩
  rw [hA, List.drop_length]
  rfl
theorem ref_xt_c (s : Bs) : FnC Tryz.prog 11 [St s] (.val (.int .i64 (xtD s))) := by
 have c1 := number_c s
 have hl := len_nms
 rw [List.length_map] at hl
 have hr := idx_rng nmsV s 0
 unfold xtD
 generalize idxFrom nmsV s 0 = n at *
 refine goF Tryz.func11 (closedL_cons (.val _) closedL_nil) (fun w0 st0 => ?_)
 dsimp only [frOf]
 (repeat' (first | refine goA ?_ | refine cX c1 ?_ | refine goB ?_ | ((fail_if_success refine ARun.plain rfl ?_); refine ARun.fork rfl rfl rfl (fun h => ?_) (fun h => ?_)) | refine awp_cond rfl (fun h => ?_) (fun h => ?_)))
 exact awp_ret ⟨_, ResL.cons (ResA.tmp (.val _)) .nil, rfl⟩
theorem ref_last_c (l : List Cfr) (n : Nat) (hl : l.length ≤ 1000000) (hn : n ≤ 1000) : FnC Tryz.prog 114 [encLCf l, .val (.int .i64 (n : Nat))] (.val (.int .i64 (lastK l n))) := by
 have e0 : (((l.map encCf).length : Nat) : Int) = l.length := by rw [List.length_map]
 unfold lastK
 by_cases h : l.length ≤ n
 ·have d : decide ((((l.map encCf).length : Nat) : Int) ≤ (n : Nat)) = true := decide_eq_true (by omega)
  rw [if_pos h]
  refine goF Tryz.func114 (closedL_cons (closedLCf l) (closedL_cons (.val _) closedL_nil)) (fun w0 st0 => ?_)
  dsimp only [frOf]
  (repeat' (first | refine goA ?_ | refine goB ?_ | fail))
  exact awp_ret ⟨_, ResL.cons (ResA.tmp (.val _)) .nil, rfl⟩
 ·have d : decide ((((l.map encCf).length : Nat) : Int) ≤ (n : Nat)) = false := decide_eq_false (by omega)
  rw [if_neg h]
  have hp : l[l.length - 1 - n]? = some l[l.length - 1 - n] := List.getElem?_eq_getElem (by omega)
  generalize l[l.length - 1 - n]'_ = c at hp
  rw [hp]
  have hq : (l.map encCf)[((((l.map encCf).length : Nat) : Int) - 1 - (n : Nat)).toNat]? = some (encCf c) := by
   rw [e0, List.getElem?_map, show ((l.length : Int) - 1 - (n : Nat)).toNat = l.length - 1 - n by omega, hp]
   rfl
  refine goF Tryz.func114 (closedL_cons (closedLCf l) (closedL_cons (.val _) closedL_nil)) (fun w0 st0 => ?_)
  dsimp only [frOf]
  (repeat' (first | refine goA ?_ | refine ARun.indexAddr rfl rfl (by omega) (by with_reducible exact hq) rfl rfl rfl rfl rfl (guardF_spec rfl) ?_ | refine goB ?_ | fail))
  exact awp_ret ⟨_, ResL.cons (ResA.tmp (.val _)) .nil, rfl⟩
theorem ref_loop_c (l : List Cfr) (hl : l.length ≤ 1000000) : FnC Tryz.prog 100 [encLCf l] (.val (.int .i64 (loopAt l))) := by
 have e0 : (((l.map encCf).length : Nat) : Int) = l.length := by rw [List.length_map]
 refine goF Tryz.func100 (closedL_cons (closedLCf l) closedL_nil) (fun w0 st0 => ?_)
 dsimp only [frOf]
 (repeat' (first | refine goA ?_ | refine goB ?_ | ((fail_if_success refine ARun.plain rfl ?_); refine ARun.fork rfl rfl rfl (fun h => ?_) (fun h => ?_)) | refine awp_cond rfl (fun h => ?_) (fun h => ?_)))
 refine awp_loopT (T := Nat × Nat) (fun t => ⟨[(3, .val (.int .i64 ((t.1 : Nat) - 1 : Int))), (0, encLCf l)], [], t.2⟩) (fun t => t.1 ≤ l.length ∧ loopAt l = loopFrom l t.1) (fun t => t.1) ((l.map encCf).length, _) ⟨by dsimp only; omega, by dsimp only; rw [List.length_map]; rfl⟩ ⟨⟨rfl, rfl, trivial⟩, trivial, Nat.le_refl _⟩ (fun t ht => ?_)
 obtain ⟨t, gc⟩ := t
 obtain ⟨ht, hA⟩ := ht
 dsimp only at ht hA ⊢
 rw [hA]
 cases t with
 | zero =>
  rw [show (((0 : Nat)) : Int) - 1 = -1 from rfl]
  have d1 : decide ((0 : Int) ≤ -1) = false := decide_eq_false (by omega)
  (repeat' (first | refine goA ?_ | refine goB ?_ | fail))
  exact awp_ret ⟨_, ResL.cons (ResA.tmp (.val _)) .nil, rfl⟩
 | succ k =>
  rw [show (((k + 1 : Nat)) : Int) - 1 = (k : Int) by omega]
  have d1 : decide ((0 : Int) ≤ ((k : Nat) : Int)) = true := decide_eq_true (by omega)
  have hp : l[k]? = some l[k] := List.getElem?_eq_getElem (by omega)
  generalize l[k] = c at hp
  by_cases hk : c.kind = 3
  case neg =>
   have d3 : (c.kind == 3) = false := by simp [hk]
   (repeat' (first | refine goA ?_ | refine ARun.indexAddr rfl rfl (by omega) (by first | with_reducible exact get_map hp | with_reducible exact get_map hp) rfl rfl rfl rfl rfl (guardF_spec rfl) ?_ | refine goB ?_ | fail))
   exact ⟨(k, _), ⟨⟨rfl, rfl, trivial⟩, trivial, Nat.le_refl _⟩, ⟨by dsimp only; omega, by dsimp only; rw [loop_miss hp hk]⟩, by dsimp only; omega⟩
  have d3 : (c.kind == 3) = true := by simp [hk]
  rw [loop_hit hp hk]
  (repeat' (first | refine goA ?_ | refine ARun.indexAddr rfl rfl (by omega) (by first | with_reducible exact get_map hp | with_reducible exact get_map hp) rfl rfl rfl rfl rfl (guardF_spec rfl) ?_ | refine goB ?_ | fail))
  exact awp_ret ⟨_, ResL.cons (ResA.tmp (.val _)) .nil, rfl⟩
theorem ref_with_c (l : List Cfr) (k : Nat) (more : List Cfr) (hk : k ≤ l.length) (hl : l.length ≤ 100000) (hm : more.length ≤ 100000) : FnC Tryz.prog 99 [encLCf l, .val (.int .i64 (k : Nat)), encLCf more] (encLCf (l.take (l.length - k) ++ more)) := by
 have e0 : (((l.map encCf).length : Nat) : Int) = l.length := by rw [List.length_map]
 have e1 : ((((l.take (l.length - k)).map encCf).length : Nat) : Int) = l.length - k := by rw [List.length_map, List.length_take]; omega
 have e2 : (more.map encCf).length = more.length := by rw [List.length_map]
 have he : l.map encCf = (l.take (l.length - k)).map encCf ++ (l.drop (l.length - k)).map encCf := by rw [← List.map_append, List.take_append_drop]
 rw [show encLCf (l.take (l.length - k) ++ more) = .sl 3 false ((l.take (l.length - k)).map encCf ++ more.map encCf) by unfold encLCf; rw [List.map_append]]
 refine goF Tryz.func99 (closedL_cons (closedLCf l) (closedL_cons (.val _) (closedL_cons (closedLCf more) closedL_nil))) (fun w0 st0 => ?_)
 dsimp only [frOf]
 (repeat' (first | refine goA ?_ | refine ARun.sliceTo rfl he rfl lensT rfl rfl rfl rfl rfl (guardF_spec rfl) ?_ | refine appF rfl ?_ | refine appO rfl ?_ | refine goB ?_ | fail))
 exact awp_ret ⟨_, ResL.cons (ResA.tmp (.owned rfl rfl rfl (by
  intro el x hel hx
  simp only [List.nil_append, List.mem_append, List.mem_map] at hel
  rcases hel with ⟨c, _, rfl⟩ | ⟨c, _, rfl⟩ <;> exact encCf_closed c x hx))) .nil, rfl⟩
end Go.Proofs.YtfphgelollhdhaaGreat
namespace Go.Proofs.YtfphgelollhdhaaGreat
open Go Go.RowKit
open Go.Proofs.YtfphgelollhdhaaGreat.Dict (St Bs bs_eq Wd encW encWs closed_ws)
open Go.Proofs.YtfphgelollhdhaaGreat.Mem (Mm encM encBs closed_bs encP encP_closed closed_m storeD fetchD commaD alignD enc3m enc2m writeD)
open Go.Proofs.YtfphgelollhdhaaGreat.Stk (encS closed_s encI_closed)
set_option maxRecDepth 100000
def cellsK (v : V) (l : List Int) : Kw := l.foldl cellD (wk0 v)
def storK (v : V) (l : List Int) : Kw := heresD (wk0 v) l
theorem foldl_split {α β : Type} (f : α → β → α) (a : α) (l : List β) (k : Nat) : l.foldl f a = (l.drop k).foldl f ((l.take k).foldl f a) := by
 rw [← List.foldl_append, List.take_append_drop]
theorem foldl_take_succ {α β : Type} (f : α → β → α) (a : α) {l : List β} {k : Nat} {x : β} (h : l[k]? = some x) : (l.take (k + 1)).foldl f a = f ((l.take k).foldl f a) x := by
 rw [List.take_add_one, h, List.foldl_append]
 rfl
theorem cells_okk {w : Kw} {k : Nat} : ∀ (l : List Int), Okk w.v (k + l.length) → Okk (l.foldl cellD w).v k := fun l => by
 induction l generalizing w with
 | nil => exact fun h => h
 | cons a l ih => exact fun h => ih (w := cellD w a) (okk_cell a (by rw [List.length_cons] at h; exact h.le (by omega)))
attribute [local irreducible] Decidable.decide awp ARun regK toK
set_option maxHeartbeats 8000000 in
theorem ref_cells_c (v : V) (l : List Int) (hl : l.length ≤ 1000) (h : Okk v l.length) : FnC Tryz.prog 95 [.agg (encV v), encS l] (encVE (outD (cellsK v l) v)) := by
 have e0 : (((l.map encI).length : Nat) : Int) = l.length := by rw [List.length_map]
 refine goF Tryz.func95 (closedL_cons (closedV v) (closedL_cons (closed_s l) closedL_nil)) (fun w0 st0 => ?_)
 dsimp only [frOf]
 (repeat' (first | refine goA ?_ | refine goB ?_ | ((fail_if_success refine ARun.plain rfl ?_); refine ARun.fork rfl rfl rfl (fun h => ?_) (fun h => ?_)) | refine awp_cond rfl (fun h => ?_) (fun h => ?_)))
 refine awp_loopT (T := Nat × Nat) (fun t => ⟨[(7, .val (.int .i64 (t.1 : Nat))), (2, .ptr 2 0 0 0), (4, .ptr 4 1 0 0), (6, .ptr 6 4 0 0), (1, encS l)], [(2, some ⟨0, 23, [encV v]⟩), (4, some ⟨1, 23, [[.val (.int .i64 0), .val (.int .i64 0), .val (.int .i64 0), .val (.int .i64 0), .val (.int .i64 0), .sl 0 true [], .sl 0 true [], .val (.int .i64 0), .sl 0 true [], .sl 0 true [], .sl 0 true [], .sl 0 true [], .val (.int .i64 0), .sl 0 true [], .sl 0 true [], .val (.bool false), .sl 0 true [], .val (.int .i64 0), .val (.int .i64 0), .val (.int .i64 0), .val (.int .i64 0), .val (.int .i64 0), .sl 0 true []]]⟩), (6, some ⟨4, 23, [encV ((l.take t.1).foldl cellD (wk0 v)).v]⟩)], t.2⟩) (fun t => t.1 ≤ l.length ∧ ((l.take t.1).foldl cellD (wk0 v)).bad = 0 ∧ Okk ((l.take t.1).foldl cellD (wk0 v)).v (l.length - t.1)) (fun t => l.length - t.1) (0, _) ⟨Nat.zero_le _, rfl, h⟩ ⟨⟨rfl, rfl, rfl, rfl, rfl, trivial⟩, ⟨rfl, rfl, rfl, trivial⟩, Nat.le_refl _⟩ (fun t ht => ?_)
 obtain ⟨k, gc⟩ := t
 obtain ⟨hk, hA, hO⟩ := ht
 dsimp only at hk hA hO ⊢
 by_cases hlt : k < l.length
 ·have hc : decide (((k : Nat) : Int) < ((l.map encI).length : Nat)) = true := decide_eq_true (by omega)
  have hp : l[k]? = some l[k] := List.getElem?_eq_getElem hlt
  generalize l[k] = x at hp
  have hs := foldl_take_succ cellD (wk0 v) hp
  have hz := foldl_split cellD (wk0 v) l (k + 1)
  rw [hs] at hz
  have hO1 : Okk ((l.take k).foldl cellD (wk0 v)).v (l.length - (k + 1) + 1) := by rw [show l.length - (k + 1) + 1 = l.length - k by omega]; exact hO
  have hok := okk_cell x hO1
  generalize (l.take k).foldl cellD (wk0 v) = w at *
  have c1 := ref_vlay_c w.v x (hO1.le (by omega))
  have ew : cellD w x = ⟨(vlayD w.v x).1, w.l, (vlayD w.v x).2⟩ := if_pos hA
  unfold encVE at c1 ⊢
  by_cases hb : (vlayD w.v x).2 = 0
  ·have d : ((vlayD w.v x).2 != 0) = false := by simp [hb]
   rw [ew] at hs hok
   generalize vlayD w.v x = p at *
   (repeat' (first | refine goA ?_ | refine ARun.indexAddr rfl rfl (by omega) (by first | with_reducible exact get_map hp | with_reducible exact get_map hp) rfl rfl rfl rfl rfl (guardF_spec rfl) ?_ | refine cX c1 ?_ | refine goB ?_ | fail))
   refine ⟨(k + 1, _), ⟨⟨succI k, rfl, rfl, rfl, rfl, trivial⟩, ⟨rfl, rfl, ?_, trivial⟩, Nat.le_refl _⟩, ⟨hlt, by dsimp only; rw [hs]; exact hb, by dsimp only; rw [hs]; exact hok⟩, (by dsimp only; omega)⟩
   dsimp only
   rw [hs]
   rfl
  ·have d : ((vlayD w.v x).2 != 0) = true := by simp [hb]
   have hzz : outD (cellsK v l) v = (v, (vlayD w.v x).2) := by
    unfold cellsK
    rw [hz, cells_bad (by rw [ew]; exact hb), ew]
    exact if_neg hb
   rw [hzz]
   generalize vlayD w.v x = p at *
   (repeat' (first | refine goA ?_ | refine ARun.indexAddr rfl rfl (by omega) (by first | with_reducible exact get_map hp | with_reducible exact get_map hp) rfl rfl rfl rfl rfl (guardF_spec rfl) ?_ | refine cX c1 ?_ | refine goB ?_ | fail))
   exact awp_ret ⟨_, ResL.cons (ResA.agg rfl rfl rfl rfl rfl rfl rfl (RL.allClosed (encV_closed _))) (ResL.cons (ResA.tmp (.val _)) .nil), rfl⟩
 ·have hkk : k = l.length := by omega
  subst hkk
  have hc : decide (((l.length : Nat) : Int) < ((l.map encI).length : Nat)) = false := decide_eq_false (by omega)
  rw [List.take_length] at hA ⊢
  have hzz : outD (cellsK v l) v = ((l.foldl cellD (wk0 v)).v, 0) := if_pos hA
  rw [hzz]
  unfold encVE
  (repeat' (first | refine goA ?_ | refine goB ?_ | fail))
  exact awp_ret ⟨_, ResL.cons (ResA.agg rfl rfl rfl rfl rfl rfl rfl (RL.allClosed (encV_closed _))) (ResL.cons (ResA.tmp (.val _)) .nil), rfl⟩
set_option maxHeartbeats 8000000 in
theorem ref_stored_c (v : V) (l : List Int) (hl : l.length ≤ 1000) (h : Okk v l.length) : FnC Tryz.prog 101 [.agg (encV v), encS l] (encVE ((storK v l).v, (storK v l).bad)) := by
 have e0 : (((l.map encI).length : Nat) : Int) = l.length := by rw [List.length_map]
 refine goF Tryz.func101 (closedL_cons (closedV v) (closedL_cons (closed_s l) closedL_nil)) (fun w0 st0 => ?_)
 dsimp only [frOf]
 (repeat' (first | refine goA ?_ | refine goB ?_ | ((fail_if_success refine ARun.plain rfl ?_); refine ARun.fork rfl rfl rfl (fun h => ?_) (fun h => ?_)) | refine awp_cond rfl (fun h => ?_) (fun h => ?_)))
 refine awp_loopT (T := Nat × Nat) (fun t => ⟨[(6, .val (.int .i64 (t.1 : Nat))), (2, .ptr 2 0 0 0), (4, .ptr 4 1 0 0), (1, encS l)], [(2, some ⟨0, 23, [encV ((l.take t.1).foldl hereD (wk0 v)).v]⟩), (4, some ⟨1, 23, [[.val (.int .i64 0), .val (.int .i64 0), .val (.int .i64 0), .val (.int .i64 0), .val (.int .i64 0), .sl 0 true [], .sl 0 true [], .val (.int .i64 0), .sl 0 true [], .sl 0 true [], .sl 0 true [], .sl 0 true [], .val (.int .i64 0), .sl 0 true [], .sl 0 true [], .val (.bool false), .sl 0 true [], .val (.int .i64 0), .val (.int .i64 0), .val (.int .i64 0), .val (.int .i64 0), .val (.int .i64 0), .sl 0 true []]]⟩)], t.2⟩) (fun t => t.1 ≤ l.length ∧ ((l.take t.1).foldl hereD (wk0 v)).bad = 0 ∧ Okk ((l.take t.1).foldl hereD (wk0 v)).v (l.length - t.1)) (fun t => l.length - t.1) (0, _) ⟨Nat.zero_le _, rfl, h⟩ ⟨⟨rfl, rfl, rfl, rfl, trivial⟩, ⟨rfl, rfl, trivial⟩, Nat.le_refl _⟩ (fun t ht => ?_)
 obtain ⟨k, gc⟩ := t
 obtain ⟨hk, hA, hO⟩ := ht
 dsimp only at hk hA hO ⊢
 by_cases hlt : k < l.length
 ·have hc : decide (((k : Nat) : Int) < ((l.map encI).length : Nat)) = true := decide_eq_true (by omega)
  have hp : l[k]? = some l[k] := List.getElem?_eq_getElem hlt
  generalize l[k] = x at hp
  have hs := foldl_take_succ hereD (wk0 v) hp
  have hz := foldl_split hereD (wk0 v) l (k + 1)
  rw [hs] at hz
  have hO1 : Okk ((l.take k).foldl hereD (wk0 v)).v (l.length - (k + 1) + 1) := by rw [show l.length - (k + 1) + 1 = l.length - k by omega]; exact hO
  have hok := okk_here x hO1
  generalize (l.take k).foldl hereD (wk0 v) = w at *
  have c1 := Mem.ref_store_c w.v.m x w.v.here hO1.b (by have := hO1.o; omega)
  simp only [enc2m] at c1
  have ew : hereD w x = ⟨withMH w.v (storeD w.v.m x w.v.here).1 w.v.here, w.l, (storeD w.v.m x w.v.here).2⟩ := if_pos hA
  have hcd := store_code w.v.m x w.v.here
  unfold encVE
  by_cases hb : (storeD w.v.m x w.v.here).2 = 0
  ·have d : ((storeD w.v.m x w.v.here).2 != 0) = false := by simp [hb]
   rw [ew] at hs hok
   generalize storeD w.v.m x w.v.here = p at *
   (repeat' (first | refine goA ?_ | refine ARun.indexAddr rfl rfl (by omega) (by first | with_reducible exact get_map hp | with_reducible exact get_map hp) rfl rfl rfl rfl rfl (guardF_spec rfl) ?_ | refine cX c1 ?_ | refine goB ?_ | fail))
   refine ⟨(k + 1, _), ⟨⟨succI k, rfl, rfl, rfl, trivial⟩, ⟨?_, rfl, trivial⟩, Nat.le_refl _⟩, ⟨hlt, by dsimp only; rw [hs]; exact hb, by dsimp only; rw [hs]; exact hok⟩, (by dsimp only; omega)⟩
   dsimp only
   rw [hs]
   rfl
  ·have d : ((storeD w.v.m x w.v.here).2 != 0) = true := by simp [hb]
   have hzz : storK v l = ⟨w.v, w.l, (storeD w.v.m x w.v.here).2⟩ := by
    unfold storK
    show l.foldl hereD (wk0 v) = _
    rw [hz]
    show heresD (hereD w x) _ = _
    rw [heres_bad (by rw [ew]; exact hb), ew, hcd hb, withMH_id]
   rw [hzz]
   generalize storeD w.v.m x w.v.here = p at *
   (repeat' (first | refine goA ?_ | refine ARun.indexAddr rfl rfl (by omega) (by first | with_reducible exact get_map hp | with_reducible exact get_map hp) rfl rfl rfl rfl rfl (guardF_spec rfl) ?_ | refine cX c1 ?_ | refine goB ?_ | fail))
   exact awp_ret ⟨_, ResL.cons (ResA.agg rfl rfl rfl rfl rfl rfl rfl (RL.allClosed (encV_closed _))) (ResL.cons (ResA.tmp (.val _)) .nil), rfl⟩
 ·have hkk : k = l.length := by omega
  subst hkk
  have hc : decide (((l.length : Nat) : Int) < ((l.map encI).length : Nat)) = false := decide_eq_false (by omega)
  rw [List.take_length] at hA ⊢
  have hzz : ((storK v l).v, (storK v l).bad) = ((l.foldl hereD (wk0 v)).v, 0) := by rw [show storK v l = l.foldl hereD (wk0 v) from rfl, hA]
  rw [hzz]
  unfold encVE
  (repeat' (first | refine goA ?_ | refine goB ?_ | fail))
  exact awp_ret ⟨_, ResL.cons (ResA.agg rfl rfl rfl rfl rfl rfl rfl (RL.allClosed (encV_closed _))) (ResL.cons (ResA.tmp (.val _)) .nil), rfl⟩
set_option maxHeartbeats 8000000 in
theorem ref_lit_c (v : V) (n : Int) (h : Okk v 2) : FnC Tryz.prog 73 [.agg (encV v), .val (.int .i64 n)] (encVE (outD (litK v n) v)) := by
 have c1 := ref_xt_c nLit
 have c2 := ref_cells_c v [xtD nLit, n] (by simp) h
 rw [show litK v n = cellsK v [xtD nLit, n] from rfl]
 generalize outD (cellsK v [xtD nLit, n]) v = p at *
 unfold encVE at c2 ⊢
 generalize xtD nLit = x at *
 refine goF Tryz.func73 (closedL_cons (closedV v) (closedL_cons (.val _) closedL_nil)) (fun w0 st0 => ?_)
 dsimp only [frOf]
 (repeat' (first | refine goA ?_ | refine cX c1 ?_ | refine callW (c2) rfl wkT rfl rfl ?_ | refine goB ?_ | fail))
 exact awp_ret ⟨_, ResL.cons (ResA.agg rfl rfl rfl rfl rfl rfl rfl (RL.allClosed (encV_closed _))) (ResL.cons (ResA.tmp (.val _)) .nil), rfl⟩
end Go.Proofs.YtfphgelollhdhaaGreat
