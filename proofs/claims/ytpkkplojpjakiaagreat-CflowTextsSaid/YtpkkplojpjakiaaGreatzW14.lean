/- zX3, zX4, zX5, zX6, zX7. -/
import Derived.Test.YtpkkplojpjakiaaGreatW1
import Derived.Test.YtpkkplojpjakiaaGreatW2
import Derived.Test.YtpkkplojpjakiaaGreatW3
import Derived.Test.YtpkkplojpjakiaaGreatW4
import Derived.Test.YtpkkplojpjakiaaGreatzW5
import Derived.Test.YtpkkplojpjakiaaGreatzW6
import Derived.Test.YtpkkplojpjakiaaGreatzW7
import Derived.Test.YtpkkplojpjakiaaGreatzW8
import Derived.Test.YtpkkplojpjakiaaGreatzW9
import Derived.Test.YtpkkplojpjakiaaGreatzW10
import Derived.Test.YtpkkplojpjakiaaGreatzW11
import Derived.Test.YtpkkplojpjakiaaGreatzW12
import Derived.Test.YtpkkplojpjakiaaGreatzW13
set_option linter.unusedVariables false
set_option linter.unusedSimpArgs false
namespace Go.Proofs.YtpkkplojpjakiaaGreat
open Go Go.RowKit
open Dict (St Bs bs_eq Wd encW encWs closed_ws)
open Mem (Mm encM encBs closed_bs encP encP_closed closed_m storeD fetchD commaD)
open Stk (encS closed_s)
set_option maxRecDepth 100000
theorem idx_rng : ∀ (l : List Bs) (s : Bs) (k : Nat), -1 ≤ idxFrom l s k ∧ idxFrom l s k ≤ k + l.length
 | [], _, _ => ⟨by unfold idxFrom; omega, by unfold idxFrom; omega⟩
 | a :: l, s, k => by
  have := idx_rng l s (k + 1)
  unfold idxFrom
  split
  ·exact ⟨by omega, by omega⟩
  ·rw [List.length_cons]; exact ⟨this.1, by omega⟩
theorem idx_step {l : List Bs} {s a : Bs} {k : Nat} (h : l[k]? = some a) : idxFrom (l.drop k) s k = if s = a then (k : Int) else idxFrom (l.drop (k + 1)) s (k + 1) := by
 rw [List.drop_eq_getElem_cons (List.getElem?_eq_some_iff.1 h).1, idxFrom, (List.getElem?_eq_some_iff.1 h).2]
def encKx (v : V) (els : List (List AV)) (bad : Int) : List AV := [.val (.int .i64 v.cf.mem), .val (.int .i64 v.cf.data), .val (.int .i64 v.cf.ret), .val (.int .i64 v.cf.words), .val (.int .i64 v.cf.out), encBs v.m.b, .sl 2 false (v.m.old.map encP), .val (.int .i64 v.here), encS v.d, encS v.r, encLFr v.f, encWs v.dict, .val (.int .i64 v.last), encBs v.out, encBs v.pb, .val (.bool v.po), encLRq v.req, .val (.int .i64 v.free), .val (.int .i64 v.next), .val (.int .i64 v.arg), .val (.int .i64 v.self), .val (.int .i64 v.now), encLHn v.hand, .sl 3 false els, .val (.int .i64 bad)]
theorem encK_x (w : Kw) : encK w = encKx w.v (w.l.map encCf) w.bad := rfl
theorem closed_el1 (l : List Cfr) (c : Cfr) : ∀ el x, el ∈ l.map encCf ++ [encCf c] → x ∈ el → Closed x := own_closed_app encCf_closed (encCf_closed c)
attribute [local irreducible] Decidable.decide awp ARun regK toK
theorem index_c (l : List Bs) (s : Bs) (hl : l.length ≤ 1000000) : FnC Tryz.prog 40 [.sl 1 false (l.map encN), St s] (.val (.int .i64 (idxFrom l s 0))) := by
 refine goF Tryz.func40 (closedL_cons (closed_ns l) (closedL_cons (.val _) closedL_nil)) (fun w0 st0 => ?_)
 dsimp only [frOf]
 (repeat' (first | refine goA ?_ | refine goB ?_ | ((fail_if_success refine ARun.plain rfl ?_); refine ARun.fork rfl rfl rfl (fun h => ?_) (fun h => ?_)) | refine awp_cond rfl (fun h => ?_) (fun h => ?_)))
 refine awp_loopT (T := Nat × Nat) (fun t => ⟨[(8, .val (.int .i64 (t.1 : Nat))), (7, .val (.int .i64 ((l.map encN).length : Nat))), (0, .sl 1 false (l.map encN)), (1, St s)], [], t.2⟩) (fun t => t.1 ≤ l.length ∧ idxFrom l s 0 = idxFrom (l.drop t.1) s t.1) (fun t => l.length - t.1) (0, _) ⟨Nat.zero_le _, rfl⟩ ⟨⟨rfl, rfl, rfl, rfl, trivial⟩, trivial, Nat.le_refl _⟩ (fun t ht => ?_)
 obtain ⟨k, gc⟩ := t
 obtain ⟨hk, hA⟩ := ht
 dsimp only at hk hA ⊢
 by_cases hlt : k < l.length
 ·have hp : l[k]? = some l[k] := List.getElem?_eq_getElem hlt
  have hc : decide (((k : Nat) : Int) < (((l.map encN).length : Nat) : Int)) = true := by simp; omega
  generalize l[k] = a at hp
  have hs := idx_step (s := s) hp
  by_cases h3 : s = a
  ·have d3 : ((ByteArray.mk s.toArray).toList == (ByteArray.mk a.toArray).toList) = true := by rw [bs_eq]; exact decide_eq_true h3
   (repeat' (first | refine goA ?_ | refine ARun.indexAddr rfl rfl (by omega) (by first | with_reducible exact get_map hp | with_reducible exact get_map hp) rfl rfl rfl rfl rfl (guardF_spec rfl) ?_ | refine goB ?_ | ((fail_if_success refine ARun.plain rfl ?_); refine ARun.fork rfl rfl rfl (fun h => ?_) (fun h => ?_)) | refine awp_cond rfl (fun h => ?_) (fun h => ?_)))
   refine awp_ret ⟨_, ResL.cons (ResA.tmp (.val _)) .nil, congrArg (fun n => AV.val (.int .i64 n)) ?_⟩
   rw [hA, hs, if_pos h3]
  ·have d3 : ((ByteArray.mk s.toArray).toList == (ByteArray.mk a.toArray).toList) = false := by rw [bs_eq]; exact decide_eq_false h3
   (repeat' (first | refine goA ?_ | refine ARun.indexAddr rfl rfl (by omega) (by first | with_reducible exact get_map hp | with_reducible exact get_map hp) rfl rfl rfl rfl rfl (guardF_spec rfl) ?_ | refine goB ?_ | ((fail_if_success refine ARun.plain rfl ?_); refine ARun.fork rfl rfl rfl (fun h => ?_) (fun h => ?_)) | refine awp_cond rfl (fun h => ?_) (fun h => ?_)))
   exact ⟨(k + 1, _), ⟨⟨succI k, rfl, rfl, rfl, trivial⟩, trivial, Nat.le_refl _⟩, ⟨hlt, by dsimp only; rw [hA, hs, if_neg h3]⟩, (by dsimp only; omega)⟩
 ·have hkk : k = l.length := by omega
  subst hkk
  have hc : decide (((l.length : Nat) : Int) < (((l.map encN).length : Nat) : Int)) = false := by simp
  (repeat' (first | refine goA ?_ | refine goB ?_ | ((fail_if_success refine ARun.plain rfl ?_); refine ARun.fork rfl rfl rfl (fun h => ?_) (fun h => ?_)) | refine awp_cond rfl (fun h => ?_) (fun h => ?_)))
  refine awp_ret ⟨_, ResL.cons (ResA.tmp (.val _)) .nil, congrArg (fun n => AV.val (.int .i64 n)) ?_⟩
  rw [hA, List.drop_length]
  rfl
set_option maxHeartbeats 4000000 in
theorem word_l (w : Kw) (s : Bs) (h : Okk w.v 1) : FnL Tryz.prog 19 [.ptr 1000 0 0 0, St s] [(25, [encK w])] (.tup []) [[encK (cellD w (xtD s))]] := by
 have c1 := names_c
 have hl := len_nms
 have c2 := index_c nmsV s (by rw [List.length_map] at hl; omega)
 have hr := idx_rng nmsV s 0
 unfold xtD
 have c3 := cell_l w (32 + 8 * idxFrom nmsV s 0) h
 rw [List.length_map] at hl
 generalize idxFrom nmsV s 0 = n at *
 generalize nmsV.map encN = l1 at *
 refine FnL.of_awp (T := tt) (ok := tok) Tryz.func19 (by kernel_rfl) rfl (by kernel_rfl) (by kernel_rfl) (fun w0 st0 lent c0 => ?_)
 dsimp only [frOf, hpFrom, List.length_cons, List.length_nil]
 (repeat' (first | refine goA ?_ | refine ARun.nilCheckP rfl rfl (guardF_spec rfl) ?_ | refine cX c1 ?_ | refine callW (c2) rfl wkT rfl rfl ?_ | refine callK 1000 0 25 (encK w) (encK (cellD w (32 + 8 * n))) (c3) (encK_closed _) (encK_closed _) (RelL.cons (.ptr (j := 0) 0 0 rfl) (RelL.cons (.wk (.same _) (.val _)) (RelL.nil _))) (by first | exact .same _ (.tup closedL_nil) | exact .same _ (.val _) | exact .same _ (.agg (encCf_closed _)) | exact .same _ (.tup (closedL_cons (.agg (encFo_closed _)) (closedL_cons (.val _) closedL_nil))) | exact .same _ (.tup (closedL_cons (closedV _) (closedL_cons (closedLCf _) (closedL_cons (.val _) closedL_nil))))) ?_ | refine goB ?_ | ((fail_if_success refine ARun.plain rfl ?_); refine ARun.fork rfl rfl rfl (fun h => ?_) (fun h => ?_)) | refine awp_cond rfl (fun h => ?_) (fun h => ?_)))
 (first | exact ⟨_, ResL.nil, rfl, ⟨_, rfl, RlR.closed (one_cl (encK_closed _))⟩, trivial⟩ | exact awp_ret ⟨_, ResL.nil, rfl, ⟨_, rfl, RlR.closed (one_cl (encK_closed _))⟩, trivial⟩ | (refine awp_skip ?_; exact ⟨_, ResL.nil, rfl, ⟨_, rfl, RlR.closed (one_cl (encK_closed _))⟩, trivial⟩))
set_option maxHeartbeats 4000000 in
theorem branch_l (w : Kw) (s : Bs) (h : Okk w.v 2) : FnL Tryz.prog 76 [.ptr 1000 0 0 0, St s] [(25, [encK w])] (.val (.int .i64 (cellD w (xtD s)).v.here)) [[encK (cellD (cellD w (xtD s)) 0)]] := by
 have c1 := word_l w s (h.le (by omega))
 have h2 : Okk (cellD w (xtD s)).v 1 := by
  unfold cellD
  split
  ·exact vlay_ok _ h
  ·exact h.le (by omega)
 generalize cellD w (xtD s) = w1 at *
 have c2 := cell_l w1 0 h2
 refine FnL.of_awp (T := tt) (ok := tok) Tryz.func76 (by kernel_rfl) rfl (by kernel_rfl) (by kernel_rfl) (fun w0 st0 lent c0 => ?_)
 dsimp only [frOf, hpFrom, List.length_cons, List.length_nil]
 (repeat' (first | refine goA ?_ | refine ARun.nilCheckP rfl rfl (guardF_spec rfl) ?_ | refine callK 1000 0 25 (encK w) (encK w1) (c1) (encK_closed _) (encK_closed _) (RelL.cons (.ptr (j := 0) 0 0 rfl) (RelL.cons (.wk (.same _) (.val _)) (RelL.nil _))) (by first | exact .same _ (.tup closedL_nil) | exact .same _ (.val _) | exact .same _ (.agg (encCf_closed _)) | exact .same _ (.tup (closedL_cons (.agg (encFo_closed _)) (closedL_cons (.val _) closedL_nil))) | exact .same _ (.tup (closedL_cons (closedV _) (closedL_cons (closedLCf _) (closedL_cons (.val _) closedL_nil))))) ?_ | refine callK 1000 0 25 (encK w1) (encK (cellD w1 0)) (c2) (encK_closed _) (encK_closed _) (RelL.cons (.ptr (j := 0) 0 0 rfl) (RelL.cons (.wk (.same _) (.val _)) (RelL.nil _))) (by first | exact .same _ (.tup closedL_nil) | exact .same _ (.val _) | exact .same _ (.agg (encCf_closed _)) | exact .same _ (.tup (closedL_cons (.agg (encFo_closed _)) (closedL_cons (.val _) closedL_nil))) | exact .same _ (.tup (closedL_cons (closedV _) (closedL_cons (closedLCf _) (closedL_cons (.val _) closedL_nil))))) ?_ | refine goB ?_ | ((fail_if_success refine ARun.plain rfl ?_); refine ARun.fork rfl rfl rfl (fun h => ?_) (fun h => ?_)) | refine awp_cond rfl (fun h => ?_) (fun h => ?_)))
 (first | exact ⟨_, ResL.cons (ResA.tmp (.val _)) .nil, rfl, ⟨_, rfl, RlR.closed (one_cl (encK_closed _))⟩, trivial⟩ | exact awp_ret ⟨_, ResL.cons (ResA.tmp (.val _)) .nil, rfl, ⟨_, rfl, RlR.closed (one_cl (encK_closed _))⟩, trivial⟩)
set_option maxHeartbeats 4000000 in
theorem here_l (w : Kw) (a : Int) (hb : w.v.m.b.length ≤ 1000000) (ho : w.v.m.old.length ≤ 1000000) : FnL Tryz.prog 79 [.ptr 1000 0 0 0, .val (.int .i64 a)] [(25, [encK w])] (.tup []) [[encK (hereD w a)]] := by
 have c1 := Mem.store_c w.v.m a w.v.here hb ho
 unfold hereD
 by_cases h : w.bad = 0
 ·have d : (w.bad == 0) = true := beq_iff_eq.2 h
  rw [if_pos h]
  generalize storeD w.v.m a w.v.here = p at *
  have c2 := fail_l ⟨withMH w.v p.1 w.v.here, w.l, w.bad⟩ p.2
  rw [show failD ⟨withMH w.v p.1 w.v.here, w.l, w.bad⟩ p.2 = ⟨withMH w.v p.1 w.v.here, w.l, p.2⟩ from if_pos h] at c2
  refine FnL.of_awp (T := tt) (ok := tok) Tryz.func79 (by kernel_rfl) rfl (by kernel_rfl) (by kernel_rfl) (fun w0 st0 lent c0 => ?_)
  dsimp only [frOf, hpFrom, List.length_cons, List.length_nil]
  (repeat' (first | refine goA ?_ | refine ARun.nilCheckP rfl rfl (guardF_spec rfl) ?_ | refine cX c1 ?_ | refine callK 1000 0 25 (encK ⟨withMH w.v p.1 w.v.here, w.l, w.bad⟩) (encK ⟨withMH w.v p.1 w.v.here, w.l, p.2⟩) (c2) (encK_closed _) (encK_closed _) (RelL.cons (.ptr (j := 0) 0 0 rfl) (RelL.cons (.wk (.same _) (.val _)) (RelL.nil _))) (by first | exact .same _ (.tup closedL_nil) | exact .same _ (.val _) | exact .same _ (.agg (encCf_closed _)) | exact .same _ (.tup (closedL_cons (.agg (encFo_closed _)) (closedL_cons (.val _) closedL_nil))) | exact .same _ (.tup (closedL_cons (closedV _) (closedL_cons (closedLCf _) (closedL_cons (.val _) closedL_nil))))) ?_ | refine goB ?_ | ((fail_if_success refine ARun.plain rfl ?_); refine ARun.fork rfl rfl rfl (fun h => ?_) (fun h => ?_)) | refine awp_cond rfl (fun h => ?_) (fun h => ?_)))
  (first | exact ⟨_, ResL.nil, rfl, ⟨_, rfl, RlR.closed (one_cl (encK_closed _))⟩, trivial⟩ | exact awp_ret ⟨_, ResL.nil, rfl, ⟨_, rfl, RlR.closed (one_cl (encK_closed _))⟩, trivial⟩ | (refine awp_skip ?_; exact ⟨_, ResL.nil, rfl, ⟨_, rfl, RlR.closed (one_cl (encK_closed _))⟩, trivial⟩))
 ·have d : (w.bad == 0) = false := beq_eq_false_iff_ne.2 h
  rw [if_neg h]
  refine FnL.of_awp (T := tt) (ok := tok) Tryz.func79 (by kernel_rfl) rfl (by kernel_rfl) (by kernel_rfl) (fun w0 st0 lent c0 => ?_)
  dsimp only [frOf, hpFrom, List.length_cons, List.length_nil]
  (repeat' (first | refine goA ?_ | refine ARun.nilCheckP rfl rfl (guardF_spec rfl) ?_ | refine goB ?_ | ((fail_if_success refine ARun.plain rfl ?_); refine ARun.fork rfl rfl rfl (fun h => ?_) (fun h => ?_)) | refine awp_cond rfl (fun h => ?_) (fun h => ?_)))
  (first | exact ⟨_, ResL.nil, rfl, ⟨_, rfl, RlR.closed (one_cl (encK_closed _))⟩, trivial⟩ | exact awp_ret ⟨_, ResL.nil, rfl, ⟨_, rfl, RlR.closed (one_cl (encK_closed _))⟩, trivial⟩ | (refine awp_skip ?_; exact ⟨_, ResL.nil, rfl, ⟨_, rfl, RlR.closed (one_cl (encK_closed _))⟩, trivial⟩))
theorem clipCf_c (l : List Cfr) (hl : l.length ≤ 1000000) : FnC Tryz.prog 98 [encLCf l] (.sl 3 true (l.map encCf)) := by
 refine goF Tryz.func98 (closedL_cons (closedLCf l) closedL_nil) (fun w0 st0 => ?_)
 dsimp only [frOf]
 (repeat' (first | refine goA ?_ | refine ARun.sliceClip rfl rfl rfl rfl rfl rfl (by first | exact .inr rfl | exact .inl rfl | (right; simp; done)) rfl (guardF_spec rfl) ?_ | refine goB ?_ | ((fail_if_success refine ARun.plain rfl ?_); refine ARun.fork rfl rfl rfl (fun h => ?_) (fun h => ?_)) | refine awp_cond rfl (fun h => ?_) (fun h => ?_)))
 exact awp_ret ⟨_, ResL.cons (ResA.tmp (.closed _ (.sl (own_closed_map encCf_closed)))) .nil, rfl⟩
set_option maxHeartbeats 4000000 in
theorem open_l (w : Kw) (c : Cfr) (hl : w.l.length ≤ 1000) : FnL Tryz.prog 77 [.ptr 1000 0 0 0, .agg (encCf c)] [(25, [encK w])] (.tup []) [[encK (openD w c)]] := by
 have e : (((w.l.map encCf).length : Nat) : Int) = w.l.length := by rw [List.length_map]
 unfold openD
 by_cases h : 32 ≤ w.l.length
 ·have d : decide ((32 : Int) ≤ (((w.l.map encCf).length : Nat) : Int)) = true := decide_eq_true (by omega)
  rw [if_pos h]
  have c1 := fail_l w (-22)
  refine FnL.of_awp (T := tt) (ok := tok) Tryz.func77 (by kernel_rfl) rfl (by kernel_rfl) (by kernel_rfl) (fun w0 st0 lent c0 => ?_)
  dsimp only [frOf, hpFrom, List.length_cons, List.length_nil]
  (repeat' (first | refine goA ?_ | refine ARun.nilCheckP rfl rfl (guardF_spec rfl) ?_ | refine callK 1000 0 25 (encK w) (encK (failD w (-22))) (c1) (encK_closed _) (encK_closed _) (RelL.cons (.ptr (j := 0) 0 0 rfl) (RelL.cons (.wk (.same _) (.val _)) (RelL.nil _))) (by first | exact .same _ (.tup closedL_nil) | exact .same _ (.val _) | exact .same _ (.agg (encCf_closed _)) | exact .same _ (.tup (closedL_cons (.agg (encFo_closed _)) (closedL_cons (.val _) closedL_nil))) | exact .same _ (.tup (closedL_cons (closedV _) (closedL_cons (closedLCf _) (closedL_cons (.val _) closedL_nil))))) ?_ | refine goB ?_ | ((fail_if_success refine ARun.plain rfl ?_); refine ARun.fork rfl rfl rfl (fun h => ?_) (fun h => ?_)) | refine awp_cond rfl (fun h => ?_) (fun h => ?_)))
  (first | exact ⟨_, ResL.nil, rfl, ⟨_, rfl, RlR.closed (one_cl (encK_closed _))⟩, trivial⟩ | exact awp_ret ⟨_, ResL.nil, rfl, ⟨_, rfl, RlR.closed (one_cl (encK_closed _))⟩, trivial⟩ | (refine awp_skip ?_; exact ⟨_, ResL.nil, rfl, ⟨_, rfl, RlR.closed (one_cl (encK_closed _))⟩, trivial⟩))
 ·have d : decide ((32 : Int) ≤ (((w.l.map encCf).length : Nat) : Int)) = false := decide_eq_false (by omega)
  rw [if_neg h]
  have c1 := clipCf_c w.l (by omega)
  rw [encK_x ⟨w.v, w.l ++ [c], w.bad⟩]
  dsimp only
  rw [show (w.l ++ [c]).map encCf = w.l.map encCf ++ [encCf c] by simp]
  refine FnL.of_awp (T := tt) (ok := tok) Tryz.func77 (by kernel_rfl) rfl (by kernel_rfl) (by kernel_rfl) (fun w0 st0 lent c0 => ?_)
  dsimp only [frOf, hpFrom, List.length_cons, List.length_nil]
  (repeat' (first | refine goA ?_ | refine ARun.nilCheckP rfl rfl (guardF_spec rfl) ?_ | refine cX c1 ?_ | refine ARun.buildSliceO rfl rfl rfl rfl rfl rfl rfl (buildSF_spec rfl) rfl (guardF_spec rfl) ?_ | refine appF rfl ?_ | refine goB ?_ | ((fail_if_success refine ARun.plain rfl ?_); refine ARun.fork rfl rfl rfl (fun h => ?_) (fun h => ?_)) | refine awp_cond rfl (fun h => ?_) (fun h => ?_)))
  exact ⟨_, ResL.nil, rfl, ⟨_, rfl, RlR.cons (RlL.cons (.reif (.closed _ (.val _))) (RlL.cons (.reif (.closed _ (.val _))) (RlL.cons (.reif (.closed _ (.val _))) (RlL.cons (.reif (.closed _ (.val _))) (RlL.cons (.reif (.closed _ (.val _))) (RlL.cons (.reif (.closed _ (closed_bs _))) (RlL.cons (.reif (.closed _ (closed_map encP_closed))) (RlL.cons (.reif (.closed _ (.val _))) (RlL.cons (.reif (.closed _ (closed_s _))) (RlL.cons (.reif (.closed _ (closed_s _))) (RlL.cons (.reif (.closed _ (closedFr _))) (RlL.cons (.reif (.closed _ (closed_ws _))) (RlL.cons (.reif (.closed _ (.val _))) (RlL.cons (.reif (.closed _ (closed_bs _))) (RlL.cons (.reif (.closed _ (closed_bs _))) (RlL.cons (.reif (.closed _ (.val _))) (RlL.cons (.reif (.closed _ (closedRq _))) (RlL.cons (.reif (.closed _ (.val _))) (RlL.cons (.reif (.closed _ (.val _))) (RlL.cons (.reif (.closed _ (.val _))) (RlL.cons (.reif (.closed _ (.val _))) (RlL.cons (.reif (.closed _ (.val _))) (RlL.cons (.reif (.closed _ (closedHn _))) (RlL.cons (.reif (Reif.owned rfl rfl rfl (closed_el1 _ _))) (RlL.cons (.reif (.closed _ (.val _))) (RlL.nil _ _)))))))))))))))))))))))))) (RlR.nil _ _)⟩, trivial⟩
end Go.Proofs.YtpkkplojpjakiaaGreat
namespace Go.Proofs.YtpkkplojpjakiaaGreat
open Go Go.RowKit
open Dict (St Bs bs_eq Wd encW encWs closed_ws)
open Mem (Mm encM encBs closed_bs encP encP_closed closed_m storeD fetchD commaD)
open Stk (encS closed_s)
set_option maxRecDepth 100000
def nZb : Bs := [40, 48, 98, 114, 97, 110, 99, 104, 41]
def nBr : Bs := [40, 98, 114, 97, 110, 99, 104, 41]
def nDo : Bs := [40, 100, 111, 41]
def nQdo : Bs := [40, 63, 100, 111, 41]
def nLp : Bs := [40, 108, 111, 111, 112, 41]
def nPl : Bs := [40, 43, 108, 111, 111, 112, 41]
def nUn : Bs := [85, 78, 76, 79, 79, 80]
def nLit : Bs := [40, 108, 105, 116, 41]
def nStr : Bs := [40, 115, 116, 114, 41]
theorem failD_v (w : Kw) (e : Int) : (failD w e).v = w.v := by unfold failD; split <;> rfl
theorem failD_l (w : Kw) (e : Int) : (failD w e).l = w.l := by unfold failD; split <;> rfl
theorem cellD_l (w : Kw) (n : Int) : (cellD w n).l = w.l := by unfold cellD; split <;> rfl
theorem hereD_l (w : Kw) (n : Int) : (hereD w n).l = w.l := by unfold hereD; split <;> rfl
theorem openD_l (w : Kw) (c : Cfr) : (openD w c).l.length ≤ w.l.length + 1 := by unfold openD; split; rw [failD_l]; omega; simp
theorem closeD_v (w : Kw) (k : Int) : (closeD w k).1.v = w.v := by unfold closeD; split; rfl; exact failD_v _ _
theorem closeD_l (w : Kw) (k : Int) : (closeD w k).1.l.length ≤ w.l.length := by unfold closeD; split; simp; rw [failD_l]; omega
theorem okk_cell {w : Kw} {k : Nat} (n : Int) (h : Okk w.v (k + 1)) : Okk (cellD w n).v k := by
 unfold cellD
 split
 ·exact vlay_ok _ h
 ·exact h.le (by omega)
theorem okk_store {v : V} {k : Nat} (a n : Int) (h : Okk v (k + 1)) : Okk (withMH v (storeD v.m a n).1 v.here) k := by
 have := store_len v.m a n
 have hb := h.b
 have ho := h.o
 have h0 := h.h0
 have h1 := h.h1
 exact ⟨by show (storeD v.m a n).1.b.length ≤ _; omega, by show (storeD v.m a n).1.old.length + k ≤ _; omega, h0, by show v.here ≤ ((storeD v.m a n).1.b.length : Nat); omega⟩
theorem okk_here {w : Kw} {k : Nat} (n : Int) (h : Okk w.v (k + 1)) : Okk (hereD w n).v k := by
 unfold hereD
 split
 ·exact okk_store _ _ h
 ·exact h.le (by omega)
theorem closeD_snoc (v : V) (L : List Cfr) (c : Cfr) (bad k : Int) (h : c.kind = k) : closeD ⟨v, L ++ [c], bad⟩ k = (⟨v, L, bad⟩, c) := by
 unfold closeD lastC
 simp [h]
theorem closeD_no (v : V) (L : List Cfr) (c : Cfr) (bad k : Int) (h : c.kind ≠ k) : closeD ⟨v, L ++ [c], bad⟩ k = (failD ⟨v, L ++ [c], bad⟩ (-22), cf0) := by
 unfold closeD lastC
 simp [h]
theorem closeD_nil (v : V) (bad k : Int) : closeD ⟨v, [], bad⟩ k = (failD ⟨v, [], bad⟩ (-22), cf0) := by
 unfold closeD
 simp
def doneD (w : Kw) (v : V) (l : List Cfr) : V × List Cfr × Int := if w.bad = 0 then (w.v, w.l, 0) else (v, l, w.bad)
def encVLE (r : V × List Cfr × Int) : AV := .tup [.agg (encV r.1), encLCf r.2.1, .val (.int .i64 r.2.2)]
def backD (w : Kw) (nm : Bs) : Kw := cellD (cellD (closeD w 2).1 (xtD nm)) (closeD w 2).2.at'
def heresD (w : Kw) (l : List Int) : Kw := l.foldl hereD w
def endD (w : Kw) (nm : Bs) : Kw := heresD (cellD (cellD (closeD w 3).1 (xtD nm)) (closeD w 3).2.at') (closeD w 3).2.lv
theorem heres_snoc (w : Kw) (l : List Int) (a : Int) : heresD w (l ++ [a]) = hereD (heresD w l) a := by unfold heresD; simp
theorem okk_heres {w : Kw} {k : Nat} : ∀ (l : List Int), Okk w.v (k + l.length) → Okk (heresD w l).v k := fun l => by
 induction l generalizing w with
 | nil => exact fun h => h
 | cons a l ih => exact fun h => ih (w := hereD w a) (okk_here a (by rw [List.length_cons] at h; exact h.le (by omega)))
attribute [local irreducible] Decidable.decide awp ARun regK toK
set_option maxHeartbeats 4000000 in
theorem close_l (w : Kw) (k : Int) (hl : w.l.length ≤ 1000) : FnL Tryz.prog 78 [.ptr 1000 0 0 0, .val (.int .i64 k)] [(25, [encK w])] (.agg (encCf (closeD w k).2)) [[encK (closeD w k).1]] := by
 obtain ⟨v, l, bad⟩ := w
 rcases List.eq_nil_or_concat l with e | ⟨L, c, e⟩
 ·subst e
  rw [closeD_nil]
  have d : (((((([] : List Cfr).map encCf).length : Nat)) : Int) == 0) = true := by simp
  have c1 := fail_l ⟨v, [], bad⟩ (-22)
  refine FnL.of_awp (T := tt) (ok := tok) Tryz.func78 (by kernel_rfl) rfl (by kernel_rfl) (by kernel_rfl) (fun w0 st0 lent c0 => ?_)
  dsimp only [frOf, hpFrom, List.length_cons, List.length_nil]
  (repeat' (first | refine goA ?_ | refine ARun.nilCheckP rfl rfl (guardF_spec rfl) ?_ | refine callK 1000 0 25 (encK ⟨v, [], bad⟩) (encK (failD ⟨v, [], bad⟩ (-22))) (c1) (encK_closed _) (encK_closed _) (RelL.cons (.ptr (j := 0) 0 0 rfl) (RelL.cons (.wk (.same _) (.val _)) (RelL.nil _))) (by first | exact .same _ (.tup closedL_nil) | exact .same _ (.val _) | exact .same _ (.agg (encCf_closed _)) | exact .same _ (.tup (closedL_cons (.agg (encFo_closed _)) (closedL_cons (.val _) closedL_nil))) | exact .same _ (.tup (closedL_cons (closedV _) (closedL_cons (closedLCf _) (closedL_cons (.val _) closedL_nil))))) ?_ | refine goB ?_ | ((fail_if_success refine ARun.plain rfl ?_); refine ARun.fork rfl rfl rfl (fun h => ?_) (fun h => ?_)) | refine awp_cond rfl (fun h => ?_) (fun h => ?_)))
  exact awp_ret ⟨_, ResL.cons (ResA.agg rfl rfl rfl rfl rfl rfl rfl (RL.cons (.val _) (RL.cons (.val _) (RL.cons (.nilSl (sz' := 1)) (RL.nil _))))) .nil, rfl, ⟨_, rfl, RlR.closed (one_cl (encK_closed _))⟩, trivial⟩
 ·rw [List.concat_eq_append] at e
  subst e
  have e1 : ((((L ++ [c]).map encCf).length : Nat) : Int) = L.length + 1 := by rw [List.length_map, List.length_append]; simp
  have d : (((((L ++ [c]).map encCf).length : Nat) : Int) == 0) = false := beq_eq_false_iff_ne.2 (by omega)
  have hp : ((L ++ [c]).map encCf)[((((L ++ [c]).map encCf).length : Nat) - 1 : Int).toNat]? = some (encCf c) := by
   rw [e1, List.getElem?_map, show ((L.length : Int) + 1 - 1).toNat = L.length by omega]
   simp
  have he : (L ++ [c]).map encCf = L.map encCf ++ [encCf c] := by simp
  have e0 : (((L.map encCf).length : Nat) : Int) = L.length := by rw [List.length_map]
  have hl' : L.length ≤ 1000 := by rw [List.length_append] at hl; omega
  by_cases h : c.kind = k
  ·rw [closeD_snoc _ _ _ _ _ h]
   have d2 : (c.kind != k) = false := by simp [h]
   refine FnL.of_awp (T := tt) (ok := tok) Tryz.func78 (by kernel_rfl) rfl (by kernel_rfl) (by kernel_rfl) (fun w0 st0 lent c0 => ?_)
   dsimp only [frOf, hpFrom, List.length_cons, List.length_nil]
   (repeat' (first | refine goA ?_ | refine ARun.nilCheckP rfl rfl (guardF_spec rfl) ?_ | refine ARun.indexAddr rfl rfl (by omega) (by with_reducible exact hp) rfl rfl rfl rfl rfl (guardF_spec rfl) ?_ | refine ARun.sliceTo rfl he rfl lensT rfl rfl rfl rfl rfl (guardF_spec rfl) ?_ | refine goB ?_ | ((fail_if_success refine ARun.plain rfl ?_); refine ARun.fork rfl rfl rfl (fun h => ?_) (fun h => ?_)) | refine awp_cond rfl (fun h => ?_) (fun h => ?_)))
   exact awp_ret ⟨_, ResL.cons (ResA.agg rfl rfl rfl rfl rfl rfl rfl (RL.allClosed (encCf_closed c))) .nil, rfl, ⟨_, rfl, RlR.closed (one_cl (encK_closed ⟨v, L, bad⟩))⟩, trivial⟩
  ·rw [closeD_no _ _ _ _ _ h]
   have d2 : (c.kind != k) = true := by simp [h]
   have c1 := fail_l ⟨v, L ++ [c], bad⟩ (-22)
   refine FnL.of_awp (T := tt) (ok := tok) Tryz.func78 (by kernel_rfl) rfl (by kernel_rfl) (by kernel_rfl) (fun w0 st0 lent c0 => ?_)
   dsimp only [frOf, hpFrom, List.length_cons, List.length_nil]
   (repeat' (first | refine goA ?_ | refine ARun.nilCheckP rfl rfl (guardF_spec rfl) ?_ | refine ARun.indexAddr rfl rfl (by omega) (by with_reducible exact hp) rfl rfl rfl rfl rfl (guardF_spec rfl) ?_ | refine callK 1000 0 25 (encK ⟨v, L ++ [c], bad⟩) (encK (failD ⟨v, L ++ [c], bad⟩ (-22))) (c1) (encK_closed _) (encK_closed _) (RelL.cons (.ptr (j := 0) 0 0 rfl) (RelL.cons (.wk (.same _) (.val _)) (RelL.nil _))) (by first | exact .same _ (.tup closedL_nil) | exact .same _ (.val _) | exact .same _ (.agg (encCf_closed _)) | exact .same _ (.tup (closedL_cons (.agg (encFo_closed _)) (closedL_cons (.val _) closedL_nil))) | exact .same _ (.tup (closedL_cons (closedV _) (closedL_cons (closedLCf _) (closedL_cons (.val _) closedL_nil))))) ?_ | refine goB ?_ | ((fail_if_success refine ARun.plain rfl ?_); refine ARun.fork rfl rfl rfl (fun h => ?_) (fun h => ?_)) | refine awp_cond rfl (fun h => ?_) (fun h => ?_)))
   exact awp_ret ⟨_, ResL.cons (ResA.agg rfl rfl rfl rfl rfl rfl rfl (RL.cons (.val _) (RL.cons (.val _) (RL.cons (.nilSl (sz' := 1)) (RL.nil _))))) .nil, rfl, ⟨_, rfl, RlR.closed (one_cl (encK_closed _))⟩, trivial⟩
set_option maxHeartbeats 4000000 in
theorem done_l (w : Kw) (v : V) (l : List Cfr) : FnL Tryz.prog 24 [.ptr 1000 0 0 0, .agg (encV v), encLCf l] [(25, [encK w])] (encVLE (doneD w v l)) [[encK w]] := by
 unfold doneD
 by_cases h : w.bad = 0
 ·have d : (w.bad != 0) = false := by simp [h]
  rw [if_pos h]
  refine FnL.of_awp (T := tt) (ok := tok) Tryz.func24 (by kernel_rfl) rfl (by kernel_rfl) (by kernel_rfl) (fun w0 st0 lent c0 => ?_)
  dsimp only [frOf, hpFrom, List.length_cons, List.length_nil]
  (repeat' (first | refine goA ?_ | refine ARun.nilCheckP rfl rfl (guardF_spec rfl) ?_ | refine goB ?_ | ((fail_if_success refine ARun.plain rfl ?_); refine ARun.fork rfl rfl rfl (fun h => ?_) (fun h => ?_)) | refine awp_cond rfl (fun h => ?_) (fun h => ?_)))
  exact awp_ret ⟨_, ResL.cons (ResA.agg rfl rfl rfl rfl rfl rfl rfl (RL.allClosed (encV_closed w.v))) (ResL.cons (ResA.tmp (.closed _ (closedLCf _))) (ResL.cons (ResA.tmp (.val _)) .nil)), rfl, ⟨_, rfl, RlR.closed (one_cl (encK_closed _))⟩, trivial⟩
 ·have d : (w.bad != 0) = true := by simp [h]
  rw [if_neg h]
  refine FnL.of_awp (T := tt) (ok := tok) Tryz.func24 (by kernel_rfl) rfl (by kernel_rfl) (by kernel_rfl) (fun w0 st0 lent c0 => ?_)
  dsimp only [frOf, hpFrom, List.length_cons, List.length_nil]
  (repeat' (first | refine goA ?_ | refine ARun.nilCheckP rfl rfl (guardF_spec rfl) ?_ | refine goB ?_ | ((fail_if_success refine ARun.plain rfl ?_); refine ARun.fork rfl rfl rfl (fun h => ?_) (fun h => ?_)) | refine awp_cond rfl (fun h => ?_) (fun h => ?_)))
  exact awp_ret ⟨_, ResL.cons (ResA.agg rfl rfl rfl rfl rfl rfl rfl (RL.allClosed (encV_closed v))) (ResL.cons (ResA.tmp (.closed _ (closedLCf _))) (ResL.cons (ResA.tmp (.val _)) .nil)), rfl, ⟨_, rfl, RlR.closed (one_cl (encK_closed _))⟩, trivial⟩
set_option maxHeartbeats 4000000 in
theorem back_l (w : Kw) (nm : Bs) (hl : w.l.length ≤ 1000) (h : Okk w.v 2) : FnL Tryz.prog 80 [.ptr 1000 0 0 0, St nm] [(25, [encK w])] (.tup []) [[encK (backD w nm)]] := by
 unfold backD
 have c1 := close_l w 2 hl
 have h1 : Okk (closeD w 2).1.v 2 := by rw [closeD_v]; exact h
 generalize closeD w 2 = p at *
 obtain ⟨w1, c⟩ := p
 dsimp only at *
 have c2 := word_l w1 nm (h1.le (by omega))
 have h2 := okk_cell (xtD nm) h1
 generalize cellD w1 (xtD nm) = w2 at *
 have c3 := cell_l w2 c.at' h2
 refine FnL.of_awp (T := tt) (ok := tok) Tryz.func80 (by kernel_rfl) rfl (by kernel_rfl) (by kernel_rfl) (fun w0 st0 lent c0 => ?_)
 dsimp only [frOf, hpFrom, List.length_cons, List.length_nil]
 (repeat' (first | refine goA ?_ | refine callK 1000 0 25 (encK w) (encK w1) (c1) (encK_closed _) (encK_closed _) (RelL.cons (.ptr (j := 0) 0 0 rfl) (RelL.cons (.wk (.same _) (.val _)) (RelL.nil _))) (by first | exact .same _ (.tup closedL_nil) | exact .same _ (.val _) | exact .same _ (.agg (encCf_closed _)) | exact .same _ (.tup (closedL_cons (.agg (encFo_closed _)) (closedL_cons (.val _) closedL_nil))) | exact .same _ (.tup (closedL_cons (closedV _) (closedL_cons (closedLCf _) (closedL_cons (.val _) closedL_nil))))) ?_ | refine callK 1000 0 25 (encK w1) (encK w2) (c2) (encK_closed _) (encK_closed _) (RelL.cons (.ptr (j := 0) 0 0 rfl) (RelL.cons (.wk (.same _) (.val _)) (RelL.nil _))) (by first | exact .same _ (.tup closedL_nil) | exact .same _ (.val _) | exact .same _ (.agg (encCf_closed _)) | exact .same _ (.tup (closedL_cons (.agg (encFo_closed _)) (closedL_cons (.val _) closedL_nil))) | exact .same _ (.tup (closedL_cons (closedV _) (closedL_cons (closedLCf _) (closedL_cons (.val _) closedL_nil))))) ?_ | refine callK 1000 0 25 (encK w2) (encK (cellD w2 c.at')) (c3) (encK_closed _) (encK_closed _) (RelL.cons (.ptr (j := 0) 0 0 rfl) (RelL.cons (.wk (.same _) (.val _)) (RelL.nil _))) (by first | exact .same _ (.tup closedL_nil) | exact .same _ (.val _) | exact .same _ (.agg (encCf_closed _)) | exact .same _ (.tup (closedL_cons (.agg (encFo_closed _)) (closedL_cons (.val _) closedL_nil))) | exact .same _ (.tup (closedL_cons (closedV _) (closedL_cons (closedLCf _) (closedL_cons (.val _) closedL_nil))))) ?_ | refine goB ?_ | ((fail_if_success refine ARun.plain rfl ?_); refine ARun.fork rfl rfl rfl (fun h => ?_) (fun h => ?_)) | refine awp_cond rfl (fun h => ?_) (fun h => ?_)))
 (first | exact ⟨_, ResL.nil, rfl, ⟨_, rfl, RlR.closed (one_cl (encK_closed _))⟩, trivial⟩ | exact awp_ret ⟨_, ResL.nil, rfl, ⟨_, rfl, RlR.closed (one_cl (encK_closed _))⟩, trivial⟩ | (refine awp_skip ?_; exact ⟨_, ResL.nil, rfl, ⟨_, rfl, RlR.closed (one_cl (encK_closed _))⟩, trivial⟩))
set_option maxHeartbeats 4000000 in
theorem end_l (w : Kw) (nm : Bs) (hl : w.l.length ≤ 1000) (h : Okk w.v 1000) (hv : ∀ c, c ∈ w.l → c.lv.length ≤ 100) : FnL Tryz.prog 81 [.ptr 1000 0 0 0, St nm] [(25, [encK w])] (.tup []) [[encK (endD w nm)]] := by
 unfold endD
 have c1 := close_l w 3 hl
 have h1 : Okk (closeD w 3).1.v 1000 := by rw [closeD_v]; exact h
 have hv2 : (closeD w 3).2.lv.length ≤ 100 := by
  unfold closeD
  split
  ·rename_i h3
   refine hv _ ?_
   unfold lastC
   cases hg : w.l.getLast? with
   | none => rw [List.getLast?_eq_none_iff] at hg; exact absurd hg h3.1
   | some x => exact List.mem_of_getLast? hg
  ·simp [cf0]
 generalize closeD w 3 = p at *
 obtain ⟨w1, c⟩ := p
 dsimp only at *
 have c2 := word_l w1 nm (h1.le (by omega))
 have h2 := okk_cell (xtD nm) h1
 generalize cellD w1 (xtD nm) = w2 at *
 have c3 := cell_l w2 c.at' (h2.le (by omega))
 have h3 := okk_cell c.at' h2
 generalize cellD w2 c.at' = w3 at *
 refine FnL.of_awp (T := tt) (ok := tok) Tryz.func81 (by kernel_rfl) rfl (by kernel_rfl) (by kernel_rfl) (fun w0 st0 lent c0 => ?_)
 dsimp only [frOf, hpFrom, List.length_cons, List.length_nil]
 (repeat' (first | refine goA ?_ | refine callK 1000 0 25 (encK w) (encK w1) (c1) (encK_closed _) (encK_closed _) (RelL.cons (.ptr (j := 0) 0 0 rfl) (RelL.cons (.wk (.same _) (.val _)) (RelL.nil _))) (by first | exact .same _ (.tup closedL_nil) | exact .same _ (.val _) | exact .same _ (.agg (encCf_closed _)) | exact .same _ (.tup (closedL_cons (.agg (encFo_closed _)) (closedL_cons (.val _) closedL_nil))) | exact .same _ (.tup (closedL_cons (closedV _) (closedL_cons (closedLCf _) (closedL_cons (.val _) closedL_nil))))) ?_ | refine callK 1000 0 25 (encK w1) (encK w2) (c2) (encK_closed _) (encK_closed _) (RelL.cons (.ptr (j := 0) 0 0 rfl) (RelL.cons (.wk (.same _) (.val _)) (RelL.nil _))) (by first | exact .same _ (.tup closedL_nil) | exact .same _ (.val _) | exact .same _ (.agg (encCf_closed _)) | exact .same _ (.tup (closedL_cons (.agg (encFo_closed _)) (closedL_cons (.val _) closedL_nil))) | exact .same _ (.tup (closedL_cons (closedV _) (closedL_cons (closedLCf _) (closedL_cons (.val _) closedL_nil))))) ?_ | refine callK 1000 0 25 (encK w2) (encK w3) (c3) (encK_closed _) (encK_closed _) (RelL.cons (.ptr (j := 0) 0 0 rfl) (RelL.cons (.wk (.same _) (.val _)) (RelL.nil _))) (by first | exact .same _ (.tup closedL_nil) | exact .same _ (.val _) | exact .same _ (.agg (encCf_closed _)) | exact .same _ (.tup (closedL_cons (.agg (encFo_closed _)) (closedL_cons (.val _) closedL_nil))) | exact .same _ (.tup (closedL_cons (closedV _) (closedL_cons (closedLCf _) (closedL_cons (.val _) closedL_nil))))) ?_ | refine goB ?_ | ((fail_if_success refine ARun.plain rfl ?_); refine ARun.fork rfl rfl rfl (fun h => ?_) (fun h => ?_)) | refine awp_cond rfl (fun h => ?_) (fun h => ?_)))
 clear c1 c2 c3
 refine awp_loopT (T := Nat × Nat) (fun t => ⟨[(19, .val (.int .i64 (t.1 : Nat))), (18, .val (.int .i64 ((c.lv.map encI).length : Nat))), (17, .sl 1 false (c.lv.map encI)), (0, .ptr 1000 0 0 0)], [(1000, some ⟨0, 25, [encK (heresD w3 (c.lv.take t.1))]⟩)], t.2⟩) (fun t => t.1 ≤ c.lv.length) (fun t => c.lv.length - t.1) (0, _) (Nat.zero_le _) ⟨⟨rfl, rfl, rfl, rfl, trivial⟩, ⟨rfl, trivial⟩, Nat.le_refl _⟩ (fun t ht => ?_)
 obtain ⟨k, gc⟩ := t
 dsimp only at ht ⊢
 by_cases hlt : k < c.lv.length
 ·have hp : c.lv[k]? = some c.lv[k] := List.getElem?_eq_getElem hlt
  have hc : decide (((k : Nat) : Int) < (((c.lv.map encI).length : Nat) : Int)) = true := by simp; omega
  generalize c.lv[k] = a at hp
  have hok : Okk (heresD w3 (c.lv.take k)).v 1 := okk_heres _ (h3.le (by rw [List.length_take]; omega))
  have c1 := here_l (heresD w3 (c.lv.take k)) a hok.b (by have := hok.o; omega)
  rw [← heres_snoc, ← take_succ' hp] at c1
  (repeat' (first | refine goA ?_ | refine ARun.indexAddr rfl rfl (by omega) (by first | with_reducible exact get_map hp | with_reducible exact get_map hp) rfl rfl rfl rfl rfl (guardF_spec rfl) ?_ | refine callK 1000 0 25 (encK (heresD w3 (c.lv.take k))) (encK (heresD w3 (c.lv.take (k + 1)))) (c1) (encK_closed _) (encK_closed _) (RelL.cons (.ptr (j := 0) 0 0 rfl) (RelL.cons (.wk (.same _) (.val _)) (RelL.nil _))) (by first | exact .same _ (.tup closedL_nil) | exact .same _ (.val _) | exact .same _ (.agg (encCf_closed _)) | exact .same _ (.tup (closedL_cons (.agg (encFo_closed _)) (closedL_cons (.val _) closedL_nil))) | exact .same _ (.tup (closedL_cons (closedV _) (closedL_cons (closedLCf _) (closedL_cons (.val _) closedL_nil))))) ?_ | refine goB ?_ | ((fail_if_success refine ARun.plain rfl ?_); refine ARun.fork rfl rfl rfl (fun h => ?_) (fun h => ?_)) | refine awp_cond rfl (fun h => ?_) (fun h => ?_)))
  exact ⟨(k + 1, _), ⟨⟨succI k, rfl, rfl, rfl, trivial⟩, ⟨rfl, trivial⟩, Nat.le_refl _⟩, hlt, (by dsimp only; omega)⟩
 ·have hkk : k = c.lv.length := by omega
  subst hkk
  have hc : decide (((c.lv.length : Nat) : Int) < (((c.lv.map encI).length : Nat) : Int)) = false := by simp
  (repeat' (first | refine goA ?_ | refine goB ?_ | ((fail_if_success refine ARun.plain rfl ?_); refine ARun.fork rfl rfl rfl (fun h => ?_) (fun h => ?_)) | refine awp_cond rfl (fun h => ?_) (fun h => ?_)))
  refine ⟨_, ResL.nil, rfl, ⟨_, rfl, ?_⟩, trivial⟩
  rw [List.take_length]
  exact RlR.closed (one_cl (encK_closed _))
end Go.Proofs.YtpkkplojpjakiaaGreat
namespace Go.Proofs.YtpkkplojpjakiaaGreat
open Go Go.RowKit
open Dict (St Bs bs_eq Wd encW encWs closed_ws)
open Mem (Mm encM encBs closed_bs encP encP_closed closed_m storeD fetchD commaD)
open Stk (encS closed_s)
set_option maxRecDepth 100000
def onIfD (w : Kw) : Kw := openD (cellD (cellD w (xtD nZb)) 0) ⟨1, (cellD w (xtD nZb)).v.here, []⟩
def onElseD (w : Kw) : Kw := openD (hereD (cellD (cellD (closeD w 1).1 (xtD nBr)) 0) (closeD w 1).2.at') ⟨1, (cellD (closeD w 1).1 (xtD nBr)).v.here, []⟩
def onThenD (w : Kw) : Kw := hereD (closeD w 1).1 (closeD w 1).2.at'
def onBeginD (w : Kw) : Kw := openD w ⟨2, w.v.here, []⟩
def onWhileD (w : Kw) : Kw := openD (openD (cellD (cellD (closeD w 2).1 (xtD nZb)) 0) ⟨1, (cellD (closeD w 2).1 (xtD nZb)).v.here, []⟩) (closeD w 2).2
def onRepeatD (w : Kw) : Kw := hereD (cellD (cellD (closeD (closeD w 2).1 1).1 (xtD nBr)) (closeD w 2).2.at') (closeD (closeD w 2).1 1).2.at'
def onDoD (w : Kw) : Kw := openD (cellD w (xtD nDo)) ⟨3, (cellD w (xtD nDo)).v.here, []⟩
def onAskD (w : Kw) : Kw := openD (cellD (cellD w (xtD nQdo)) 0) ⟨3, (cellD (cellD w (xtD nQdo)) 0).v.here, [(cellD w (xtD nQdo)).v.here]⟩
attribute [local irreducible] Decidable.decide awp ARun regK toK
set_option maxHeartbeats 4000000 in
theorem onIf_l (w : Kw) (hl : w.l.length ≤ 900) (h : Okk w.v 40) : FnL Tryz.prog 47 [.ptr 1000 0 0 0] [(25, [encK w])] (.tup []) [[encK (onIfD w)]] := by
 unfold onIfD
 have c1 := branch_l w nZb (h.le (by omega))
 have m1a := cellD_l w (xtD nZb)
 have h1a : Okk (cellD w (xtD nZb)).v 39 := okk_cell _ h
 generalize cellD w (xtD nZb) = k1a at *
 have m1 := cellD_l k1a 0
 have h1 : Okk (cellD k1a 0).v 38 := okk_cell _ h1a
 generalize cellD k1a 0 = k1 at *
 have c2 := open_l k1 ⟨1, k1a.v.here, []⟩ (by rw [m1, m1a]; omega)
 refine FnL.of_awp (T := tt) (ok := tok) Tryz.func47 (by kernel_rfl) rfl (by kernel_rfl) (by kernel_rfl) (fun w0 st0 lent c0 => ?_)
 dsimp only [frOf, hpFrom, List.length_cons, List.length_nil]
 (repeat' (first | refine goA ?_ | refine ARun.nilCheckP rfl rfl (guardF_spec rfl) ?_ | refine callK 1000 0 25 (encK w) (encK k1) (c1) (encK_closed _) (encK_closed _) (RelL.cons (.ptr (j := 0) 0 0 rfl) (RelL.cons (.wk (.same _) (.val _)) (RelL.nil _))) (by first | exact .same _ (.tup closedL_nil) | exact .same _ (.val _) | exact .same _ (.agg (encCf_closed _)) | exact .same _ (.tup (closedL_cons (.agg (encFo_closed _)) (closedL_cons (.val _) closedL_nil))) | exact .same _ (.tup (closedL_cons (closedV _) (closedL_cons (closedLCf _) (closedL_cons (.val _) closedL_nil))))) ?_ | refine callK 1000 0 25 (encK k1) (encK (openD k1 ⟨1, k1a.v.here, []⟩)) (c2) (encK_closed _) (encK_closed _) (RelL.cons (.ptr (j := 0) 0 0 rfl) (RelL.cons (.wk (Wk.aggL (WkL.cons (.same _) (WkL.cons (.same _) (WkL.cons (by first | exact .same _ | exact .nilSl | exact .weak _ _ _) WkL.nil)))) (.agg (encCf_closed _))) (RelL.nil _))) (by first | exact .same _ (.tup closedL_nil) | exact .same _ (.val _) | exact .same _ (.agg (encCf_closed _)) | exact .same _ (.tup (closedL_cons (.agg (encFo_closed _)) (closedL_cons (.val _) closedL_nil))) | exact .same _ (.tup (closedL_cons (closedV _) (closedL_cons (closedLCf _) (closedL_cons (.val _) closedL_nil))))) ?_ | refine goB ?_ | ((fail_if_success refine ARun.plain rfl ?_); refine ARun.fork rfl rfl rfl (fun h => ?_) (fun h => ?_)) | refine awp_cond rfl (fun h => ?_) (fun h => ?_)))
 (first | exact ⟨_, ResL.nil, rfl, ⟨_, rfl, RlR.closed (one_cl (encK_closed _))⟩, trivial⟩ | exact awp_ret ⟨_, ResL.nil, rfl, ⟨_, rfl, RlR.closed (one_cl (encK_closed _))⟩, trivial⟩ | (refine awp_skip ?_; exact ⟨_, ResL.nil, rfl, ⟨_, rfl, RlR.closed (one_cl (encK_closed _))⟩, trivial⟩))
set_option maxHeartbeats 4000000 in
theorem onElse_l (w : Kw) (hl : w.l.length ≤ 900) (h : Okk w.v 40) : FnL Tryz.prog 48 [.ptr 1000 0 0 0] [(25, [encK w])] (.tup []) [[encK (onElseD w)]] := by
 unfold onElseD
 have c1 := close_l w 1 (by omega)
 have l1 := closeD_l w 1
 have v1 := closeD_v w 1
 generalize closeD w 1 = p1 at *
 obtain ⟨k1, e1⟩ := p1
 dsimp only at *
 have h1 : Okk k1.v 40 := by rw [v1]; exact h
 have c2 := branch_l k1 nBr (h1.le (by omega))
 have m2a := cellD_l k1 (xtD nBr)
 have h2a : Okk (cellD k1 (xtD nBr)).v 39 := okk_cell _ h1
 generalize cellD k1 (xtD nBr) = k2a at *
 have m2 := cellD_l k2a 0
 have h2 : Okk (cellD k2a 0).v 38 := okk_cell _ h2a
 generalize cellD k2a 0 = k2 at *
 have c3 := here_l k2 e1.at' h2.b (by have := h2.o; omega)
 have m3 := hereD_l k2 e1.at'
 generalize hereD k2 e1.at' = k3 at *
 have c4 := open_l k3 ⟨1, k2a.v.here, []⟩ (by rw [m3, m2, m2a]; omega)
 refine FnL.of_awp (T := tt) (ok := tok) Tryz.func48 (by kernel_rfl) rfl (by kernel_rfl) (by kernel_rfl) (fun w0 st0 lent c0 => ?_)
 dsimp only [frOf, hpFrom, List.length_cons, List.length_nil]
 (repeat' (first | refine goA ?_ | refine ARun.nilCheckP rfl rfl (guardF_spec rfl) ?_ | refine callK 1000 0 25 (encK w) (encK k1) (c1) (encK_closed _) (encK_closed _) (RelL.cons (.ptr (j := 0) 0 0 rfl) (RelL.cons (.wk (.same _) (.val _)) (RelL.nil _))) (by first | exact .same _ (.tup closedL_nil) | exact .same _ (.val _) | exact .same _ (.agg (encCf_closed _)) | exact .same _ (.tup (closedL_cons (.agg (encFo_closed _)) (closedL_cons (.val _) closedL_nil))) | exact .same _ (.tup (closedL_cons (closedV _) (closedL_cons (closedLCf _) (closedL_cons (.val _) closedL_nil))))) ?_ | refine callK 1000 0 25 (encK k1) (encK k2) (c2) (encK_closed _) (encK_closed _) (RelL.cons (.ptr (j := 0) 0 0 rfl) (RelL.cons (.wk (.same _) (.val _)) (RelL.nil _))) (by first | exact .same _ (.tup closedL_nil) | exact .same _ (.val _) | exact .same _ (.agg (encCf_closed _)) | exact .same _ (.tup (closedL_cons (.agg (encFo_closed _)) (closedL_cons (.val _) closedL_nil))) | exact .same _ (.tup (closedL_cons (closedV _) (closedL_cons (closedLCf _) (closedL_cons (.val _) closedL_nil))))) ?_ | refine callK 1000 0 25 (encK k2) (encK k3) (c3) (encK_closed _) (encK_closed _) (RelL.cons (.ptr (j := 0) 0 0 rfl) (RelL.cons (.wk (.same _) (.val _)) (RelL.nil _))) (by first | exact .same _ (.tup closedL_nil) | exact .same _ (.val _) | exact .same _ (.agg (encCf_closed _)) | exact .same _ (.tup (closedL_cons (.agg (encFo_closed _)) (closedL_cons (.val _) closedL_nil))) | exact .same _ (.tup (closedL_cons (closedV _) (closedL_cons (closedLCf _) (closedL_cons (.val _) closedL_nil))))) ?_ | refine callK 1000 0 25 (encK k3) (encK (openD k3 ⟨1, k2a.v.here, []⟩)) (c4) (encK_closed _) (encK_closed _) (RelL.cons (.ptr (j := 0) 0 0 rfl) (RelL.cons (.wk (Wk.aggL (WkL.cons (.same _) (WkL.cons (.same _) (WkL.cons (by first | exact .same _ | exact .nilSl | exact .weak _ _ _) WkL.nil)))) (.agg (encCf_closed _))) (RelL.nil _))) (by first | exact .same _ (.tup closedL_nil) | exact .same _ (.val _) | exact .same _ (.agg (encCf_closed _)) | exact .same _ (.tup (closedL_cons (.agg (encFo_closed _)) (closedL_cons (.val _) closedL_nil))) | exact .same _ (.tup (closedL_cons (closedV _) (closedL_cons (closedLCf _) (closedL_cons (.val _) closedL_nil))))) ?_ | refine goB ?_ | ((fail_if_success refine ARun.plain rfl ?_); refine ARun.fork rfl rfl rfl (fun h => ?_) (fun h => ?_)) | refine awp_cond rfl (fun h => ?_) (fun h => ?_)))
 (first | exact ⟨_, ResL.nil, rfl, ⟨_, rfl, RlR.closed (one_cl (encK_closed _))⟩, trivial⟩ | exact awp_ret ⟨_, ResL.nil, rfl, ⟨_, rfl, RlR.closed (one_cl (encK_closed _))⟩, trivial⟩ | (refine awp_skip ?_; exact ⟨_, ResL.nil, rfl, ⟨_, rfl, RlR.closed (one_cl (encK_closed _))⟩, trivial⟩))
set_option maxHeartbeats 4000000 in
theorem onThen_l (w : Kw) (hl : w.l.length ≤ 900) (h : Okk w.v 40) : FnL Tryz.prog 49 [.ptr 1000 0 0 0] [(25, [encK w])] (.tup []) [[encK (onThenD w)]] := by
 unfold onThenD
 have c1 := close_l w 1 (by omega)
 have l1 := closeD_l w 1
 have v1 := closeD_v w 1
 generalize closeD w 1 = p1 at *
 obtain ⟨k1, e1⟩ := p1
 dsimp only at *
 have h1 : Okk k1.v 40 := by rw [v1]; exact h
 have c3 := here_l k1 e1.at' h1.b (by have := h1.o; omega)
 refine FnL.of_awp (T := tt) (ok := tok) Tryz.func49 (by kernel_rfl) rfl (by kernel_rfl) (by kernel_rfl) (fun w0 st0 lent c0 => ?_)
 dsimp only [frOf, hpFrom, List.length_cons, List.length_nil]
 (repeat' (first | refine goA ?_ | refine ARun.nilCheckP rfl rfl (guardF_spec rfl) ?_ | refine ARun.fld rfl Tryz.underlying54 rfl rfl (.inr ⟨rfl, rfl⟩) rfl (guardF_spec rfl) ?_ | refine callK 1000 0 25 (encK w) (encK k1) (c1) (encK_closed _) (encK_closed _) (RelL.cons (.ptr (j := 0) 0 0 rfl) (RelL.cons (.wk (.same _) (.val _)) (RelL.nil _))) (by first | exact .same _ (.tup closedL_nil) | exact .same _ (.val _) | exact .same _ (.agg (encCf_closed _)) | exact .same _ (.tup (closedL_cons (.agg (encFo_closed _)) (closedL_cons (.val _) closedL_nil))) | exact .same _ (.tup (closedL_cons (closedV _) (closedL_cons (closedLCf _) (closedL_cons (.val _) closedL_nil))))) ?_ | refine callK 1000 0 25 (encK k1) (encK (hereD k1 e1.at')) (c3) (encK_closed _) (encK_closed _) (RelL.cons (.ptr (j := 0) 0 0 rfl) (RelL.cons (.wk (.same _) (.val _)) (RelL.nil _))) (by first | exact .same _ (.tup closedL_nil) | exact .same _ (.val _) | exact .same _ (.agg (encCf_closed _)) | exact .same _ (.tup (closedL_cons (.agg (encFo_closed _)) (closedL_cons (.val _) closedL_nil))) | exact .same _ (.tup (closedL_cons (closedV _) (closedL_cons (closedLCf _) (closedL_cons (.val _) closedL_nil))))) ?_ | refine goB ?_ | ((fail_if_success refine ARun.plain rfl ?_); refine ARun.fork rfl rfl rfl (fun h => ?_) (fun h => ?_)) | refine awp_cond rfl (fun h => ?_) (fun h => ?_)))
 (first | exact ⟨_, ResL.nil, rfl, ⟨_, rfl, RlR.closed (one_cl (encK_closed _))⟩, trivial⟩ | exact awp_ret ⟨_, ResL.nil, rfl, ⟨_, rfl, RlR.closed (one_cl (encK_closed _))⟩, trivial⟩ | (refine awp_skip ?_; exact ⟨_, ResL.nil, rfl, ⟨_, rfl, RlR.closed (one_cl (encK_closed _))⟩, trivial⟩))
set_option maxHeartbeats 4000000 in
theorem onBegin_l (w : Kw) (hl : w.l.length ≤ 900) (h : Okk w.v 40) : FnL Tryz.prog 50 [.ptr 1000 0 0 0] [(25, [encK w])] (.tup []) [[encK (onBeginD w)]] := by
 unfold onBeginD
 have c1 := open_l w ⟨2, w.v.here, []⟩ (by omega)
 refine FnL.of_awp (T := tt) (ok := tok) Tryz.func50 (by kernel_rfl) rfl (by kernel_rfl) (by kernel_rfl) (fun w0 st0 lent c0 => ?_)
 dsimp only [frOf, hpFrom, List.length_cons, List.length_nil]
 (repeat' (first | refine goA ?_ | refine ARun.nilCheckP rfl rfl (guardF_spec rfl) ?_ | refine callK 1000 0 25 (encK w) (encK (openD w ⟨2, w.v.here, []⟩)) (c1) (encK_closed _) (encK_closed _) (RelL.cons (.ptr (j := 0) 0 0 rfl) (RelL.cons (.wk (Wk.aggL (WkL.cons (.same _) (WkL.cons (.same _) (WkL.cons (by first | exact .same _ | exact .nilSl | exact .weak _ _ _) WkL.nil)))) (.agg (encCf_closed _))) (RelL.nil _))) (by first | exact .same _ (.tup closedL_nil) | exact .same _ (.val _) | exact .same _ (.agg (encCf_closed _)) | exact .same _ (.tup (closedL_cons (.agg (encFo_closed _)) (closedL_cons (.val _) closedL_nil))) | exact .same _ (.tup (closedL_cons (closedV _) (closedL_cons (closedLCf _) (closedL_cons (.val _) closedL_nil))))) ?_ | refine goB ?_ | ((fail_if_success refine ARun.plain rfl ?_); refine ARun.fork rfl rfl rfl (fun h => ?_) (fun h => ?_)) | refine awp_cond rfl (fun h => ?_) (fun h => ?_)))
 (first | exact ⟨_, ResL.nil, rfl, ⟨_, rfl, RlR.closed (one_cl (encK_closed _))⟩, trivial⟩ | exact awp_ret ⟨_, ResL.nil, rfl, ⟨_, rfl, RlR.closed (one_cl (encK_closed _))⟩, trivial⟩ | (refine awp_skip ?_; exact ⟨_, ResL.nil, rfl, ⟨_, rfl, RlR.closed (one_cl (encK_closed _))⟩, trivial⟩))
set_option maxHeartbeats 4000000 in
theorem onWhile_l (w : Kw) (hl : w.l.length ≤ 900) (h : Okk w.v 40) : FnL Tryz.prog 51 [.ptr 1000 0 0 0] [(25, [encK w])] (.tup []) [[encK (onWhileD w)]] := by
 unfold onWhileD
 have c1 := close_l w 2 (by omega)
 have l1 := closeD_l w 2
 have v1 := closeD_v w 2
 generalize closeD w 2 = p1 at *
 obtain ⟨k1, e1⟩ := p1
 dsimp only at *
 have h1 : Okk k1.v 40 := by rw [v1]; exact h
 have c2 := branch_l k1 nZb (h1.le (by omega))
 have m2a := cellD_l k1 (xtD nZb)
 have h2a : Okk (cellD k1 (xtD nZb)).v 39 := okk_cell _ h1
 generalize cellD k1 (xtD nZb) = k2a at *
 have m2 := cellD_l k2a 0
 have h2 : Okk (cellD k2a 0).v 38 := okk_cell _ h2a
 generalize cellD k2a 0 = k2 at *
 have c3 := open_l k2 ⟨1, k2a.v.here, []⟩ (by rw [m2, m2a]; omega)
 have m3 := openD_l k2 ⟨1, k2a.v.here, []⟩
 generalize openD k2 ⟨1, k2a.v.here, []⟩ = k3 at *
 have c4 := open_l k3 e1 (by rw [m2, m2a] at m3; omega)
 refine FnL.of_awp (T := tt) (ok := tok) Tryz.func51 (by kernel_rfl) rfl (by kernel_rfl) (by kernel_rfl) (fun w0 st0 lent c0 => ?_)
 dsimp only [frOf, hpFrom, List.length_cons, List.length_nil]
 (repeat' (first | refine goA ?_ | refine ARun.nilCheckP rfl rfl (guardF_spec rfl) ?_ | refine callK 1000 0 25 (encK w) (encK k1) (c1) (encK_closed _) (encK_closed _) (RelL.cons (.ptr (j := 0) 0 0 rfl) (RelL.cons (.wk (.same _) (.val _)) (RelL.nil _))) (by first | exact .same _ (.tup closedL_nil) | exact .same _ (.val _) | exact .same _ (.agg (encCf_closed _)) | exact .same _ (.tup (closedL_cons (.agg (encFo_closed _)) (closedL_cons (.val _) closedL_nil))) | exact .same _ (.tup (closedL_cons (closedV _) (closedL_cons (closedLCf _) (closedL_cons (.val _) closedL_nil))))) ?_ | refine callK 1000 0 25 (encK k1) (encK k2) (c2) (encK_closed _) (encK_closed _) (RelL.cons (.ptr (j := 0) 0 0 rfl) (RelL.cons (.wk (.same _) (.val _)) (RelL.nil _))) (by first | exact .same _ (.tup closedL_nil) | exact .same _ (.val _) | exact .same _ (.agg (encCf_closed _)) | exact .same _ (.tup (closedL_cons (.agg (encFo_closed _)) (closedL_cons (.val _) closedL_nil))) | exact .same _ (.tup (closedL_cons (closedV _) (closedL_cons (closedLCf _) (closedL_cons (.val _) closedL_nil))))) ?_ | refine callK 1000 0 25 (encK k2) (encK k3) (c3) (encK_closed _) (encK_closed _) (RelL.cons (.ptr (j := 0) 0 0 rfl) (RelL.cons (.wk (Wk.aggL (WkL.cons (.same _) (WkL.cons (.same _) (WkL.cons (by first | exact .same _ | exact .nilSl | exact .weak _ _ _) WkL.nil)))) (.agg (encCf_closed _))) (RelL.nil _))) (by first | exact .same _ (.tup closedL_nil) | exact .same _ (.val _) | exact .same _ (.agg (encCf_closed _)) | exact .same _ (.tup (closedL_cons (.agg (encFo_closed _)) (closedL_cons (.val _) closedL_nil))) | exact .same _ (.tup (closedL_cons (closedV _) (closedL_cons (closedLCf _) (closedL_cons (.val _) closedL_nil))))) ?_ | refine callK 1000 0 25 (encK k3) (encK (openD k3 e1)) (c4) (encK_closed _) (encK_closed _) (RelL.cons (.ptr (j := 0) 0 0 rfl) (RelL.cons (.wk (.same _) (by first | exact .agg (encCf_closed _) | exact closedV _ | exact closedLCf _ | (simp only [AS.ev]; done))) (RelL.nil _))) (by first | exact .same _ (.tup closedL_nil) | exact .same _ (.val _) | exact .same _ (.agg (encCf_closed _)) | exact .same _ (.tup (closedL_cons (.agg (encFo_closed _)) (closedL_cons (.val _) closedL_nil))) | exact .same _ (.tup (closedL_cons (closedV _) (closedL_cons (closedLCf _) (closedL_cons (.val _) closedL_nil))))) ?_ | refine goB ?_ | ((fail_if_success refine ARun.plain rfl ?_); refine ARun.fork rfl rfl rfl (fun h => ?_) (fun h => ?_)) | refine awp_cond rfl (fun h => ?_) (fun h => ?_)))
 (first | exact ⟨_, ResL.nil, rfl, ⟨_, rfl, RlR.closed (one_cl (encK_closed _))⟩, trivial⟩ | exact awp_ret ⟨_, ResL.nil, rfl, ⟨_, rfl, RlR.closed (one_cl (encK_closed _))⟩, trivial⟩ | (refine awp_skip ?_; exact ⟨_, ResL.nil, rfl, ⟨_, rfl, RlR.closed (one_cl (encK_closed _))⟩, trivial⟩))
set_option maxHeartbeats 4000000 in
theorem onRepeat_l (w : Kw) (hl : w.l.length ≤ 900) (h : Okk w.v 40) : FnL Tryz.prog 52 [.ptr 1000 0 0 0] [(25, [encK w])] (.tup []) [[encK (onRepeatD w)]] := by
 unfold onRepeatD
 have c1 := close_l w 2 (by omega)
 have l1 := closeD_l w 2
 have v1 := closeD_v w 2
 generalize closeD w 2 = p1 at *
 obtain ⟨k1, e1⟩ := p1
 dsimp only at *
 have h1 : Okk k1.v 40 := by rw [v1]; exact h
 have c2 := close_l k1 1 (by omega)
 have l2 := closeD_l k1 1
 have v2 := closeD_v k1 1
 generalize closeD k1 1 = p2 at *
 obtain ⟨k2, e2⟩ := p2
 dsimp only at *
 have h2 : Okk k2.v 40 := by rw [v2]; exact h1
 have c3 := word_l k2 nBr (h2.le (by omega))
 have h3 : Okk (cellD k2 (xtD nBr)).v 39 := okk_cell _ h2
 generalize cellD k2 (xtD nBr) = k3 at *
 have c4 := cell_l k3 e1.at' (h3.le (by omega))
 have h4 : Okk (cellD k3 e1.at').v 38 := okk_cell _ h3
 generalize cellD k3 e1.at' = k4 at *
 have c5 := here_l k4 e2.at' h4.b (by have := h4.o; omega)
 refine FnL.of_awp (T := tt) (ok := tok) Tryz.func52 (by kernel_rfl) rfl (by kernel_rfl) (by kernel_rfl) (fun w0 st0 lent c0 => ?_)
 dsimp only [frOf, hpFrom, List.length_cons, List.length_nil]
 (repeat' (first | refine goA ?_ | refine ARun.nilCheckP rfl rfl (guardF_spec rfl) ?_ | refine callK 1000 0 25 (encK w) (encK k1) (c1) (encK_closed _) (encK_closed _) (RelL.cons (.ptr (j := 0) 0 0 rfl) (RelL.cons (.wk (.same _) (.val _)) (RelL.nil _))) (by first | exact .same _ (.tup closedL_nil) | exact .same _ (.val _) | exact .same _ (.agg (encCf_closed _)) | exact .same _ (.tup (closedL_cons (.agg (encFo_closed _)) (closedL_cons (.val _) closedL_nil))) | exact .same _ (.tup (closedL_cons (closedV _) (closedL_cons (closedLCf _) (closedL_cons (.val _) closedL_nil))))) ?_ | refine callK 1000 0 25 (encK k1) (encK k2) (c2) (encK_closed _) (encK_closed _) (RelL.cons (.ptr (j := 0) 0 0 rfl) (RelL.cons (.wk (.same _) (.val _)) (RelL.nil _))) (by first | exact .same _ (.tup closedL_nil) | exact .same _ (.val _) | exact .same _ (.agg (encCf_closed _)) | exact .same _ (.tup (closedL_cons (.agg (encFo_closed _)) (closedL_cons (.val _) closedL_nil))) | exact .same _ (.tup (closedL_cons (closedV _) (closedL_cons (closedLCf _) (closedL_cons (.val _) closedL_nil))))) ?_ | refine callK 1000 0 25 (encK k2) (encK k3) (c3) (encK_closed _) (encK_closed _) (RelL.cons (.ptr (j := 0) 0 0 rfl) (RelL.cons (.wk (.same _) (.val _)) (RelL.nil _))) (by first | exact .same _ (.tup closedL_nil) | exact .same _ (.val _) | exact .same _ (.agg (encCf_closed _)) | exact .same _ (.tup (closedL_cons (.agg (encFo_closed _)) (closedL_cons (.val _) closedL_nil))) | exact .same _ (.tup (closedL_cons (closedV _) (closedL_cons (closedLCf _) (closedL_cons (.val _) closedL_nil))))) ?_ | refine callK 1000 0 25 (encK k3) (encK k4) (c4) (encK_closed _) (encK_closed _) (RelL.cons (.ptr (j := 0) 0 0 rfl) (RelL.cons (.wk (.same _) (.val _)) (RelL.nil _))) (by first | exact .same _ (.tup closedL_nil) | exact .same _ (.val _) | exact .same _ (.agg (encCf_closed _)) | exact .same _ (.tup (closedL_cons (.agg (encFo_closed _)) (closedL_cons (.val _) closedL_nil))) | exact .same _ (.tup (closedL_cons (closedV _) (closedL_cons (closedLCf _) (closedL_cons (.val _) closedL_nil))))) ?_ | refine callK 1000 0 25 (encK k4) (encK (hereD k4 e2.at')) (c5) (encK_closed _) (encK_closed _) (RelL.cons (.ptr (j := 0) 0 0 rfl) (RelL.cons (.wk (.same _) (.val _)) (RelL.nil _))) (by first | exact .same _ (.tup closedL_nil) | exact .same _ (.val _) | exact .same _ (.agg (encCf_closed _)) | exact .same _ (.tup (closedL_cons (.agg (encFo_closed _)) (closedL_cons (.val _) closedL_nil))) | exact .same _ (.tup (closedL_cons (closedV _) (closedL_cons (closedLCf _) (closedL_cons (.val _) closedL_nil))))) ?_ | refine goB ?_ | ((fail_if_success refine ARun.plain rfl ?_); refine ARun.fork rfl rfl rfl (fun h => ?_) (fun h => ?_)) | refine awp_cond rfl (fun h => ?_) (fun h => ?_)))
 (first | exact ⟨_, ResL.nil, rfl, ⟨_, rfl, RlR.closed (one_cl (encK_closed _))⟩, trivial⟩ | exact awp_ret ⟨_, ResL.nil, rfl, ⟨_, rfl, RlR.closed (one_cl (encK_closed _))⟩, trivial⟩ | (refine awp_skip ?_; exact ⟨_, ResL.nil, rfl, ⟨_, rfl, RlR.closed (one_cl (encK_closed _))⟩, trivial⟩))
set_option maxHeartbeats 4000000 in
theorem onUntil_l (w : Kw) (hl : w.l.length ≤ 900) (h : Okk w.v 40) : FnL Tryz.prog 53 [.ptr 1000 0 0 0] [(25, [encK w])] (.tup []) [[encK (backD w nZb)]] := by
 have c1 := back_l w nZb (by omega) (h.le (by omega))
 refine FnL.of_awp (T := tt) (ok := tok) Tryz.func53 (by kernel_rfl) rfl (by kernel_rfl) (by kernel_rfl) (fun w0 st0 lent c0 => ?_)
 dsimp only [frOf, hpFrom, List.length_cons, List.length_nil]
 (repeat' (first | refine goA ?_ | refine ARun.nilCheckP rfl rfl (guardF_spec rfl) ?_ | refine callK 1000 0 25 (encK w) (encK (backD w nZb)) (c1) (encK_closed _) (encK_closed _) (RelL.cons (.ptr (j := 0) 0 0 rfl) (RelL.cons (.wk (.same _) (.val _)) (RelL.nil _))) (by first | exact .same _ (.tup closedL_nil) | exact .same _ (.val _) | exact .same _ (.agg (encCf_closed _)) | exact .same _ (.tup (closedL_cons (.agg (encFo_closed _)) (closedL_cons (.val _) closedL_nil))) | exact .same _ (.tup (closedL_cons (closedV _) (closedL_cons (closedLCf _) (closedL_cons (.val _) closedL_nil))))) ?_ | refine goB ?_ | ((fail_if_success refine ARun.plain rfl ?_); refine ARun.fork rfl rfl rfl (fun h => ?_) (fun h => ?_)) | refine awp_cond rfl (fun h => ?_) (fun h => ?_)))
 (first | exact ⟨_, ResL.nil, rfl, ⟨_, rfl, RlR.closed (one_cl (encK_closed _))⟩, trivial⟩ | exact awp_ret ⟨_, ResL.nil, rfl, ⟨_, rfl, RlR.closed (one_cl (encK_closed _))⟩, trivial⟩ | (refine awp_skip ?_; exact ⟨_, ResL.nil, rfl, ⟨_, rfl, RlR.closed (one_cl (encK_closed _))⟩, trivial⟩))
set_option maxHeartbeats 4000000 in
theorem onAgain_l (w : Kw) (hl : w.l.length ≤ 900) (h : Okk w.v 40) : FnL Tryz.prog 54 [.ptr 1000 0 0 0] [(25, [encK w])] (.tup []) [[encK (backD w nBr)]] := by
 have c1 := back_l w nBr (by omega) (h.le (by omega))
 refine FnL.of_awp (T := tt) (ok := tok) Tryz.func54 (by kernel_rfl) rfl (by kernel_rfl) (by kernel_rfl) (fun w0 st0 lent c0 => ?_)
 dsimp only [frOf, hpFrom, List.length_cons, List.length_nil]
 (repeat' (first | refine goA ?_ | refine ARun.nilCheckP rfl rfl (guardF_spec rfl) ?_ | refine callK 1000 0 25 (encK w) (encK (backD w nBr)) (c1) (encK_closed _) (encK_closed _) (RelL.cons (.ptr (j := 0) 0 0 rfl) (RelL.cons (.wk (.same _) (.val _)) (RelL.nil _))) (by first | exact .same _ (.tup closedL_nil) | exact .same _ (.val _) | exact .same _ (.agg (encCf_closed _)) | exact .same _ (.tup (closedL_cons (.agg (encFo_closed _)) (closedL_cons (.val _) closedL_nil))) | exact .same _ (.tup (closedL_cons (closedV _) (closedL_cons (closedLCf _) (closedL_cons (.val _) closedL_nil))))) ?_ | refine goB ?_ | ((fail_if_success refine ARun.plain rfl ?_); refine ARun.fork rfl rfl rfl (fun h => ?_) (fun h => ?_)) | refine awp_cond rfl (fun h => ?_) (fun h => ?_)))
 (first | exact ⟨_, ResL.nil, rfl, ⟨_, rfl, RlR.closed (one_cl (encK_closed _))⟩, trivial⟩ | exact awp_ret ⟨_, ResL.nil, rfl, ⟨_, rfl, RlR.closed (one_cl (encK_closed _))⟩, trivial⟩ | (refine awp_skip ?_; exact ⟨_, ResL.nil, rfl, ⟨_, rfl, RlR.closed (one_cl (encK_closed _))⟩, trivial⟩))
set_option maxHeartbeats 4000000 in
theorem onDo_l (w : Kw) (hl : w.l.length ≤ 900) (h : Okk w.v 40) : FnL Tryz.prog 55 [.ptr 1000 0 0 0] [(25, [encK w])] (.tup []) [[encK (onDoD w)]] := by
 unfold onDoD
 have c1 := word_l w nDo (h.le (by omega))
 have m1 := cellD_l w (xtD nDo)
 generalize cellD w (xtD nDo) = k1 at *
 have c2 := open_l k1 ⟨3, k1.v.here, []⟩ (by rw [m1]; omega)
 refine FnL.of_awp (T := tt) (ok := tok) Tryz.func55 (by kernel_rfl) rfl (by kernel_rfl) (by kernel_rfl) (fun w0 st0 lent c0 => ?_)
 dsimp only [frOf, hpFrom, List.length_cons, List.length_nil]
 (repeat' (first | refine goA ?_ | refine ARun.nilCheckP rfl rfl (guardF_spec rfl) ?_ | refine callK 1000 0 25 (encK w) (encK k1) (c1) (encK_closed _) (encK_closed _) (RelL.cons (.ptr (j := 0) 0 0 rfl) (RelL.cons (.wk (.same _) (.val _)) (RelL.nil _))) (by first | exact .same _ (.tup closedL_nil) | exact .same _ (.val _) | exact .same _ (.agg (encCf_closed _)) | exact .same _ (.tup (closedL_cons (.agg (encFo_closed _)) (closedL_cons (.val _) closedL_nil))) | exact .same _ (.tup (closedL_cons (closedV _) (closedL_cons (closedLCf _) (closedL_cons (.val _) closedL_nil))))) ?_ | refine callK 1000 0 25 (encK k1) (encK (openD k1 ⟨3, k1.v.here, []⟩)) (c2) (encK_closed _) (encK_closed _) (RelL.cons (.ptr (j := 0) 0 0 rfl) (RelL.cons (.wk (Wk.aggL (WkL.cons (.same _) (WkL.cons (.same _) (WkL.cons (by first | exact .same _ | exact .nilSl | exact .weak _ _ _) WkL.nil)))) (.agg (encCf_closed _))) (RelL.nil _))) (by first | exact .same _ (.tup closedL_nil) | exact .same _ (.val _) | exact .same _ (.agg (encCf_closed _)) | exact .same _ (.tup (closedL_cons (.agg (encFo_closed _)) (closedL_cons (.val _) closedL_nil))) | exact .same _ (.tup (closedL_cons (closedV _) (closedL_cons (closedLCf _) (closedL_cons (.val _) closedL_nil))))) ?_ | refine goB ?_ | ((fail_if_success refine ARun.plain rfl ?_); refine ARun.fork rfl rfl rfl (fun h => ?_) (fun h => ?_)) | refine awp_cond rfl (fun h => ?_) (fun h => ?_)))
 (first | exact ⟨_, ResL.nil, rfl, ⟨_, rfl, RlR.closed (one_cl (encK_closed _))⟩, trivial⟩ | exact awp_ret ⟨_, ResL.nil, rfl, ⟨_, rfl, RlR.closed (one_cl (encK_closed _))⟩, trivial⟩ | (refine awp_skip ?_; exact ⟨_, ResL.nil, rfl, ⟨_, rfl, RlR.closed (one_cl (encK_closed _))⟩, trivial⟩))
set_option maxHeartbeats 4000000 in
theorem onAsk_l (w : Kw) (hl : w.l.length ≤ 900) (h : Okk w.v 40) : FnL Tryz.prog 56 [.ptr 1000 0 0 0] [(25, [encK w])] (.tup []) [[encK (onAskD w)]] := by
 unfold onAskD
 have c1 := branch_l w nQdo (h.le (by omega))
 have m1a := cellD_l w (xtD nQdo)
 have h1a : Okk (cellD w (xtD nQdo)).v 39 := okk_cell _ h
 generalize cellD w (xtD nQdo) = k1a at *
 have m1 := cellD_l k1a 0
 have h1 : Okk (cellD k1a 0).v 38 := okk_cell _ h1a
 generalize cellD k1a 0 = k1 at *
 have c2 := open_l k1 ⟨3, k1.v.here, [k1a.v.here]⟩ (by rw [m1, m1a]; omega)
 refine FnL.of_awp (T := tt) (ok := tok) Tryz.func56 (by kernel_rfl) rfl (by kernel_rfl) (by kernel_rfl) (fun w0 st0 lent c0 => ?_)
 dsimp only [frOf, hpFrom, List.length_cons, List.length_nil]
 (repeat' (first | refine goA ?_ | refine ARun.nilCheckP rfl rfl (guardF_spec rfl) ?_ | refine callK 1000 0 25 (encK w) (encK k1) (c1) (encK_closed _) (encK_closed _) (RelL.cons (.ptr (j := 0) 0 0 rfl) (RelL.cons (.wk (.same _) (.val _)) (RelL.nil _))) (by first | exact .same _ (.tup closedL_nil) | exact .same _ (.val _) | exact .same _ (.agg (encCf_closed _)) | exact .same _ (.tup (closedL_cons (.agg (encFo_closed _)) (closedL_cons (.val _) closedL_nil))) | exact .same _ (.tup (closedL_cons (closedV _) (closedL_cons (closedLCf _) (closedL_cons (.val _) closedL_nil))))) ?_ | refine callK 1000 0 25 (encK k1) (encK (openD k1 ⟨3, k1.v.here, [k1a.v.here]⟩)) (c2) (encK_closed _) (encK_closed _) (RelL.cons (.ptr (j := 0) 0 0 rfl) (RelL.cons (.wk (Wk.aggL (WkL.cons (.same _) (WkL.cons (.same _) (WkL.cons (by first | exact .same _ | exact .nilSl | exact .weak _ _ _) WkL.nil)))) (.agg (encCf_closed _))) (RelL.nil _))) (by first | exact .same _ (.tup closedL_nil) | exact .same _ (.val _) | exact .same _ (.agg (encCf_closed _)) | exact .same _ (.tup (closedL_cons (.agg (encFo_closed _)) (closedL_cons (.val _) closedL_nil))) | exact .same _ (.tup (closedL_cons (closedV _) (closedL_cons (closedLCf _) (closedL_cons (.val _) closedL_nil))))) ?_ | refine goB ?_ | ((fail_if_success refine ARun.plain rfl ?_); refine ARun.fork rfl rfl rfl (fun h => ?_) (fun h => ?_)) | refine awp_cond rfl (fun h => ?_) (fun h => ?_)))
 (first | exact ⟨_, ResL.nil, rfl, ⟨_, rfl, RlR.closed (one_cl (encK_closed _))⟩, trivial⟩ | exact awp_ret ⟨_, ResL.nil, rfl, ⟨_, rfl, RlR.closed (one_cl (encK_closed _))⟩, trivial⟩ | (refine awp_skip ?_; exact ⟨_, ResL.nil, rfl, ⟨_, rfl, RlR.closed (one_cl (encK_closed _))⟩, trivial⟩))
set_option maxHeartbeats 4000000 in
theorem onLoop_l (w : Kw) (hl : w.l.length ≤ 900) (h : Okk w.v 1000) (hv : ∀ c, c ∈ w.l → c.lv.length ≤ 100) : FnL Tryz.prog 57 [.ptr 1000 0 0 0] [(25, [encK w])] (.tup []) [[encK (endD w nLp)]] := by
 have c1 := end_l w nLp (by omega) h hv
 refine FnL.of_awp (T := tt) (ok := tok) Tryz.func57 (by kernel_rfl) rfl (by kernel_rfl) (by kernel_rfl) (fun w0 st0 lent c0 => ?_)
 dsimp only [frOf, hpFrom, List.length_cons, List.length_nil]
 (repeat' (first | refine goA ?_ | refine ARun.nilCheckP rfl rfl (guardF_spec rfl) ?_ | refine callK 1000 0 25 (encK w) (encK (endD w nLp)) (c1) (encK_closed _) (encK_closed _) (RelL.cons (.ptr (j := 0) 0 0 rfl) (RelL.cons (.wk (.same _) (.val _)) (RelL.nil _))) (by first | exact .same _ (.tup closedL_nil) | exact .same _ (.val _) | exact .same _ (.agg (encCf_closed _)) | exact .same _ (.tup (closedL_cons (.agg (encFo_closed _)) (closedL_cons (.val _) closedL_nil))) | exact .same _ (.tup (closedL_cons (closedV _) (closedL_cons (closedLCf _) (closedL_cons (.val _) closedL_nil))))) ?_ | refine goB ?_ | ((fail_if_success refine ARun.plain rfl ?_); refine ARun.fork rfl rfl rfl (fun h => ?_) (fun h => ?_)) | refine awp_cond rfl (fun h => ?_) (fun h => ?_)))
 (first | exact ⟨_, ResL.nil, rfl, ⟨_, rfl, RlR.closed (one_cl (encK_closed _))⟩, trivial⟩ | exact awp_ret ⟨_, ResL.nil, rfl, ⟨_, rfl, RlR.closed (one_cl (encK_closed _))⟩, trivial⟩ | (refine awp_skip ?_; exact ⟨_, ResL.nil, rfl, ⟨_, rfl, RlR.closed (one_cl (encK_closed _))⟩, trivial⟩))
set_option maxHeartbeats 4000000 in
theorem onPlus_l (w : Kw) (hl : w.l.length ≤ 900) (h : Okk w.v 1000) (hv : ∀ c, c ∈ w.l → c.lv.length ≤ 100) : FnL Tryz.prog 58 [.ptr 1000 0 0 0] [(25, [encK w])] (.tup []) [[encK (endD w nPl)]] := by
 have c1 := end_l w nPl (by omega) h hv
 refine FnL.of_awp (T := tt) (ok := tok) Tryz.func58 (by kernel_rfl) rfl (by kernel_rfl) (by kernel_rfl) (fun w0 st0 lent c0 => ?_)
 dsimp only [frOf, hpFrom, List.length_cons, List.length_nil]
 (repeat' (first | refine goA ?_ | refine ARun.nilCheckP rfl rfl (guardF_spec rfl) ?_ | refine callK 1000 0 25 (encK w) (encK (endD w nPl)) (c1) (encK_closed _) (encK_closed _) (RelL.cons (.ptr (j := 0) 0 0 rfl) (RelL.cons (.wk (.same _) (.val _)) (RelL.nil _))) (by first | exact .same _ (.tup closedL_nil) | exact .same _ (.val _) | exact .same _ (.agg (encCf_closed _)) | exact .same _ (.tup (closedL_cons (.agg (encFo_closed _)) (closedL_cons (.val _) closedL_nil))) | exact .same _ (.tup (closedL_cons (closedV _) (closedL_cons (closedLCf _) (closedL_cons (.val _) closedL_nil))))) ?_ | refine goB ?_ | ((fail_if_success refine ARun.plain rfl ?_); refine ARun.fork rfl rfl rfl (fun h => ?_) (fun h => ?_)) | refine awp_cond rfl (fun h => ?_) (fun h => ?_)))
 (first | exact ⟨_, ResL.nil, rfl, ⟨_, rfl, RlR.closed (one_cl (encK_closed _))⟩, trivial⟩ | exact awp_ret ⟨_, ResL.nil, rfl, ⟨_, rfl, RlR.closed (one_cl (encK_closed _))⟩, trivial⟩ | (refine awp_skip ?_; exact ⟨_, ResL.nil, rfl, ⟨_, rfl, RlR.closed (one_cl (encK_closed _))⟩, trivial⟩))
end Go.Proofs.YtpkkplojpjakiaaGreat
namespace Go.Proofs.YtpkkplojpjakiaaGreat
open Go Go.RowKit
open Dict (St Bs bs_eq Wd encW encWs closed_ws)
open Mem (Mm encM encBs closed_bs encP encP_closed closed_m storeD fetchD commaD)
open Stk (encS closed_s)
set_option maxRecDepth 100000
def loopFrom (l : List Cfr) : Nat → Int
 | 0 => -1
 | n + 1 => match l[n]? with
  | some c => if c.kind = 3 then (n : Int) else loopFrom l n
  | none => loopFrom l n
def loopAt (l : List Cfr) : Int := loopFrom l l.length
theorem loop_hit {l : List Cfr} {n : Nat} {c : Cfr} (h : l[n]? = some c) (hk : c.kind = 3) : loopFrom l (n + 1) = n := by
 rw [loopFrom, h]
 exact if_pos hk
theorem loop_miss {l : List Cfr} {n : Nat} {c : Cfr} (h : l[n]? = some c) (hk : c.kind ≠ 3) : loopFrom l (n + 1) = loopFrom l n := by
 rw [loopFrom, h]
 exact if_neg hk
def addLv (l : List Cfr) (i : Nat) (a : Int) : List Cfr := match l[i]? with
 | some c => l.set i ⟨c.kind, c.at', c.lv ++ [a]⟩
 | none => l
def leavesAt (l : List Cfr) (i : Int) : Nat := match l[i.toNat]? with
 | some c => c.lv.length
 | none => 0
def onLeaveD (w : Kw) : Kw := if loopAt w.l < 0 ∨ 32 ≤ leavesAt w.l (loopAt w.l) then failD w (-22) else ⟨(cellD (cellD (cellD w (xtD nUn)) (xtD nBr)) 0).v, addLv w.l (loopAt w.l).toNat (cellD (cellD w (xtD nUn)) (xtD nBr)).v.here, (cellD (cellD (cellD w (xtD nUn)) (xtD nBr)) 0).bad⟩
theorem Reif.ownSet {s : AS} {b g gen i j : Nat} {L : List Cfr} {c' : Cfr} {el : List AV} (hb : lkH s.hp b = some ⟨gen, 3, (L.map encCf).set j el⟩) (hj : i = j) (hg : gen = g) (hel : RL s el (encCf c')) : Reif s (.own b g 0 (L.map encCf).length) (encLCf (L.set i c')) := by
 subst hj
 refine Reif.own (blk := ⟨gen, 3, (L.map encCf).set i el⟩) hb hg (by simp) (by simp) ?_ ?_
 ·intro j e e' h1 h2
  rw [Nat.zero_add, List.getElem?_set] at h1
  rw [List.getElem?_map, List.getElem?_set] at h2
  have h3 : e'.length = 3 := by
   obtain ⟨x, _, rfl⟩ := Option.map_eq_some_iff.1 h2
   rfl
  rw [h3]
  split at h1
  ·split at h1
   ·obtain rfl := Option.some.inj h1
    have := hel.1
    exact this
   ·cases h1
  ·rw [List.getElem?_map] at h1
   obtain ⟨x, _, rfl⟩ := Option.map_eq_some_iff.1 h1
   rfl
 ·intro j e e' f x x' h1 h2 h3 h4
  rw [Nat.zero_add, List.getElem?_set] at h1
  rw [List.getElem?_map, List.getElem?_set] at h2
  by_cases hj : i = j
  ·rw [if_pos hj] at h1 h2
   split at h1
   ·rename_i hlt
    rw [if_pos (by rw [List.length_map] at hlt; omega)] at h2
    obtain rfl := Option.some.inj h1
    obtain rfl := Option.some.inj h2
    exact hel.2 f x x' h3 h4
   ·cases h1
  ·rw [if_neg hj] at h1 h2
   rw [List.getElem?_map] at h1
   rw [h1] at h2
   obtain rfl := Option.some.inj h2
   rw [h3] at h4
   obtain rfl := Option.some.inj h4
   obtain ⟨y, _, rfl⟩ := Option.map_eq_some_iff.1 h1
   exact .closed _ (encCf_closed y _ (List.mem_of_getElem? h3))
attribute [local irreducible] Decidable.decide awp ARun regK toK
theorem cfclone_o (l : List Cfr) (hl : l.length ≤ 1000000) : FnO Tryz.prog 82 [encLCf l] 3 (l.map encCf) (fun b g => .own b g 0 (l.map encCf).length) := by
 refine FnO.of_awp (T := tt) (ok := tok) Tryz.func82 (by kernel_rfl) rfl (by kernel_rfl) (closedL_cons (closedLCf l) closedL_nil) rfl (own_closed_map encCf_closed) (fun w0 st0 => ?_)
 dsimp only [frOf]
 cases l with
 | nil =>
  (repeat' (first | refine goA ?_ | refine ARun.eqNil rfl rfl rfl rfl (guardF_spec rfl) ?_ | refine appF rfl ?_ | refine awp_condAny rfl ?_ ?_ | refine goB ?_ | ((fail_if_success refine ARun.plain rfl ?_); refine ARun.fork rfl rfl rfl (fun h => ?_) (fun h => ?_)) | refine awp_cond rfl (fun h => ?_) (fun h => ?_)))
  ·refine awp_ownNil 2 3 rfl rfl rfl ?_
   refine awp_ret ⟨_, _, _, _, rfl, .cons rfl (.own 0 _) .nil, fun _ _ => rfl⟩
  ·refine awp_ret ⟨_, _, _, _, rfl, .cons rfl (.own 0 _) .nil, fun _ _ => rfl⟩
 | cons y l =>
  (repeat' (first | refine goA ?_ | refine ARun.eqNil rfl rfl rfl rfl (guardF_spec rfl) ?_ | refine appF rfl ?_ | refine goB ?_ | ((fail_if_success refine ARun.plain rfl ?_); refine ARun.fork rfl rfl rfl (fun h => ?_) (fun h => ?_)) | refine awp_cond rfl (fun h => ?_) (fun h => ?_)))
  refine awp_ret ⟨_, _, _, _, rfl, .cons rfl (.own 0 _) .nil, fun _ _ => rfl⟩
set_option maxHeartbeats 8000000 in
theorem onLeave_l (w : Kw) (hl : w.l.length ≤ 900) (h : Okk w.v 40) (hv : ∀ c, c ∈ w.l → c.lv.length ≤ 100) : FnL Tryz.prog 59 [.ptr 1000 0 0 0] [(25, [encK w])] (.tup []) [[encK (onLeaveD w)]] := by
 have e0 : (((w.l.map encCf).length : Nat) : Int) = w.l.length := by rw [List.length_map]
 refine FnL.of_awp (T := tt) (ok := tok) Tryz.func59 (by kernel_rfl) rfl (by kernel_rfl) (by kernel_rfl) (fun w0 st0 lent c0 => ?_)
 dsimp only [frOf, hpFrom, List.length_cons, List.length_nil]
 (repeat' (first | refine goA ?_ | refine ARun.nilCheckP rfl rfl (guardF_spec rfl) ?_ | refine goB ?_ | ((fail_if_success refine ARun.plain rfl ?_); refine ARun.fork rfl rfl rfl (fun h => ?_) (fun h => ?_)) | refine awp_cond rfl (fun h => ?_) (fun h => ?_)))
 refine awp_loopT (T := Nat × Nat) (fun t => ⟨[(2, .val (.int .i64 ((t.1 : Nat) - 1 : Int))), (0, .ptr 1000 0 0 0)], [(1000, some ⟨0, 25, [encK w]⟩)], t.2⟩) (fun t => t.1 ≤ w.l.length ∧ loopAt w.l = loopFrom w.l t.1) (fun t => t.1) ((w.l.map encCf).length, _) ⟨by rw [List.length_map]; exact Nat.le_refl _, by rw [List.length_map]; rfl⟩ ⟨⟨rfl, rfl, trivial⟩, ⟨rfl, trivial⟩, Nat.le_refl _⟩ (fun t ht => ?_)
 obtain ⟨t, gc⟩ := t
 obtain ⟨ht, hA⟩ := ht
 dsimp only at ht hA ⊢
 cases t with
 | zero =>
  rw [show (((0 : Nat)) : Int) - 1 = -1 from rfl]
  have d1 : decide ((0 : Int) ≤ -1) = false := decide_eq_false (by omega)
  have d2 : decide ((-1 : Int) < 0) = true := decide_eq_true (by omega)
  have hD : onLeaveD w = failD w (-22) := by unfold onLeaveD; exact if_pos (.inl (by rw [hA]; show (-1 : Int) < 0; omega))
  have c1 := fail_l w (-22)
  rw [← hD] at c1
  (repeat' (first | refine goA ?_ | refine ARun.nilCheckP rfl rfl (guardF_spec rfl) ?_ | refine callK 1000 0 25 (encK w) (encK (onLeaveD w)) (c1) (encK_closed _) (encK_closed _) (RelL.cons (.ptr (j := 0) 0 0 rfl) (RelL.cons (.wk (.same _) (.val _)) (RelL.nil _))) (by first | exact .same _ (.tup closedL_nil) | exact .same _ (.val _) | exact .same _ (.agg (encCf_closed _)) | exact .same _ (.tup (closedL_cons (.agg (encFo_closed _)) (closedL_cons (.val _) closedL_nil))) | exact .same _ (.tup (closedL_cons (closedV _) (closedL_cons (closedLCf _) (closedL_cons (.val _) closedL_nil))))) ?_ | refine goB ?_ | fail))
  exact awp_ret ⟨_, ResL.nil, rfl, ⟨_, rfl, RlR.closed (one_cl (encK_closed _))⟩, trivial⟩
 | succ k =>
  rw [show (((k + 1 : Nat)) : Int) - 1 = (k : Int) by omega]
  have d1 : decide ((0 : Int) ≤ ((k : Nat) : Int)) = true := decide_eq_true (by omega)
  have d2 : decide (((k : Nat) : Int) < 0) = false := decide_eq_false (by omega)
  have hp : w.l[k]? = some w.l[k] := List.getElem?_eq_getElem (by omega)
  have hm : w.l[k] ∈ w.l := List.getElem_mem _
  generalize w.l[k] = c at hp hm
  by_cases hk : c.kind = 3
  case neg =>
   have d3 : (c.kind != 3) = true := by simp [hk]
   (repeat' (first | refine goA ?_ | refine ARun.nilCheckP rfl rfl (guardF_spec rfl) ?_ | refine ARun.indexAddr rfl rfl (by omega) (by first | with_reducible exact get_map hp | with_reducible exact get_map hpw) rfl rfl rfl rfl rfl (guardF_spec rfl) ?_ | refine goB ?_ | fail))
   exact ⟨(k, _), ⟨⟨rfl, rfl, trivial⟩, ⟨rfl, trivial⟩, Nat.le_refl _⟩, ⟨by dsimp only; omega, by dsimp only; rw [hA, loop_miss hp hk]⟩, by dsimp only; omega⟩
  have d3 : (c.kind != 3) = false := by simp [hk]
  rw [loop_hit hp hk] at hA
  have hcl : (((c.lv.map encI).length : Nat) : Int) = c.lv.length := by rw [List.length_map]
  have hla : leavesAt w.l (loopAt w.l) = c.lv.length := by unfold leavesAt; rw [hA, Int.toNat_natCast, hp]
  by_cases h32 : 32 ≤ c.lv.length
  ·have d4 : decide ((32 : Int) ≤ (((c.lv.map encI).length : Nat) : Int)) = true := decide_eq_true (by omega)
   have hD : onLeaveD w = failD w (-22) := by unfold onLeaveD; exact if_pos (.inr (by omega))
   have c1 := fail_l w (-22)
   rw [← hD] at c1
   (repeat' (first | refine goA ?_ | refine ARun.nilCheckP rfl rfl (guardF_spec rfl) ?_ | refine ARun.indexAddr rfl rfl (by omega) (by first | with_reducible exact get_map hp | with_reducible exact get_map hpw) rfl rfl rfl rfl rfl (guardF_spec rfl) ?_ | refine callK 1000 0 25 (encK w) (encK (onLeaveD w)) (c1) (encK_closed _) (encK_closed _) (RelL.cons (.ptr (j := 0) 0 0 rfl) (RelL.cons (.wk (.same _) (.val _)) (RelL.nil _))) (by first | exact .same _ (.tup closedL_nil) | exact .same _ (.val _) | exact .same _ (.agg (encCf_closed _)) | exact .same _ (.tup (closedL_cons (.agg (encFo_closed _)) (closedL_cons (.val _) closedL_nil))) | exact .same _ (.tup (closedL_cons (closedV _) (closedL_cons (closedLCf _) (closedL_cons (.val _) closedL_nil))))) ?_ | refine goB ?_ | fail))
   exact awp_ret ⟨_, ResL.nil, rfl, ⟨_, rfl, RlR.closed (one_cl (encK_closed _))⟩, trivial⟩
  have d4 : decide ((32 : Int) ≤ (((c.lv.map encI).length : Nat) : Int)) = false := decide_eq_false (by omega)
  have hD : onLeaveD w = ⟨(cellD (cellD (cellD w (xtD nUn)) (xtD nBr)) 0).v, w.l.set k ⟨c.kind, c.at', c.lv ++ [(cellD (cellD w (xtD nUn)) (xtD nBr)).v.here]⟩, (cellD (cellD (cellD w (xtD nUn)) (xtD nBr)) 0).bad⟩ := by
   unfold onLeaveD
   rw [if_neg (by omega), hA, Int.toNat_natCast]
   unfold addLv
   rw [hp]
  rw [hD]
  have hlv := hv c hm
  have c1 := word_l w nUn (h.le (by omega))
  have m1 := cellD_l w (xtD nUn)
  have h1 : Okk (cellD w (xtD nUn)).v 39 := okk_cell _ h
  generalize cellD w (xtD nUn) = k1 at *
  have c2 := branch_l k1 nBr (h1.le (by omega))
  have m2 := cellD_l k1 (xtD nBr)
  generalize cellD k1 (xtD nBr) = k2a at *
  have m3 := cellD_l k2a 0
  generalize cellD k2a 0 = k2 at *
  have ek : k2.l = w.l := by rw [m3, m2, m1]
  have c3 := cfclone_o k2.l (by rw [ek]; omega)
  have hpw := hp
  rw [← ek] at hp ⊢
  have c4 := Stk.clip_c c.lv (by omega)
  have he : (k2.l.map encCf)[0 + ((k : Nat) : Int).toNat]? = some (encCf c) := by rw [Nat.zero_add, Int.toNat_natCast]; exact get_map hp
  have hix : k < (k2.l.map encCf).length := by rw [List.length_map]; exact (List.getElem?_eq_some_iff.1 hp).1
  rw [← ek] at hv hl e0 ht hA hla
  clear hv hla hA hD
  have elv : encCf ⟨c.kind, c.at', c.lv ++ [k2a.v.here]⟩ = [.val (.int .i64 c.kind), .val (.int .i64 c.at'), .sl 1 false (c.lv.map encI ++ [encI k2a.v.here])] := by unfold encCf encS; rw [List.map_append]; rfl
  (repeat' (first | refine goA ?_ | refine ARun.nilCheckP rfl rfl (guardF_spec rfl) ?_ | refine ARun.indexAddr rfl rfl (by omega) (by first | with_reducible exact get_map hp | with_reducible exact get_map hpw) rfl rfl rfl rfl rfl (guardF_spec rfl) ?_ | refine callK 1000 0 25 (encK w) (encK k1) (c1) (encK_closed _) (encK_closed _) (RelL.cons (.ptr (j := 0) 0 0 rfl) (RelL.cons (.wk (.same _) (.val _)) (RelL.nil _))) (by first | exact .same _ (.tup closedL_nil) | exact .same _ (.val _) | exact .same _ (.agg (encCf_closed _)) | exact .same _ (.tup (closedL_cons (.agg (encFo_closed _)) (closedL_cons (.val _) closedL_nil))) | exact .same _ (.tup (closedL_cons (closedV _) (closedL_cons (closedLCf _) (closedL_cons (.val _) closedL_nil))))) ?_ | refine callK 1000 0 25 (encK k1) (encK k2) (c2) (encK_closed _) (encK_closed _) (RelL.cons (.ptr (j := 0) 0 0 rfl) (RelL.cons (.wk (.same _) (.val _)) (RelL.nil _))) (by first | exact .same _ (.tup closedL_nil) | exact .same _ (.val _) | exact .same _ (.agg (encCf_closed _)) | exact .same _ (.tup (closedL_cons (.agg (encFo_closed _)) (closedL_cons (.val _) closedL_nil))) | exact .same _ (.tup (closedL_cons (closedV _) (closedL_cons (closedLCf _) (closedL_cons (.val _) closedL_nil))))) ?_ | refine callOX [] (c3) (BsOk.nil _) rfl fzT rfl rfl ?_ | refine cX c4 ?_ | refine ARun.indexAddr_own rfl rfl rfl rfl lensT lensT rfl rfl rfl rfl rfl (guardF_spec rfl) ?_ | refine ARun.loadOne rfl rfl rfl he rfl rfl rfl rfl (guardF_spec rfl) ?_ | refine ARun.buildSliceO rfl rfl rfl rfl rfl rfl rfl (buildSF_spec rfl) rfl (guardF_spec rfl) ?_ | refine appF rfl ?_ | refine ARun.storeAt rfl rfl rfl he rfl rfl rfl rfl rfl rfl (guardF_spec rfl) ?_ | refine goB ?_ | fail))
  exact ⟨_, ResL.nil, rfl, ⟨_, rfl, RlR.cons (RlL.cons (.reif (.closed _ (.val _))) (RlL.cons (.reif (.closed _ (.val _))) (RlL.cons (.reif (.closed _ (.val _))) (RlL.cons (.reif (.closed _ (.val _))) (RlL.cons (.reif (.closed _ (.val _))) (RlL.cons (.reif (.closed _ (closed_bs _))) (RlL.cons (.reif (.closed _ (closed_map encP_closed))) (RlL.cons (.reif (.closed _ (.val _))) (RlL.cons (.reif (.closed _ (closed_s _))) (RlL.cons (.reif (.closed _ (closed_s _))) (RlL.cons (.reif (.closed _ (closedFr _))) (RlL.cons (.reif (.closed _ (closed_ws _))) (RlL.cons (.reif (.closed _ (.val _))) (RlL.cons (.reif (.closed _ (closed_bs _))) (RlL.cons (.reif (.closed _ (closed_bs _))) (RlL.cons (.reif (.closed _ (.val _))) (RlL.cons (.reif (.closed _ (closedRq _))) (RlL.cons (.reif (.closed _ (.val _))) (RlL.cons (.reif (.closed _ (.val _))) (RlL.cons (.reif (.closed _ (.val _))) (RlL.cons (.reif (.closed _ (.val _))) (RlL.cons (.reif (.closed _ (.val _))) (RlL.cons (.reif (.closed _ (closedHn _))) (RlL.cons (.reif (Reif.ownSet (c' := ⟨c.kind, c.at', c.lv ++ [k2a.v.here]⟩) rfl (by rw [Nat.zero_add, Int.toNat_natCast]) rfl (by rw [elv]; exact RL.cons (.val _) (RL.cons (.val _) (RL.cons (Reif.owned rfl rfl rfl (own_closed_app Stk.encI_closed (Stk.encI_closed _))) (RL.nil _)))))) (RlL.cons (.reif (.closed _ (.val _))) (RlL.nil _ _)))))))))))))))))))))))))) (RlR.nil _ _)⟩, trivial⟩
end Go.Proofs.YtpkkplojpjakiaaGreat
namespace Go.Proofs.YtpkkplojpjakiaaGreat
open Go Go.RowKit
open Dict (St Bs bs_eq Wd encW encWs closed_ws)
open Mem (Mm encM encBs closed_bs encP encP_closed closed_m storeD fetchD commaD)
open Stk (encS closed_s)
set_option maxRecDepth 100000
def nmC : List Bs := [[73, 70], [69, 76, 83, 69], [84, 72, 69, 78], [66, 69, 71, 73, 78], [87, 72, 73, 76, 69], [82, 69, 80, 69, 65, 84], [85, 78, 84, 73, 76], [65, 71, 65, 73, 78], [68, 79], [63, 68, 79], [76, 79, 79, 80], [43, 76, 79, 79, 80], [76, 69, 65, 86, 69]]
def OkC (c : Cfr) : Prop := (1 ≤ c.kind ∧ c.kind ≤ 3) ∧ c.lv.length ≤ 32 ∧ (c.kind = 3 ∨ c.lv.length = 0)
def RightC (l : List Cfr) : Prop := (∀ c, c ∈ l → OkC c) ∧ l.length ≤ 32
def FewC (l : List Cfr) : Prop := (∀ c, c ∈ l → c.lv.length ≤ 40) ∧ l.length ≤ 40
attribute [local irreducible] Decidable.decide awp ARun regK toK
theorem cnames_c : FnC Tryz.prog 14 [] (.sl 1 true (nmC.map encN)) := by
 refine goF Tryz.func14 closedL_nil (fun w0 st0 => ?_)
 dsimp only [frOf]
 (repeat' (first | refine goA ?_ | refine goB ?_ | ((fail_if_success refine ARun.plain rfl ?_); refine ARun.fork rfl rfl rfl (fun h => ?_) (fun h => ?_)) | refine awp_cond rfl (fun h => ?_) (fun h => ?_)))
 refine awp_ret ⟨_, ResL.cons (ResA.tmp (.closed (.sl 1 true (nmC.map encN)) (closed_map encN_closed))) .nil, rfl⟩
set_option maxHeartbeats 8000000 in
theorem cright_c (l : List Cfr) (hl : l.length ≤ 1000000) : FnC Tryz.prog 15 [encLCf l] (.val (.bool (pD (RightC l)))) := by
 refine goF Tryz.func15 (closedL_cons (closedLCf l) closedL_nil) (fun w0 st0 => ?_)
 dsimp only [frOf]
 (repeat' (first | refine goA ?_ | refine goB ?_ | ((fail_if_success refine ARun.plain rfl ?_); refine ARun.fork rfl rfl rfl (fun h => ?_) (fun h => ?_)) | refine awp_cond rfl (fun h => ?_) (fun h => ?_)))
 refine awp_loopT (T := Nat × Nat) (fun t => ⟨[(7, .val (.int .i64 (t.1 : Nat))), (6, .val (.int .i64 ((l.map encCf).length : Nat))), (5, encLCf l), (0, encLCf l)], [], t.2⟩) (fun t => t.1 ≤ l.length ∧ ∀ x, x ∈ l.take t.1 → OkC x) (fun t => l.length - t.1) (0, _) ⟨Nat.zero_le _, fun w h => by cases h⟩ ⟨⟨rfl, rfl, rfl, rfl, trivial⟩, trivial, Nat.le_refl _⟩ (fun t ht => ?_)
 obtain ⟨i, gc⟩ := t
 obtain ⟨hi, hA⟩ := ht
 dsimp only at hi hA ⊢
 by_cases hlt : i < l.length
 ·have hc : decide (((i : Nat) : Int) < ((l.map encCf).length : Nat)) = true := by simp; omega
  have hp : l[i]? = some l[i] := List.getElem?_eq_getElem hlt
  have hm : l[i] ∈ l := List.getElem_mem hlt
  generalize l[i] = x at hp hm
  have e1 : (((x.lv.map encI).length : Nat) : Int) = x.lv.length := by rw [List.length_map]
  have bad : ¬ OkC x → pD (RightC l) = false := fun hn => pD_no (fun h => hn (h.1 x hm))
  have hsn := fun h => mem_snocG hp hA h
  unfold OkC at bad hsn
  by_cases k1 : x.kind < 1
  ·have d1 : decide (x.kind < 1) = true := decide_eq_true k1
   rw [bad (fun h => by have := h.1.1; omega)]
   (repeat' (first | refine goA ?_ | refine ARun.indexAddr rfl rfl (by omega) (by first | with_reducible exact get_map hp | with_reducible exact get_map hp) rfl rfl rfl rfl rfl (guardF_spec rfl) ?_ | refine goB ?_ | fail))
   exact awp_ret ⟨_, ResL.cons (ResA.tmp (.val _)) .nil, rfl⟩
  have d1 : decide (x.kind < 1) = false := decide_eq_false k1
  by_cases k2 : 3 < x.kind
  ·have d2 : decide (3 < x.kind) = true := decide_eq_true k2
   rw [bad (fun h => by have := h.1.2; omega)]
   (repeat' (first | refine goA ?_ | refine ARun.indexAddr rfl rfl (by omega) (by first | with_reducible exact get_map hp | with_reducible exact get_map hp) rfl rfl rfl rfl rfl (guardF_spec rfl) ?_ | refine goB ?_ | fail))
   exact awp_ret ⟨_, ResL.cons (ResA.tmp (.val _)) .nil, rfl⟩
  have d2 : decide (3 < x.kind) = false := decide_eq_false k2
  by_cases k3 : 32 < x.lv.length
  ·have d3 : decide ((32 : Int) < (((x.lv.map encI).length : Nat) : Int)) = true := decide_eq_true (by omega)
   rw [bad (fun h => by have := h.2.1; omega)]
   (repeat' (first | refine goA ?_ | refine ARun.indexAddr rfl rfl (by omega) (by first | with_reducible exact get_map hp | with_reducible exact get_map hp) rfl rfl rfl rfl rfl (guardF_spec rfl) ?_ | refine goB ?_ | fail))
   exact awp_ret ⟨_, ResL.cons (ResA.tmp (.val _)) .nil, rfl⟩
  have d3 : decide ((32 : Int) < (((x.lv.map encI).length : Nat) : Int)) = false := decide_eq_false (by omega)
  by_cases k4 : x.kind = 3
  ·have d4 : (x.kind != 3) = false := by simp [k4]
   (repeat' (first | refine goA ?_ | refine ARun.indexAddr rfl rfl (by omega) (by first | with_reducible exact get_map hp | with_reducible exact get_map hp) rfl rfl rfl rfl rfl (guardF_spec rfl) ?_ | refine goB ?_ | fail))
   exact ⟨(i + 1, _), ⟨⟨succI i, rfl, rfl, rfl, trivial⟩, trivial, Nat.le_refl _⟩, ⟨hlt, hsn ⟨⟨by omega, by omega⟩, by omega, .inl k4⟩⟩, (by dsimp only; omega)⟩
  have d4 : (x.kind != 3) = true := by simp [k4]
  by_cases k5 : x.lv.length = 0
  ·have d5 : decide ((0 : Int) < (((x.lv.map encI).length : Nat) : Int)) = false := decide_eq_false (by omega)
   (repeat' (first | refine goA ?_ | refine ARun.indexAddr rfl rfl (by omega) (by first | with_reducible exact get_map hp | with_reducible exact get_map hp) rfl rfl rfl rfl rfl (guardF_spec rfl) ?_ | refine goB ?_ | fail))
   exact ⟨(i + 1, _), ⟨⟨succI i, rfl, rfl, rfl, trivial⟩, trivial, Nat.le_refl _⟩, ⟨hlt, hsn ⟨⟨by omega, by omega⟩, by omega, .inr k5⟩⟩, (by dsimp only; omega)⟩
  ·have d5 : decide ((0 : Int) < (((x.lv.map encI).length : Nat) : Int)) = true := decide_eq_true (by omega)
   rw [bad (fun h => by rcases h.2.2 with h | h; exact k4 h; exact k5 h)]
   (repeat' (first | refine goA ?_ | refine ARun.indexAddr rfl rfl (by omega) (by first | with_reducible exact get_map hp | with_reducible exact get_map hp) rfl rfl rfl rfl rfl (guardF_spec rfl) ?_ | refine goB ?_ | fail))
   exact awp_ret ⟨_, ResL.cons (ResA.tmp (.val _)) .nil, rfl⟩
 have hii : i = l.length := by omega
 subst hii
 have hc : decide (((l.length : Nat) : Int) < ((l.map encCf).length : Nat)) = false := by simp
 rw [List.take_length] at hA
 have e1 : (((l.map encCf).length : Nat) : Int) = l.length := by rw [List.length_map]
 (repeat' (first | refine goA ?_ | refine goB ?_ | ((fail_if_success refine ARun.plain rfl ?_); refine ARun.fork rfl rfl rfl (fun h => ?_) (fun h => ?_)) | refine awp_cond rfl (fun h => ?_) (fun h => ?_)))
 refine awp_ret ⟨_, ResL.cons (ResA.tmp (.val _)) .nil, congrArg (fun b => AV.val (.bool b)) ?_⟩
 rw [show pD (RightC l) = pD (l.length ≤ 32) from pD_congr ⟨fun h => h.2, fun h => ⟨hA, h⟩⟩, ← dec_pD]
 exact decide_eq_decide.2 (by omega)
end Go.Proofs.YtpkkplojpjakiaaGreat
