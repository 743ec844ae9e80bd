/- yB17, yB15, yB16, yB18, yB19. -/
import Derived.Test.YtfphgelollhdhaaGreatW1
import Derived.Test.YtfphgelollhdhaaGreatW2
import Derived.Test.YtfphgelollhdhaaGreatW3
import Derived.Test.YtfphgelollhdhaaGreatW4
import Derived.Test.YtfphgelollhdhaaGreatyW5
import Derived.Test.YtfphgelollhdhaaGreatyW6
import Derived.Test.YtfphgelollhdhaaGreatyW7
import Derived.Test.YtfphgelollhdhaaGreatyW8
import Derived.Test.YtfphgelollhdhaaGreatyW9
import Derived.Test.YtfphgelollhdhaaGreatyW10
import Derived.Test.YtfphgelollhdhaaGreatyW11
import Derived.Test.YtfphgelollhdhaaGreatyW12
import Derived.Test.YtfphgelollhdhaaGreatyW13
import Derived.Test.YtfphgelollhdhaaGreatyW14
import Derived.Test.YtfphgelollhdhaaGreatyW15
import Derived.Test.YtfphgelollhdhaaGreatyW16
import Derived.Test.YtfphgelollhdhaaGreatyW17
import Derived.Test.YtfphgelollhdhaaGreatyW18
import Derived.Test.YtfphgelollhdhaaGreatyW19
import Derived.Test.YtfphgelollhdhaaGreatyW20
import Derived.Test.YtfphgelollhdhaaGreatyW21
import Derived.Test.YtfphgelollhdhaaGreatyW22
import Derived.Test.YtfphgelollhdhaaGreatyW23
import Derived.Test.YtfphgelollhdhaaGreatyW24
import Derived.Test.YtfphgelollhdhaaGreatyW25
set_option linter.unusedVariables false
set_option linter.unusedSimpArgs false
namespace Go.Proofs.YtfphgelollhdhaaGreat
open Go Go.RowKit
open Go.Proofs.YtfphgelollhdhaaGreat.Dict (St Bs bs_eq Wd encW encWs closed_ws findD encFd NameIn)
open Go.Proofs.YtfphgelollhdhaaGreat.Mem (Mm encM encBs closed_bs encP encP_closed closed_m storeD fetchD)
open Go.Proofs.YtfphgelollhdhaaGreat.Stk (encS closed_s encI_closed)
open Gen (Nod encD encD_closed encD_eq encTr closed_tr NC NC_closed)
set_option maxRecDepth 100000
attribute [local irreducible] Decidable.decide awp ARun regK toK
set_option maxHeartbeats 4000000 in
theorem parse_c (v : V) (ws : List Bs) (hv : VOk v) (hl : ws.length ≤ 1000) (hws : ∀ w, w ∈ ws → w.length ≤ 1000 ∧ w ≠ []) : FnC Tryz.prog 6 [.agg (encV v), .sl 1 false (ws.map encN)] (.tup [encTr (parseP ws).1, .val (.int .i64 (parseP ws).2)]) := by
 have c1 := row_all v ws hv hl hws (ws.length + 1) [[]] 0 0 ⟨0, 0⟩ (by decide) (by decide) (by decide) (by decide) (Nat.zero_le _) (by show ws.length - 0 < ws.length + 1; omega)
 unfold parseP
 dsimp only at c1
 generalize rowP ws (ws.length + 1) [[]] 0 0 ⟨0, 0⟩ [] = r at *
 obtain ⟨⟨t, e⟩, q⟩ := r
 dsimp only at *
 by_cases hb : q.bad = 0
 ·have d1 : (q.bad != 0) = false := by simp [hb]
  rw [if_neg (fun e => e hb)]
  refine goF Tryz.func6 (closedL_cons (closedV v) (closedL_cons (closed_nms ws) closedL_nil)) (fun w0 st0 => ?_)
  dsimp only [frOf]
  (repeat' (first | refine goA ?_ | refine callK 6 6 26 (encPl v ws ⟨0, 0⟩) (encPl v ws q) (c1) (encPl_closed v ws _) (encPl_closed v ws _) (RelL.cons (.ptr (j := 0) 0 0 rfl) (RelL.cons (.wk (by first | exact .same _ | exact .weak _ _ _) (closed_nms _)) (RelL.cons (.wk (.same _) (.val _)) (RelL.cons (.wk (.same _) (.val _)) (RelL.nil _))))) (.same _ (.tup (closedL_cons (closed_tr _) (closedL_cons (.val _) closedL_nil)))) ?_ | refine goB ?_ | fail))
  exact awp_ret ⟨_, ResL.cons (ResA.tmp (.closed _ (closed_tr _))) (ResL.cons (ResA.tmp (.val _)) .nil), rfl⟩
 ·have d1 : (q.bad != 0) = true := by simp [hb]
  rw [if_pos hb]
  refine goF Tryz.func6 (closedL_cons (closedV v) (closedL_cons (closed_nms ws) closedL_nil)) (fun w0 st0 => ?_)
  dsimp only [frOf]
  (repeat' (first | refine goA ?_ | refine callK 6 6 26 (encPl v ws ⟨0, 0⟩) (encPl v ws q) (c1) (encPl_closed v ws _) (encPl_closed v ws _) (RelL.cons (.ptr (j := 0) 0 0 rfl) (RelL.cons (.wk (by first | exact .same _ | exact .weak _ _ _) (closed_nms _)) (RelL.cons (.wk (.same _) (.val _)) (RelL.cons (.wk (.same _) (.val _)) (RelL.nil _))))) (.same _ (.tup (closedL_cons (closed_tr _) (closedL_cons (.val _) closedL_nil)))) ?_ | refine goB ?_ | fail))
  exact awp_ret ⟨_, ResL.cons (ResA.tmp Reif.nilSl) (ResL.cons (ResA.tmp (.val _)) .nil), rfl⟩
end Go.Proofs.YtfphgelollhdhaaGreat
namespace Go.Proofs.YtfphgelollhdhaaGreat
open Go Go.RowKit
open Go.Proofs.YtfphgelollhdhaaGreat.Dict (St Bs bs_eq Wd encW encWs closed_ws findD encFd NameIn)
open Go.Proofs.YtfphgelollhdhaaGreat.Mem (Mm encM encBs closed_bs encP encP_closed closed_m storeD fetchD)
open Go.Proofs.YtfphgelollhdhaaGreat.Stk (encS closed_s encI_closed)
set_option maxRecDepth 100000
structure Lw where
 f : Fo
 s : Bs
 at' : Int
 fuel : Int
 bad : Int
def encLw (l : Lw) : List AV := [.val (.int .i64 l.f.v.cf.mem), .val (.int .i64 l.f.v.cf.data), .val (.int .i64 l.f.v.cf.ret), .val (.int .i64 l.f.v.cf.words), .val (.int .i64 l.f.v.cf.out), encBs l.f.v.m.b, .sl 2 false (l.f.v.m.old.map encP), .val (.int .i64 l.f.v.here), encS l.f.v.d, encS l.f.v.r, encLFr l.f.v.f, encWs l.f.v.dict, .val (.int .i64 l.f.v.last), encBs l.f.v.out, encBs l.f.v.pb, .val (.bool l.f.v.po), encLRq l.f.v.req, .val (.int .i64 l.f.v.free), .val (.int .i64 l.f.v.next), .val (.int .i64 l.f.v.arg), .val (.int .i64 l.f.v.self), .val (.int .i64 l.f.v.now), encLHn l.f.v.hand, .val (.int .i64 l.f.c.xt), encLCf l.f.c.cf, .val (.int .i64 l.f.c.here), .val (.int .i64 l.f.c.dict), .val (.int .i64 l.f.c.last), .val (.bool l.f.c.on), .val (.int .i64 l.f.c.fuel), St l.s, .val (.int .i64 l.at'), .val (.int .i64 l.fuel), .val (.int .i64 l.bad)]
theorem encLw_closed (l : Lw) : ∀ x, x ∈ encLw l → Closed x := closedL_cons (.val _) (closedL_cons (.val _) (closedL_cons (.val _) (closedL_cons (.val _) (closedL_cons (.val _) (closedL_cons (closed_bs _) (closedL_cons (closed_map encP_closed) (closedL_cons (.val _) (closedL_cons (closed_s _) (closedL_cons (closed_s _) (closedL_cons (closedFr _) (closedL_cons (closed_ws _) (closedL_cons (.val _) (closedL_cons (closed_bs _) (closedL_cons (closed_bs _) (closedL_cons (.val _) (closedL_cons (closedRq _) (closedL_cons (.val _) (closedL_cons (.val _) (closedL_cons (.val _) (closedL_cons (.val _) (closedL_cons (.val _) (closedL_cons (closedHn _) (closedL_cons (.val _) (closedL_cons (closedLCf _) (closedL_cons (.val _) (closedL_cons (.val _) (closedL_cons (.val _) (closedL_cons (.val _) (closedL_cons (.val _) (closedL_cons (.val _) (closedL_cons (.val _) (closedL_cons (.val _) (closedL_cons (.val _) (closedL_nil))))))))))))))))))))))))))))))))))
theorem z00 : ((0 : Int) == 0) = true := beq_iff_eq.2 rfl
attribute [local irreducible] Decidable.decide awp ARun regK toK
theorem lfail_l (f : Fo) (s : Bs) (a fu : Int) (e : Int) : FnL Tryz.prog 37 [.ptr 1000 0 0 0, .val (.int .i64 e)] [(34, [encLw ⟨f, s, a, fu, 0⟩])] (.tup []) [[encLw ⟨f, s, a, fu, e⟩]] := by
 have d := z00
 refine FnL.of_awp (T := tt) (ok := tok) Tryz.func37 (by kernel_rfl) rfl (by kernel_rfl) (by kernel_rfl) (fun w0 st0 lent c0 => ?_)
 dsimp only [frOf, hpFrom, List.length_cons, List.length_nil]
 (repeat' (first | refine goA ?_ | refine ARun.nilCheckP rfl rfl (guardF_spec rfl) ?_ | refine goB ?_ | fail))
 first
  | exact ⟨_, ResL.nil, rfl, ⟨_, by rfl, RlR.closed (one_cl (encLw_closed ⟨f, s, a, fu, e⟩))⟩, trivial⟩
  | exact awp_ret ⟨_, ResL.nil, rfl, ⟨_, by rfl, RlR.closed (one_cl (encLw_closed ⟨f, s, a, fu, e⟩))⟩, trivial⟩
  | (refine awp_skip ?_; exact ⟨_, ResL.nil, rfl, ⟨_, by rfl, RlR.closed (one_cl (encLw_closed ⟨f, s, a, fu, e⟩))⟩, trivial⟩)
theorem lvm_l (f : Fo) (s : Bs) (a fu : Int) (v' : V) : FnL Tryz.prog 60 [.ptr 1000 0 0 0, .agg (encV v'), .val (.int .i64 0)] [(34, [encLw ⟨f, s, a, fu, 0⟩])] (.tup []) [[encLw ⟨⟨v', f.c⟩, s, a, fu, 0⟩]] := by
 have d := z00
 have c1 := lfail_l ⟨v', f.c⟩ s a fu 0
 refine FnL.of_awp (T := tt) (ok := tok) Tryz.func60 (by kernel_rfl) rfl (by kernel_rfl) (by kernel_rfl) (fun w0 st0 lent c0 => ?_)
 dsimp only [frOf, hpFrom, List.length_cons, List.length_nil]
 (repeat' (first | refine goA ?_ | refine ARun.nilCheckP rfl rfl (guardF_spec rfl) ?_ | refine callK 1000 0 34 (encLw ⟨⟨v', f.c⟩, s, a, fu, 0⟩) (encLw ⟨⟨v', f.c⟩, s, a, fu, 0⟩) (c1) (encLw_closed _) (encLw_closed _) (RelL.cons (.ptr (j := 0) 0 0 rfl) (RelL.cons (.wk (.same _) (.val _)) (RelL.nil _))) (.same _ (.tup closedL_nil)) ?_ | refine goB ?_ | fail))
 first
  | exact ⟨_, ResL.nil, rfl, ⟨_, by rfl, RlR.closed (one_cl (encLw_closed ⟨⟨v', f.c⟩, s, a, fu, 0⟩))⟩, trivial⟩
  | exact awp_ret ⟨_, ResL.nil, rfl, ⟨_, by rfl, RlR.closed (one_cl (encLw_closed ⟨⟨v', f.c⟩, s, a, fu, 0⟩))⟩, trivial⟩
  | (refine awp_skip ?_; exact ⟨_, ResL.nil, rfl, ⟨_, by rfl, RlR.closed (one_cl (encLw_closed ⟨⟨v', f.c⟩, s, a, fu, 0⟩))⟩, trivial⟩)
theorem lvm_no (f : Fo) (s : Bs) (a fu : Int) (v' : V) (e : Int) (he : e ≠ 0) : FnL Tryz.prog 60 [.ptr 1000 0 0 0, .agg (encV v'), .val (.int .i64 e)] [(34, [encLw ⟨f, s, a, fu, 0⟩])] (.tup []) [[encLw ⟨f, s, a, fu, e⟩]] := by
 have d := z00
 have d1 : (e == 0) = false := beq_eq_false_iff_ne.2 he
 have c1 := lfail_l f s a fu e
 refine FnL.of_awp (T := tt) (ok := tok) Tryz.func60 (by kernel_rfl) rfl (by kernel_rfl) (by kernel_rfl) (fun w0 st0 lent c0 => ?_)
 dsimp only [frOf, hpFrom, List.length_cons, List.length_nil]
 (repeat' (first | refine goA ?_ | refine ARun.nilCheckP rfl rfl (guardF_spec rfl) ?_ | refine callK 1000 0 34 (encLw ⟨f, s, a, fu, 0⟩) (encLw ⟨f, s, a, fu, e⟩) (c1) (encLw_closed _) (encLw_closed _) (RelL.cons (.ptr (j := 0) 0 0 rfl) (RelL.cons (.wk (.same _) (.val _)) (RelL.nil _))) (.same _ (.tup closedL_nil)) ?_ | refine goB ?_ | fail))
 first
  | exact ⟨_, ResL.nil, rfl, ⟨_, by rfl, RlR.closed (one_cl (encLw_closed ⟨f, s, a, fu, e⟩))⟩, trivial⟩
  | exact awp_ret ⟨_, ResL.nil, rfl, ⟨_, by rfl, RlR.closed (one_cl (encLw_closed ⟨f, s, a, fu, e⟩))⟩, trivial⟩
  | (refine awp_skip ?_; exact ⟨_, ResL.nil, rfl, ⟨_, by rfl, RlR.closed (one_cl (encLw_closed ⟨f, s, a, fu, e⟩))⟩, trivial⟩)
theorem lforth_l (f : Fo) (s : Bs) (a fu : Int) (f' : Fo) : FnL Tryz.prog 83 [.ptr 1000 0 0 0, .agg (encFo f'), .val (.int .i64 0)] [(34, [encLw ⟨f, s, a, fu, 0⟩])] (.tup []) [[encLw ⟨f', s, a, fu, 0⟩]] := by
 have d := z00
 have c1 := lfail_l f' s a fu 0
 refine FnL.of_awp (T := tt) (ok := tok) Tryz.func83 (by kernel_rfl) rfl (by kernel_rfl) (by kernel_rfl) (fun w0 st0 lent c0 => ?_)
 dsimp only [frOf, hpFrom, List.length_cons, List.length_nil]
 (repeat' (first | refine goA ?_ | refine ARun.nilCheckP rfl rfl (guardF_spec rfl) ?_ | refine callK 1000 0 34 (encLw ⟨f', s, a, fu, 0⟩) (encLw ⟨f', s, a, fu, 0⟩) (c1) (encLw_closed _) (encLw_closed _) (RelL.cons (.ptr (j := 0) 0 0 rfl) (RelL.cons (.wk (.same _) (.val _)) (RelL.nil _))) (.same _ (.tup closedL_nil)) ?_ | refine goB ?_ | fail))
 first
  | exact ⟨_, ResL.nil, rfl, ⟨_, by rfl, RlR.closed (one_cl (encLw_closed ⟨f', s, a, fu, 0⟩))⟩, trivial⟩
  | exact awp_ret ⟨_, ResL.nil, rfl, ⟨_, by rfl, RlR.closed (one_cl (encLw_closed ⟨f', s, a, fu, 0⟩))⟩, trivial⟩
  | (refine awp_skip ?_; exact ⟨_, ResL.nil, rfl, ⟨_, by rfl, RlR.closed (one_cl (encLw_closed ⟨f', s, a, fu, 0⟩))⟩, trivial⟩)
theorem llay_l (f : Fo) (s : Bs) (a fu : Int) (n : Int) (v' : V) (ok : Okk f.v 2) (h : vlayD f.v n = (v', 0)) : FnL Tryz.prog 39 [.ptr 1000 0 0 0, .val (.int .i64 n)] [(34, [encLw ⟨f, s, a, fu, 0⟩])] (.tup []) [[encLw ⟨⟨v', f.c⟩, s, a, fu, 0⟩]] := by
 have c1 := ref_vlay_c f.v n (ok.le (by omega))
 rw [h] at c1
 unfold encVE at c1
 dsimp only at c1
 have c2 := lvm_l f s a fu v'
 refine FnL.of_awp (T := tt) (ok := tok) Tryz.func39 (by kernel_rfl) rfl (by kernel_rfl) (by kernel_rfl) (fun w0 st0 lent c0 => ?_)
 dsimp only [frOf, hpFrom, List.length_cons, List.length_nil]
 (repeat' (first | refine goA ?_ | refine ARun.nilCheckP rfl rfl (guardF_spec rfl) ?_ | refine cX c1 ?_ | refine callK 1000 0 34 (encLw ⟨f, s, a, fu, 0⟩) (encLw ⟨⟨v', f.c⟩, s, a, fu, 0⟩) (c2) (encLw_closed _) (encLw_closed _) (RelL.cons (.ptr (j := 0) 0 0 rfl) (RelL.cons (.wk (.same _) (by first | exact closedV _ | exact .agg (encFo_closed _))) (RelL.cons (.wk (.same _) (.val _)) (RelL.nil _)))) (.same _ (.tup closedL_nil)) ?_ | refine goB ?_ | fail))
 first
  | exact ⟨_, ResL.nil, rfl, ⟨_, by rfl, RlR.closed (one_cl (encLw_closed ⟨⟨v', f.c⟩, s, a, fu, 0⟩))⟩, trivial⟩
  | exact awp_ret ⟨_, ResL.nil, rfl, ⟨_, by rfl, RlR.closed (one_cl (encLw_closed ⟨⟨v', f.c⟩, s, a, fu, 0⟩))⟩, trivial⟩
  | (refine awp_skip ?_; exact ⟨_, ResL.nil, rfl, ⟨_, by rfl, RlR.closed (one_cl (encLw_closed ⟨⟨v', f.c⟩, s, a, fu, 0⟩))⟩, trivial⟩)
theorem llit_l (f : Fo) (s : Bs) (a fu : Int) (n : Int) (v' : V) (ok : Okk f.v 2) (h : outD (litK f.v n) f.v = (v', 0)) : FnL Tryz.prog 44 [.ptr 1000 0 0 0, .val (.int .i64 n)] [(34, [encLw ⟨f, s, a, fu, 0⟩])] (.tup []) [[encLw ⟨⟨v', f.c⟩, s, a, fu, 0⟩]] := by
 have c1 := ref_lit_c f.v n ok
 rw [h] at c1
 unfold encVE at c1
 dsimp only at c1
 have c2 := lvm_l f s a fu v'
 refine FnL.of_awp (T := tt) (ok := tok) Tryz.func44 (by kernel_rfl) rfl (by kernel_rfl) (by kernel_rfl) (fun w0 st0 lent c0 => ?_)
 dsimp only [frOf, hpFrom, List.length_cons, List.length_nil]
 (repeat' (first | refine goA ?_ | refine ARun.nilCheckP rfl rfl (guardF_spec rfl) ?_ | refine cX c1 ?_ | refine callK 1000 0 34 (encLw ⟨f, s, a, fu, 0⟩) (encLw ⟨⟨v', f.c⟩, s, a, fu, 0⟩) (c2) (encLw_closed _) (encLw_closed _) (RelL.cons (.ptr (j := 0) 0 0 rfl) (RelL.cons (.wk (.same _) (by first | exact closedV _ | exact .agg (encFo_closed _))) (RelL.cons (.wk (.same _) (.val _)) (RelL.nil _)))) (.same _ (.tup closedL_nil)) ?_ | refine goB ?_ | fail))
 first
  | exact ⟨_, ResL.nil, rfl, ⟨_, by rfl, RlR.closed (one_cl (encLw_closed ⟨⟨v', f.c⟩, s, a, fu, 0⟩))⟩, trivial⟩
  | exact awp_ret ⟨_, ResL.nil, rfl, ⟨_, by rfl, RlR.closed (one_cl (encLw_closed ⟨⟨v', f.c⟩, s, a, fu, 0⟩))⟩, trivial⟩
  | (refine awp_skip ?_; exact ⟨_, ResL.nil, rfl, ⟨_, by rfl, RlR.closed (one_cl (encLw_closed ⟨⟨v', f.c⟩, s, a, fu, 0⟩))⟩, trivial⟩)
theorem lname_l (f : Fo) (s : Bs) (a : Nat) (fu : Int) (nm : Bs) (a2 : Nat) (hl : s.length ≤ 1000000) (ha : a ≤ s.length) (h : tokD (s.drop a) [] a = (nm, a2)) (hn : nm ≠ []) : FnL Tryz.prog 81 [.ptr 1000 0 0 0] [(34, [encLw ⟨f, s, (a : Nat), fu, 0⟩])] (St nm) [[encLw ⟨f, s, (a2 : Nat), fu, 0⟩]] := by
 have c1 := word8_c s a hl ha
 rw [h] at c1
 have d1 := Dict.eqF nm [] hn
 refine FnL.of_awp (T := tt) (ok := tok) Tryz.func81 (by kernel_rfl) rfl (by kernel_rfl) (by kernel_rfl) (fun w0 st0 lent c0 => ?_)
 dsimp only [frOf, hpFrom, List.length_cons, List.length_nil]
 (repeat' (first | refine goA ?_ | refine ARun.nilCheckP rfl rfl (guardF_spec rfl) ?_ | refine cX c1 ?_ | refine goB ?_ | fail))
 exact awp_ret ⟨_, ResL.cons (ResA.tmp (.val _)) .nil, rfl, ⟨_, by rfl, RlR.closed (one_cl (encLw_closed ⟨f, s, (a2 : Nat), fu, 0⟩))⟩, trivial⟩
theorem lsign_l (f : Fo) (s : Bs) (a : Nat) (fu : Int) (ch : UInt8) (r : Bs) (a2 : Nat) (hl : s.length ≤ 1000000) (ha : a ≤ s.length) (h : tokD (s.drop a) [] a = (ch :: r, a2)) : FnL Tryz.prog 93 [.ptr 1000 0 0 0] [(34, [encLw ⟨f, s, (a : Nat), fu, 0⟩])] (.val (.int .i64 (ch.toNat : Nat))) [[encLw ⟨f, s, (a2 : Nat), fu, 0⟩]] := by
 have c1 := lname_l f s a fu (ch :: r) a2 hl ha h (by simp)
 have d1 := Dict.eqF (ch :: r) [] (by simp)
 have hs : (ByteArray.mk (ch :: r).toArray).data[(0 : Int).toNat]? = some ch := by simp
 have hc8 := ch.toNat_lt
 refine FnL.of_awp (T := tt) (ok := tok) Tryz.func93 (by kernel_rfl) rfl (by kernel_rfl) (by kernel_rfl) (fun w0 st0 lent c0 => ?_)
 dsimp only [frOf, hpFrom, List.length_cons, List.length_nil]
 (repeat' (first | refine goA ?_ | refine ARun.nilCheckP rfl rfl (guardF_spec rfl) ?_ | refine callK 1000 0 34 (encLw ⟨f, s, (a : Nat), fu, 0⟩) (encLw ⟨f, s, (a2 : Nat), fu, 0⟩) (c1) (encLw_closed _) (encLw_closed _) (RelL.cons (.ptr (j := 0) 0 0 rfl) (RelL.nil _)) (.same _ (.val _)) ?_ | refine ARun.index_str rfl rfl (by omega) hs rfl rfl rfl (guardF_spec rfl) ?_ | refine goB ?_ | fail))
 exact awp_ret ⟨_, ResL.cons (ResA.tmp (.val _)) .nil, rfl, ⟨_, by rfl, RlR.closed (one_cl (encLw_closed ⟨f, s, (a2 : Nat), fu, 0⟩))⟩, trivial⟩
theorem lfound_l (f : Fo) (s : Bs) (a : Nat) (fu : Int) (nm : Bs) (a2 : Nat) (hl : s.length ≤ 1000000) (hnl : nm.length ≤ 1000000) (hd : f.v.dict.length ≤ 1000000) (hin : NameIn f.v.dict) (ha : a ≤ s.length) (h : tokD (s.drop a) [] a = (nm, a2)) (hn : nm ≠ []) (x : Wd) (i : Int) (hf : findD f.v.dict nm = (x, i, true)) : FnL Tryz.prog 92 [.ptr 1000 0 0 0] [(34, [encLw ⟨f, s, (a : Nat), fu, 0⟩])] (.agg (encW x)) [[encLw ⟨f, s, (a2 : Nat), fu, 0⟩]] := by
 have c1 := lname_l f s a fu nm a2 hl ha h hn
 have c2 := Dict.ref_find_c f.v.dict nm hd hnl hin
 rw [hf] at c2
 unfold encFd at c2
 dsimp only at c2
 have nt : (!true) = false := rfl
 refine FnL.of_awp (T := tt) (ok := tok) Tryz.func92 (by kernel_rfl) rfl (by kernel_rfl) (by kernel_rfl) (fun w0 st0 lent c0 => ?_)
 dsimp only [frOf, hpFrom, List.length_cons, List.length_nil]
 (repeat' (first | refine goA ?_ | refine ARun.nilCheckP rfl rfl (guardF_spec rfl) ?_ | refine cX c2 ?_ | refine callK 1000 0 34 (encLw ⟨f, s, (a : Nat), fu, 0⟩) (encLw ⟨f, s, (a2 : Nat), fu, 0⟩) (c1) (encLw_closed _) (encLw_closed _) (RelL.cons (.ptr (j := 0) 0 0 rfl) (RelL.nil _)) (.same _ (.val _)) ?_ | refine goB ?_ | fail))
 exact awp_ret ⟨_, ResL.cons (ResA.agg rfl rfl rfl rfl rfl rfl rfl (RL.cons (.val _) (RL.cons (.val _) (RL.cons (.val _) (RL.nil _))))) .nil, rfl, ⟨_, by rfl, RlR.closed (one_cl (encLw_closed ⟨f, s, (a2 : Nat), fu, 0⟩))⟩, trivial⟩
end Go.Proofs.YtfphgelollhdhaaGreat
namespace Go.Proofs.YtfphgelollhdhaaGreat
open Go Go.RowKit
open Go.Proofs.YtfphgelollhdhaaGreat.Dict (St Bs bs_eq Wd encW encWs closed_ws findD encFd NameIn)
open Go.Proofs.YtfphgelollhdhaaGreat.Mem (Mm encM encBs closed_bs encP encP_closed closed_m storeD fetchD)
open Go.Proofs.YtfphgelollhdhaaGreat.Stk (encS closed_s encI_closed)
set_option maxRecDepth 100000
def mkN : List Bs := [[58], [79, 78, 58], [59], [67, 82, 69, 65, 84, 69], [86, 65, 82, 73, 65, 66, 76, 69], [67, 79, 78, 83, 84, 65, 78, 84], [77, 65, 67, 72, 73, 78, 69], [73, 77, 77, 69, 68, 73, 65, 84, 69], [70, 79, 82, 71, 69, 84]]
def lyN : List Bs := [[39], [91, 39, 93], [67, 72, 65, 82], [91, 67, 72, 65, 82, 93], [76, 73, 84, 69, 82, 65, 76], [80, 79, 83, 84, 80, 79, 78, 69], [82, 69, 67, 85, 82, 83, 69], [69, 88, 73, 84], [68, 79, 69, 83, 62]]
def spN : List Bs := [[83, 34], [46, 34], [40], [92], [91], [93]]
def withCf (c : Cp) (l : List Cfr) : Cp := ⟨c.xt, l, c.here, c.dict, c.last, c.on, c.fuel⟩
theorem ne_of {name : Bs} {l : List Bs} (h : name ∉ l) {c : Bs} (hc : c ∈ l) : name ≠ c := fun e => h (e ▸ hc)
attribute [local irreducible] Decidable.decide awp ARun regK toK
set_option maxHeartbeats 4000000 in
theorem makes_no (f : Fo) (s : Bs) (a fu : Int) (name : Bs) (h : name ∉ mkN) : FnL Tryz.prog 61 [.ptr 1000 0 0 0, St name] [(34, [encLw ⟨f, s, a, fu, 0⟩])] (.val (.bool false)) [[encLw ⟨f, s, a, fu, 0⟩]] := by
 have s0 := Dict.eqF name [58] (ne_of h (by simp [mkN]))
 have s1 := Dict.eqF name [79, 78, 58] (ne_of h (by simp [mkN]))
 have s2 := Dict.eqF name [59] (ne_of h (by simp [mkN]))
 have s3 := Dict.eqF name [67, 82, 69, 65, 84, 69] (ne_of h (by simp [mkN]))
 have s4 := Dict.eqF name [86, 65, 82, 73, 65, 66, 76, 69] (ne_of h (by simp [mkN]))
 have s5 := Dict.eqF name [67, 79, 78, 83, 84, 65, 78, 84] (ne_of h (by simp [mkN]))
 have s6 := Dict.eqF name [77, 65, 67, 72, 73, 78, 69] (ne_of h (by simp [mkN]))
 have s7 := Dict.eqF name [73, 77, 77, 69, 68, 73, 65, 84, 69] (ne_of h (by simp [mkN]))
 have s8 := Dict.eqF name [70, 79, 82, 71, 69, 84] (ne_of h (by simp [mkN]))
 refine FnL.of_awp (T := tt) (ok := tok) Tryz.func61 (by kernel_rfl) rfl (by kernel_rfl) (by kernel_rfl) (fun w0 st0 lent c0 => ?_)
 dsimp only [frOf, hpFrom, List.length_cons, List.length_nil]
 (repeat' (first | refine goA ?_ | refine ARun.nilCheckP rfl rfl (guardF_spec rfl) ?_ | refine goB ?_ | fail))
 exact awp_ret ⟨_, ResL.cons (ResA.tmp (.val _)) .nil, rfl, ⟨_, by rfl, RlR.closed (one_cl (encLw_closed ⟨f, s, a, fu, 0⟩))⟩, trivial⟩
set_option maxHeartbeats 4000000 in
theorem lays_no (f : Fo) (s : Bs) (a fu : Int) (name : Bs) (h : name ∉ lyN) : FnL Tryz.prog 62 [.ptr 1000 0 0 0, St name] [(34, [encLw ⟨f, s, a, fu, 0⟩])] (.val (.bool false)) [[encLw ⟨f, s, a, fu, 0⟩]] := by
 have s0 := Dict.eqF name [39] (ne_of h (by simp [lyN]))
 have s1 := Dict.eqF name [91, 39, 93] (ne_of h (by simp [lyN]))
 have s2 := Dict.eqF name [67, 72, 65, 82] (ne_of h (by simp [lyN]))
 have s3 := Dict.eqF name [91, 67, 72, 65, 82, 93] (ne_of h (by simp [lyN]))
 have s4 := Dict.eqF name [76, 73, 84, 69, 82, 65, 76] (ne_of h (by simp [lyN]))
 have s5 := Dict.eqF name [80, 79, 83, 84, 80, 79, 78, 69] (ne_of h (by simp [lyN]))
 have s6 := Dict.eqF name [82, 69, 67, 85, 82, 83, 69] (ne_of h (by simp [lyN]))
 have s7 := Dict.eqF name [69, 88, 73, 84] (ne_of h (by simp [lyN]))
 have s8 := Dict.eqF name [68, 79, 69, 83, 62] (ne_of h (by simp [lyN]))
 refine FnL.of_awp (T := tt) (ok := tok) Tryz.func62 (by kernel_rfl) rfl (by kernel_rfl) (by kernel_rfl) (fun w0 st0 lent c0 => ?_)
 dsimp only [frOf, hpFrom, List.length_cons, List.length_nil]
 (repeat' (first | refine goA ?_ | refine ARun.nilCheckP rfl rfl (guardF_spec rfl) ?_ | refine goB ?_ | fail))
 exact awp_ret ⟨_, ResL.cons (ResA.tmp (.val _)) .nil, rfl, ⟨_, by rfl, RlR.closed (one_cl (encLw_closed ⟨f, s, a, fu, 0⟩))⟩, trivial⟩
set_option maxHeartbeats 4000000 in
theorem lays_exit (f : Fo) (s : Bs) (a fu : Int) (v' : V) (ok : Okk f.v 2) (h : vlayD f.v (xtD [40, 101, 120, 105, 116, 41]) = (v', 0)) : FnL Tryz.prog 62 [.ptr 1000 0 0 0, St [69, 88, 73, 84]] [(34, [encLw ⟨f, s, a, fu, 0⟩])] (.val (.bool true)) [[encLw ⟨⟨v', f.c⟩, s, a, fu, 0⟩]] := by
 have s0 : ((ByteArray.mk [69, 88, 73, 84].toArray).toList == (ByteArray.mk #[39]).toList) = false := by rw [bs_eq [69, 88, 73, 84] [39]]; exact decide_eq_false (by decide)
 have s1 : ((ByteArray.mk [69, 88, 73, 84].toArray).toList == (ByteArray.mk #[91, 39, 93]).toList) = false := by rw [bs_eq [69, 88, 73, 84] [91, 39, 93]]; exact decide_eq_false (by decide)
 have s2 : ((ByteArray.mk [69, 88, 73, 84].toArray).toList == (ByteArray.mk #[67, 72, 65, 82]).toList) = false := by rw [bs_eq [69, 88, 73, 84] [67, 72, 65, 82]]; exact decide_eq_false (by decide)
 have s3 : ((ByteArray.mk [69, 88, 73, 84].toArray).toList == (ByteArray.mk #[91, 67, 72, 65, 82, 93]).toList) = false := by rw [bs_eq [69, 88, 73, 84] [91, 67, 72, 65, 82, 93]]; exact decide_eq_false (by decide)
 have s4 : ((ByteArray.mk [69, 88, 73, 84].toArray).toList == (ByteArray.mk #[76, 73, 84, 69, 82, 65, 76]).toList) = false := by rw [bs_eq [69, 88, 73, 84] [76, 73, 84, 69, 82, 65, 76]]; exact decide_eq_false (by decide)
 have s5 : ((ByteArray.mk [69, 88, 73, 84].toArray).toList == (ByteArray.mk #[80, 79, 83, 84, 80, 79, 78, 69]).toList) = false := by rw [bs_eq [69, 88, 73, 84] [80, 79, 83, 84, 80, 79, 78, 69]]; exact decide_eq_false (by decide)
 have s6 : ((ByteArray.mk [69, 88, 73, 84].toArray).toList == (ByteArray.mk #[82, 69, 67, 85, 82, 83, 69]).toList) = false := by rw [bs_eq [69, 88, 73, 84] [82, 69, 67, 85, 82, 83, 69]]; exact decide_eq_false (by decide)
 have s7 : ((ByteArray.mk [69, 88, 73, 84].toArray).toList == (ByteArray.mk #[69, 88, 73, 84]).toList) = true := by rw [bs_eq [69, 88, 73, 84] [69, 88, 73, 84]]; exact decide_eq_true rfl
 have c1 := ref_xt_c [40, 101, 120, 105, 116, 41]
 have c2 := llay_l f s a fu (xtD [40, 101, 120, 105, 116, 41]) v' ok h
 clear h
 generalize xtD [40, 101, 120, 105, 116, 41] = n at *
 refine FnL.of_awp (T := tt) (ok := tok) Tryz.func62 (by kernel_rfl) rfl (by kernel_rfl) (by kernel_rfl) (fun w0 st0 lent c0 => ?_)
 dsimp only [frOf, hpFrom, List.length_cons, List.length_nil]
 (repeat' (first | refine goA ?_ | refine ARun.nilCheckP rfl rfl (guardF_spec rfl) ?_ | refine cX c1 ?_ | refine callK 1000 0 34 (encLw ⟨f, s, a, fu, 0⟩) (encLw ⟨⟨v', f.c⟩, s, a, fu, 0⟩) (c2) (encLw_closed _) (encLw_closed _) (RelL.cons (.ptr (j := 0) 0 0 rfl) (RelL.cons (.wk (.same _) (.val _)) (RelL.nil _))) (.same _ (.tup closedL_nil)) ?_ | refine goB ?_ | fail))
 exact awp_ret ⟨_, ResL.cons (ResA.tmp (.val _)) .nil, rfl, ⟨_, by rfl, RlR.closed (one_cl (encLw_closed ⟨⟨v', f.c⟩, s, a, fu, 0⟩))⟩, trivial⟩
set_option maxHeartbeats 4000000 in
theorem lays_rec (f : Fo) (s : Bs) (a fu : Int) (v' : V) (ok : Okk f.v 2) (h : vlayD f.v f.c.xt = (v', 0)) : FnL Tryz.prog 62 [.ptr 1000 0 0 0, St [82, 69, 67, 85, 82, 83, 69]] [(34, [encLw ⟨f, s, a, fu, 0⟩])] (.val (.bool true)) [[encLw ⟨⟨v', f.c⟩, s, a, fu, 0⟩]] := by
 have s0 : ((ByteArray.mk [82, 69, 67, 85, 82, 83, 69].toArray).toList == (ByteArray.mk #[39]).toList) = false := by rw [bs_eq [82, 69, 67, 85, 82, 83, 69] [39]]; exact decide_eq_false (by decide)
 have s1 : ((ByteArray.mk [82, 69, 67, 85, 82, 83, 69].toArray).toList == (ByteArray.mk #[91, 39, 93]).toList) = false := by rw [bs_eq [82, 69, 67, 85, 82, 83, 69] [91, 39, 93]]; exact decide_eq_false (by decide)
 have s2 : ((ByteArray.mk [82, 69, 67, 85, 82, 83, 69].toArray).toList == (ByteArray.mk #[67, 72, 65, 82]).toList) = false := by rw [bs_eq [82, 69, 67, 85, 82, 83, 69] [67, 72, 65, 82]]; exact decide_eq_false (by decide)
 have s3 : ((ByteArray.mk [82, 69, 67, 85, 82, 83, 69].toArray).toList == (ByteArray.mk #[91, 67, 72, 65, 82, 93]).toList) = false := by rw [bs_eq [82, 69, 67, 85, 82, 83, 69] [91, 67, 72, 65, 82, 93]]; exact decide_eq_false (by decide)
 have s4 : ((ByteArray.mk [82, 69, 67, 85, 82, 83, 69].toArray).toList == (ByteArray.mk #[76, 73, 84, 69, 82, 65, 76]).toList) = false := by rw [bs_eq [82, 69, 67, 85, 82, 83, 69] [76, 73, 84, 69, 82, 65, 76]]; exact decide_eq_false (by decide)
 have s5 : ((ByteArray.mk [82, 69, 67, 85, 82, 83, 69].toArray).toList == (ByteArray.mk #[80, 79, 83, 84, 80, 79, 78, 69]).toList) = false := by rw [bs_eq [82, 69, 67, 85, 82, 83, 69] [80, 79, 83, 84, 80, 79, 78, 69]]; exact decide_eq_false (by decide)
 have s6 : ((ByteArray.mk [82, 69, 67, 85, 82, 83, 69].toArray).toList == (ByteArray.mk #[82, 69, 67, 85, 82, 83, 69]).toList) = true := by rw [bs_eq [82, 69, 67, 85, 82, 83, 69] [82, 69, 67, 85, 82, 83, 69]]; exact decide_eq_true rfl
 have c2 := llay_l f s a fu f.c.xt v' ok h
 refine FnL.of_awp (T := tt) (ok := tok) Tryz.func62 (by kernel_rfl) rfl (by kernel_rfl) (by kernel_rfl) (fun w0 st0 lent c0 => ?_)
 dsimp only [frOf, hpFrom, List.length_cons, List.length_nil]
 (repeat' (first | refine goA ?_ | refine ARun.nilCheckP rfl rfl (guardF_spec rfl) ?_ | refine callK 1000 0 34 (encLw ⟨f, s, a, fu, 0⟩) (encLw ⟨⟨v', f.c⟩, s, a, fu, 0⟩) (c2) (encLw_closed _) (encLw_closed _) (RelL.cons (.ptr (j := 0) 0 0 rfl) (RelL.cons (.wk (.same _) (.val _)) (RelL.nil _))) (.same _ (.tup closedL_nil)) ?_ | refine goB ?_ | fail))
 exact awp_ret ⟨_, ResL.cons (ResA.tmp (.val _)) .nil, rfl, ⟨_, by rfl, RlR.closed (one_cl (encLw_closed ⟨⟨v', f.c⟩, s, a, fu, 0⟩))⟩, trivial⟩
set_option maxHeartbeats 4000000 in
theorem lays_char (f : Fo) (s : Bs) (a : Nat) (fu : Int) (ch : UInt8) (r : Bs) (a2 : Nat) (hl : s.length ≤ 1000000) (ha : a ≤ s.length) (ht : tokD (s.drop a) [] a = (ch :: r, a2)) (v' : V) (ok : Okk f.v 2) (h : outD (litK f.v (ch.toNat : Nat)) f.v = (v', 0)) : FnL Tryz.prog 62 [.ptr 1000 0 0 0, St [91, 67, 72, 65, 82, 93]] [(34, [encLw ⟨f, s, (a : Nat), fu, 0⟩])] (.val (.bool true)) [[encLw ⟨⟨v', f.c⟩, s, (a2 : Nat), fu, 0⟩]] := by
 have s0 : ((ByteArray.mk [91, 67, 72, 65, 82, 93].toArray).toList == (ByteArray.mk #[39]).toList) = false := by rw [bs_eq [91, 67, 72, 65, 82, 93] [39]]; exact decide_eq_false (by decide)
 have s1 : ((ByteArray.mk [91, 67, 72, 65, 82, 93].toArray).toList == (ByteArray.mk #[91, 39, 93]).toList) = false := by rw [bs_eq [91, 67, 72, 65, 82, 93] [91, 39, 93]]; exact decide_eq_false (by decide)
 have s2 : ((ByteArray.mk [91, 67, 72, 65, 82, 93].toArray).toList == (ByteArray.mk #[67, 72, 65, 82]).toList) = false := by rw [bs_eq [91, 67, 72, 65, 82, 93] [67, 72, 65, 82]]; exact decide_eq_false (by decide)
 have s3 : ((ByteArray.mk [91, 67, 72, 65, 82, 93].toArray).toList == (ByteArray.mk #[91, 67, 72, 65, 82, 93]).toList) = true := by rw [bs_eq [91, 67, 72, 65, 82, 93] [91, 67, 72, 65, 82, 93]]; exact decide_eq_true rfl
 have c1 := lsign_l f s a fu ch r a2 hl ha ht
 have c2 := llit_l f s (a2 : Nat) fu (ch.toNat : Nat) v' ok h
 refine FnL.of_awp (T := tt) (ok := tok) Tryz.func62 (by kernel_rfl) rfl (by kernel_rfl) (by kernel_rfl) (fun w0 st0 lent c0 => ?_)
 dsimp only [frOf, hpFrom, List.length_cons, List.length_nil]
 (repeat' (first | refine goA ?_ | refine ARun.nilCheckP rfl rfl (guardF_spec rfl) ?_ | refine callK 1000 0 34 (encLw ⟨f, s, (a : Nat), fu, 0⟩) (encLw ⟨f, s, (a2 : Nat), fu, 0⟩) (c1) (encLw_closed _) (encLw_closed _) (RelL.cons (.ptr (j := 0) 0 0 rfl) (RelL.nil _)) (.same _ (.val _)) ?_ | refine callK 1000 0 34 (encLw ⟨f, s, (a2 : Nat), fu, 0⟩) (encLw ⟨⟨v', f.c⟩, s, (a2 : Nat), fu, 0⟩) (c2) (encLw_closed _) (encLw_closed _) (RelL.cons (.ptr (j := 0) 0 0 rfl) (RelL.cons (.wk (.same _) (.val _)) (RelL.nil _))) (.same _ (.tup closedL_nil)) ?_ | refine goB ?_ | fail))
 exact awp_ret ⟨_, ResL.cons (ResA.tmp (.val _)) .nil, rfl, ⟨_, by rfl, RlR.closed (one_cl (encLw_closed ⟨⟨v', f.c⟩, s, (a2 : Nat), fu, 0⟩))⟩, trivial⟩
set_option maxHeartbeats 4000000 in
theorem lays_tick (f : Fo) (s : Bs) (a : Nat) (fu : Int) (nm : Bs) (a2 : Nat) (hl : s.length ≤ 1000000) (hnl : nm.length ≤ 1000000) (hd : f.v.dict.length ≤ 1000000) (hin : NameIn f.v.dict) (ha : a ≤ s.length) (ht : tokD (s.drop a) [] a = (nm, a2)) (hn : nm ≠ []) (x : Wd) (i : Int) (hf : findD f.v.dict nm = (x, i, true)) (v' : V) (ok : Okk f.v 2) (h : outD (litK f.v x.xt) f.v = (v', 0)) : FnL Tryz.prog 62 [.ptr 1000 0 0 0, St [91, 39, 93]] [(34, [encLw ⟨f, s, (a : Nat), fu, 0⟩])] (.val (.bool true)) [[encLw ⟨⟨v', f.c⟩, s, (a2 : Nat), fu, 0⟩]] := by
 have s0 : ((ByteArray.mk [91, 39, 93].toArray).toList == (ByteArray.mk #[39]).toList) = false := by rw [bs_eq [91, 39, 93] [39]]; exact decide_eq_false (by decide)
 have s1 : ((ByteArray.mk [91, 39, 93].toArray).toList == (ByteArray.mk #[91, 39, 93]).toList) = true := by rw [bs_eq [91, 39, 93] [91, 39, 93]]; exact decide_eq_true rfl
 have c1 := lfound_l f s a fu nm a2 hl hnl hd hin ha ht hn x i hf
 have c2 := llit_l f s (a2 : Nat) fu x.xt v' ok h
 refine FnL.of_awp (T := tt) (ok := tok) Tryz.func62 (by kernel_rfl) rfl (by kernel_rfl) (by kernel_rfl) (fun w0 st0 lent c0 => ?_)
 dsimp only [frOf, hpFrom, List.length_cons, List.length_nil]
 (repeat' (first | refine goA ?_ | refine ARun.nilCheckP rfl rfl (guardF_spec rfl) ?_ | refine callK 1000 0 34 (encLw ⟨f, s, (a : Nat), fu, 0⟩) (encLw ⟨f, s, (a2 : Nat), fu, 0⟩) (c1) (encLw_closed _) (encLw_closed _) (RelL.cons (.ptr (j := 0) 0 0 rfl) (RelL.nil _)) (.same _ (.agg (closedL_cons (.val _) (closedL_cons (.val _) (closedL_cons (.val _) closedL_nil))))) ?_ | refine callK 1000 0 34 (encLw ⟨f, s, (a2 : Nat), fu, 0⟩) (encLw ⟨⟨v', f.c⟩, s, (a2 : Nat), fu, 0⟩) (c2) (encLw_closed _) (encLw_closed _) (RelL.cons (.ptr (j := 0) 0 0 rfl) (RelL.cons (.wk (.same _) (.val _)) (RelL.nil _))) (.same _ (.tup closedL_nil)) ?_ | refine goB ?_ | fail))
 exact awp_ret ⟨_, ResL.cons (ResA.tmp (.val _)) .nil, rfl, ⟨_, by rfl, RlR.closed (one_cl (encLw_closed ⟨⟨v', f.c⟩, s, (a2 : Nat), fu, 0⟩))⟩, trivial⟩
set_option maxHeartbeats 4000000 in
theorem makes_colon (f : Fo) (s : Bs) (a : Nat) (fu : Int) (nm : Bs) (a2 : Nat) (hl : s.length ≤ 1000000) (hnl : nm.length ≤ 1000000) (ha : a ≤ s.length) (ht : tokD (s.drop a) [] a = (nm, a2)) (hn : nm ≠ []) (f' : Fo) (g : Gd f.v 100) (h : beginD f nm false 0 = (f', 0)) : FnL Tryz.prog 61 [.ptr 1000 0 0 0, St [58]] [(34, [encLw ⟨f, s, (a : Nat), fu, 0⟩])] (.val (.bool true)) [[encLw ⟨f', s, (a2 : Nat), fu, 0⟩]] := by
 have s0 : ((ByteArray.mk [58].toArray).toList == (ByteArray.mk #[58]).toList) = true := by rw [bs_eq [58] [58]]; exact decide_eq_true rfl
 have c1 := lname_l f s a fu nm a2 hl ha ht hn
 have c2 := ref_begin_c f nm false 0 g hnl
 rw [h] at c2
 unfold encFE at c2
 dsimp only at c2
 have c3 := lforth_l f s (a2 : Nat) fu f'
 refine FnL.of_awp (T := tt) (ok := tok) Tryz.func61 (by kernel_rfl) rfl (by kernel_rfl) (by kernel_rfl) (fun w0 st0 lent c0 => ?_)
 dsimp only [frOf, hpFrom, List.length_cons, List.length_nil]
 (repeat' (first | refine goA ?_ | refine ARun.nilCheckP rfl rfl (guardF_spec rfl) ?_ | refine cX c2 ?_ | refine callK 1000 0 34 (encLw ⟨f, s, (a : Nat), fu, 0⟩) (encLw ⟨f, s, (a2 : Nat), fu, 0⟩) (c1) (encLw_closed _) (encLw_closed _) (RelL.cons (.ptr (j := 0) 0 0 rfl) (RelL.nil _)) (.same _ (.val _)) ?_ | refine callK 1000 0 34 (encLw ⟨f, s, (a2 : Nat), fu, 0⟩) (encLw ⟨f', s, (a2 : Nat), fu, 0⟩) (c3) (encLw_closed _) (encLw_closed _) (RelL.cons (.ptr (j := 0) 0 0 rfl) (RelL.cons (.wk (.same _) (by first | exact closedV _ | exact .agg (encFo_closed _))) (RelL.cons (.wk (.same _) (.val _)) (RelL.nil _)))) (.same _ (.tup closedL_nil)) ?_ | refine goB ?_ | fail))
 exact awp_ret ⟨_, ResL.cons (ResA.tmp (.val _)) .nil, rfl, ⟨_, by rfl, RlR.closed (one_cl (encLw_closed ⟨f', s, (a2 : Nat), fu, 0⟩))⟩, trivial⟩
set_option maxHeartbeats 4000000 in
theorem makes_semi (f : Fo) (s : Bs) (a fu : Int) (f' : Fo) (g : Gd f.v 100) (hin : f.c.xt ≠ 0 → 0 ≤ f.c.dict ∧ f.c.dict < f.v.dict.length) (h : endD' f = (f', 0)) : FnL Tryz.prog 61 [.ptr 1000 0 0 0, St [59]] [(34, [encLw ⟨f, s, a, fu, 0⟩])] (.val (.bool true)) [[encLw ⟨f', s, a, fu, 0⟩]] := by
 have s0 : ((ByteArray.mk [59].toArray).toList == (ByteArray.mk #[58]).toList) = false := by rw [bs_eq [59] [58]]; exact decide_eq_false (by decide)
 have s1 : ((ByteArray.mk [59].toArray).toList == (ByteArray.mk #[79, 78, 58]).toList) = false := by rw [bs_eq [59] [79, 78, 58]]; exact decide_eq_false (by decide)
 have s2 : ((ByteArray.mk [59].toArray).toList == (ByteArray.mk #[59]).toList) = true := by rw [bs_eq [59] [59]]; exact decide_eq_true rfl
 have c2 := ref_end_c f g hin
 rw [h] at c2
 unfold encFE at c2
 dsimp only at c2
 have c3 := lforth_l f s a fu f'
 refine FnL.of_awp (T := tt) (ok := tok) Tryz.func61 (by kernel_rfl) rfl (by kernel_rfl) (by kernel_rfl) (fun w0 st0 lent c0 => ?_)
 dsimp only [frOf, hpFrom, List.length_cons, List.length_nil]
 (repeat' (first | refine goA ?_ | refine ARun.nilCheckP rfl rfl (guardF_spec rfl) ?_ | refine cX c2 ?_ | refine callK 1000 0 34 (encLw ⟨f, s, a, fu, 0⟩) (encLw ⟨f', s, a, fu, 0⟩) (c3) (encLw_closed _) (encLw_closed _) (RelL.cons (.ptr (j := 0) 0 0 rfl) (RelL.cons (.wk (.same _) (by first | exact closedV _ | exact .agg (encFo_closed _))) (RelL.cons (.wk (.same _) (.val _)) (RelL.nil _)))) (.same _ (.tup closedL_nil)) ?_ | refine goB ?_ | fail))
 exact awp_ret ⟨_, ResL.cons (ResA.tmp (.val _)) .nil, rfl, ⟨_, by rfl, RlR.closed (one_cl (encLw_closed ⟨f', s, a, fu, 0⟩))⟩, trivial⟩
theorem spec_made (f : Fo) (s : Bs) (a fu : Int) (name : Bs) (l2 : Lw) (c1 : FnL Tryz.prog 61 [.ptr 1000 0 0 0, St name] [(34, [encLw ⟨f, s, a, fu, 0⟩])] (.val (.bool true)) [[encLw l2]]) : FnL Tryz.prog 40 [.ptr 1000 0 0 0, St name] [(34, [encLw ⟨f, s, a, fu, 0⟩])] (.tup []) [[encLw l2]] := by
 refine FnL.of_awp (T := tt) (ok := tok) Tryz.func40 (by kernel_rfl) rfl (by kernel_rfl) (by kernel_rfl) (fun w0 st0 lent c0 => ?_)
 dsimp only [frOf, hpFrom, List.length_cons, List.length_nil]
 (repeat' (first | refine goA ?_ | refine ARun.nilCheckP rfl rfl (guardF_spec rfl) ?_ | refine callK 1000 0 34 (encLw ⟨f, s, a, fu, 0⟩) (encLw l2) (c1) (encLw_closed _) (encLw_closed _) (RelL.cons (.ptr (j := 0) 0 0 rfl) (RelL.cons (.wk (.same _) (.val _)) (RelL.nil _))) (.same _ (.val _)) ?_ | refine goB ?_ | fail))
 first
  | exact ⟨_, ResL.nil, rfl, ⟨_, by rfl, RlR.closed (one_cl (encLw_closed l2))⟩, trivial⟩
  | exact awp_ret ⟨_, ResL.nil, rfl, ⟨_, by rfl, RlR.closed (one_cl (encLw_closed l2))⟩, trivial⟩
  | (refine awp_skip ?_; exact ⟨_, ResL.nil, rfl, ⟨_, by rfl, RlR.closed (one_cl (encLw_closed l2))⟩, trivial⟩)
theorem spec_laid (f : Fo) (s : Bs) (a fu : Int) (name : Bs) (hm : name ∉ mkN) (l2 : Lw) (c2 : FnL Tryz.prog 62 [.ptr 1000 0 0 0, St name] [(34, [encLw ⟨f, s, a, fu, 0⟩])] (.val (.bool true)) [[encLw l2]]) : FnL Tryz.prog 40 [.ptr 1000 0 0 0, St name] [(34, [encLw ⟨f, s, a, fu, 0⟩])] (.tup []) [[encLw l2]] := by
 have c1 := makes_no f s a fu name hm
 refine FnL.of_awp (T := tt) (ok := tok) Tryz.func40 (by kernel_rfl) rfl (by kernel_rfl) (by kernel_rfl) (fun w0 st0 lent c0 => ?_)
 dsimp only [frOf, hpFrom, List.length_cons, List.length_nil]
 (repeat' (first | refine goA ?_ | refine ARun.nilCheckP rfl rfl (guardF_spec rfl) ?_ | refine callK 1000 0 34 (encLw ⟨f, s, a, fu, 0⟩) (encLw ⟨f, s, a, fu, 0⟩) (c1) (encLw_closed _) (encLw_closed _) (RelL.cons (.ptr (j := 0) 0 0 rfl) (RelL.cons (.wk (.same _) (.val _)) (RelL.nil _))) (.same _ (.val _)) ?_ | refine callK 1000 0 34 (encLw ⟨f, s, a, fu, 0⟩) (encLw l2) (c2) (encLw_closed _) (encLw_closed _) (RelL.cons (.ptr (j := 0) 0 0 rfl) (RelL.cons (.wk (.same _) (.val _)) (RelL.nil _))) (.same _ (.val _)) ?_ | refine goB ?_ | fail))
 first
  | exact ⟨_, ResL.nil, rfl, ⟨_, by rfl, RlR.closed (one_cl (encLw_closed l2))⟩, trivial⟩
  | exact awp_ret ⟨_, ResL.nil, rfl, ⟨_, by rfl, RlR.closed (one_cl (encLw_closed l2))⟩, trivial⟩
  | (refine awp_skip ?_; exact ⟨_, ResL.nil, rfl, ⟨_, by rfl, RlR.closed (one_cl (encLw_closed l2))⟩, trivial⟩)
theorem compil_c (f : Fo) (n : Int) (hb : f.v.m.b.length ≤ 1000000) (h : fetchD f.v.m 8 = (n, 0)) (b : Bool) (hx : (f.c.xt = 0 ∧ b = false) ∨ (f.c.xt ≠ 0 ∧ ((n = 0 ∧ b = false) ∨ (n ≠ 0 ∧ b = true)))) : FnC Tryz.prog 34 [.agg (encFo f)] (.val (.bool b)) := by
 have c1 := Mem.ref_fetch_c f.v.m 8 hb
 rw [h] at c1
 rcases hx with ⟨hx, rfl⟩ | ⟨hx, hx2⟩
 ·have d1 : (f.c.xt != 0) = false := by simp [hx]
  refine goF Tryz.func34 (closedL_cons (.agg (encFo_closed f)) closedL_nil) (fun w0 st0 => ?_)
  dsimp only [frOf]
  (repeat' (first | refine goA ?_ | refine cX c1 ?_ | refine goB ?_ | fail))
  exact awp_ret ⟨_, ResL.cons (ResA.tmp (.val _)) .nil, rfl⟩
 have d1 : (f.c.xt != 0) = true := by simp [hx]
 rcases hx2 with ⟨hn, rfl⟩ | ⟨hn, rfl⟩
 ·have d2 : (n != 0) = false := by simp [hn]
  refine goF Tryz.func34 (closedL_cons (.agg (encFo_closed f)) closedL_nil) (fun w0 st0 => ?_)
  dsimp only [frOf]
  (repeat' (first | refine goA ?_ | refine cX c1 ?_ | refine goB ?_ | fail))
  exact awp_ret ⟨_, ResL.cons (ResA.tmp (.val _)) .nil, congrArg (fun b => AV.val (.bool b)) d2.symm⟩
 ·have d2 : (n != 0) = true := by simp [hn]
  refine goF Tryz.func34 (closedL_cons (.agg (encFo_closed f)) closedL_nil) (fun w0 st0 => ?_)
  dsimp only [frOf]
  (repeat' (first | refine goA ?_ | refine cX c1 ?_ | refine goB ?_ | fail))
  exact awp_ret ⟨_, ResL.cons (ResA.tmp (.val _)) .nil, congrArg (fun b => AV.val (.bool b)) d2.symm⟩
set_option maxHeartbeats 4000000 in
theorem spec_br (f : Fo) (s : Bs) (a fu : Int) (name : Bs) (i : Nat) (hi : i < 13) (hnm : nmC[i]? = some name) (hm : name ∉ mkN) (hy : name ∉ lyN) (hs : name ∉ spN) (hl : f.c.cf.length ≤ 1000) (hv : ∀ c, c ∈ f.c.cf → c.lv.length ≤ 60) (ok : Okk f.v 100) (b : Bool) (cc : FnC Tryz.prog 34 [.agg (encFo f)] (.val (.bool b))) (v' : V) (l' : List Cfr) (h : brI i f.v f.c.cf = (v', l', 0)) : FnL Tryz.prog 40 [.ptr 1000 0 0 0, St name] [(34, [encLw ⟨f, s, a, fu, 0⟩])] (.tup []) [[encLw ⟨⟨v', withCf f.c l'⟩, s, a, fu, 0⟩]] := by
 have s0 := Dict.eqF name [83, 34] (ne_of hs (by simp [spN]))
 have s1 := Dict.eqF name [46, 34] (ne_of hs (by simp [spN]))
 have s2 := Dict.eqF name [40] (ne_of hs (by simp [spN]))
 have s3 := Dict.eqF name [92] (ne_of hs (by simp [spN]))
 have s4 := Dict.eqF name [91] (ne_of hs (by simp [spN]))
 have s5 := Dict.eqF name [93] (ne_of hs (by simp [spN]))
 have c1 := makes_no f s a fu name hm
 have c2 := lays_no f s a fu name hy
 have c3 := ref_bracket_i i hi f.v f.c.cf name hnm hl hv ok
 rw [h] at c3
 unfold encVLE at c3
 dsimp only at c3
 have c4 := lvm_l f s a fu v'
 have d := z00
 refine FnL.of_awp (T := tt) (ok := tok) Tryz.func40 (by kernel_rfl) rfl (by kernel_rfl) (by kernel_rfl) (fun w0 st0 lent c0 => ?_)
 dsimp only [frOf, hpFrom, List.length_cons, List.length_nil]
 (repeat' (first | refine goA ?_ | refine ARun.nilCheckP rfl rfl (guardF_spec rfl) ?_ | refine cX cc ?_ | refine cX c3 ?_ | refine callK 1000 0 34 (encLw ⟨f, s, a, fu, 0⟩) (encLw ⟨f, s, a, fu, 0⟩) (c1) (encLw_closed _) (encLw_closed _) (RelL.cons (.ptr (j := 0) 0 0 rfl) (RelL.cons (.wk (.same _) (.val _)) (RelL.nil _))) (.same _ (.val _)) ?_ | refine callK 1000 0 34 (encLw ⟨f, s, a, fu, 0⟩) (encLw ⟨f, s, a, fu, 0⟩) (c2) (encLw_closed _) (encLw_closed _) (RelL.cons (.ptr (j := 0) 0 0 rfl) (RelL.cons (.wk (.same _) (.val _)) (RelL.nil _))) (.same _ (.val _)) ?_ | refine callK 1000 0 34 (encLw ⟨f, s, a, fu, 0⟩) (encLw ⟨⟨v', f.c⟩, s, a, fu, 0⟩) (c4) (encLw_closed _) (encLw_closed _) (RelL.cons (.ptr (j := 0) 0 0 rfl) (RelL.cons (.wk (.same _) (by first | exact closedV _ | exact .agg (encFo_closed _))) (RelL.cons (.wk (.same _) (.val _)) (RelL.nil _)))) (.same _ (.tup closedL_nil)) ?_ | refine goB ?_ | fail))
 first
  | exact ⟨_, ResL.nil, rfl, ⟨_, by rfl, RlR.closed (one_cl (encLw_closed ⟨⟨v', withCf f.c l'⟩, s, a, fu, 0⟩))⟩, trivial⟩
  | exact awp_ret ⟨_, ResL.nil, rfl, ⟨_, by rfl, RlR.closed (one_cl (encLw_closed ⟨⟨v', withCf f.c l'⟩, s, a, fu, 0⟩))⟩, trivial⟩
  | (refine awp_skip ?_; exact ⟨_, ResL.nil, rfl, ⟨_, by rfl, RlR.closed (one_cl (encLw_closed ⟨⟨v', withCf f.c l'⟩, s, a, fu, 0⟩))⟩, trivial⟩)
set_option maxHeartbeats 4000000 in
theorem spec_br_no (f : Fo) (s : Bs) (a fu : Int) (name : Bs) (i : Nat) (hi : i < 13) (hnm : nmC[i]? = some name) (hm : name ∉ mkN) (hy : name ∉ lyN) (hs : name ∉ spN) (hl : f.c.cf.length ≤ 1000) (hv : ∀ c, c ∈ f.c.cf → c.lv.length ≤ 60) (ok : Okk f.v 100) (b : Bool) (cc : FnC Tryz.prog 34 [.agg (encFo f)] (.val (.bool b))) (h : brI i f.v f.c.cf = (f.v, f.c.cf, -22)) : FnL Tryz.prog 40 [.ptr 1000 0 0 0, St name] [(34, [encLw ⟨f, s, a, fu, 0⟩])] (.tup []) [[encLw ⟨f, s, a, fu, -22⟩]] := by
 have s0 := Dict.eqF name [83, 34] (ne_of hs (by simp [spN]))
 have s1 := Dict.eqF name [46, 34] (ne_of hs (by simp [spN]))
 have s2 := Dict.eqF name [40] (ne_of hs (by simp [spN]))
 have s3 := Dict.eqF name [92] (ne_of hs (by simp [spN]))
 have s4 := Dict.eqF name [91] (ne_of hs (by simp [spN]))
 have s5 := Dict.eqF name [93] (ne_of hs (by simp [spN]))
 have c1 := makes_no f s a fu name hm
 have c2 := lays_no f s a fu name hy
 have c3 := ref_bracket_i i hi f.v f.c.cf name hnm hl hv ok
 rw [h] at c3
 unfold encVLE at c3
 dsimp only at c3
 have c4 := lvm_no f s a fu f.v (-22) (by decide)
 have d : ((-22 : Int) == 0) = false := beq_eq_false_iff_ne.2 (by decide)
 refine FnL.of_awp (T := tt) (ok := tok) Tryz.func40 (by kernel_rfl) rfl (by kernel_rfl) (by kernel_rfl) (fun w0 st0 lent c0 => ?_)
 dsimp only [frOf, hpFrom, List.length_cons, List.length_nil]
 (repeat' (first | refine goA ?_ | refine ARun.nilCheckP rfl rfl (guardF_spec rfl) ?_ | refine cX cc ?_ | refine cX c3 ?_ | refine callK 1000 0 34 (encLw ⟨f, s, a, fu, 0⟩) (encLw ⟨f, s, a, fu, 0⟩) (c1) (encLw_closed _) (encLw_closed _) (RelL.cons (.ptr (j := 0) 0 0 rfl) (RelL.cons (.wk (.same _) (.val _)) (RelL.nil _))) (.same _ (.val _)) ?_ | refine callK 1000 0 34 (encLw ⟨f, s, a, fu, 0⟩) (encLw ⟨f, s, a, fu, 0⟩) (c2) (encLw_closed _) (encLw_closed _) (RelL.cons (.ptr (j := 0) 0 0 rfl) (RelL.cons (.wk (.same _) (.val _)) (RelL.nil _))) (.same _ (.val _)) ?_ | refine callK 1000 0 34 (encLw ⟨f, s, a, fu, 0⟩) (encLw ⟨f, s, a, fu, -22⟩) (c4) (encLw_closed _) (encLw_closed _) (RelL.cons (.ptr (j := 0) 0 0 rfl) (RelL.cons (.wk (.same _) (by first | exact closedV _ | exact .agg (encFo_closed _))) (RelL.cons (.wk (.same _) (.val _)) (RelL.nil _)))) (.same _ (.tup closedL_nil)) ?_ | refine goB ?_ | fail))
 first
  | exact ⟨_, ResL.nil, rfl, ⟨_, by rfl, RlR.closed (one_cl (encLw_closed ⟨f, s, a, fu, -22⟩))⟩, trivial⟩
  | exact awp_ret ⟨_, ResL.nil, rfl, ⟨_, by rfl, RlR.closed (one_cl (encLw_closed ⟨f, s, a, fu, -22⟩))⟩, trivial⟩
  | (refine awp_skip ?_; exact ⟨_, ResL.nil, rfl, ⟨_, by rfl, RlR.closed (one_cl (encLw_closed ⟨f, s, a, fu, -22⟩))⟩, trivial⟩)
end Go.Proofs.YtfphgelollhdhaaGreat
namespace Go.Proofs.YtfphgelollhdhaaGreat
open Go Go.RowKit
open Go.Proofs.YtfphgelollhdhaaGreat.Dict (St Bs bs_eq Wd encW encWs closed_ws findD encFd NameIn)
open Go.Proofs.YtfphgelollhdhaaGreat.Mem (Mm encM encBs closed_bs encP encP_closed closed_m storeD fetchD)
open Go.Proofs.YtfphgelollhdhaaGreat.Stk (encS closed_s encI_closed)
set_option maxRecDepth 100000
def wiD (k : Int) : Bool := decide (k = 301 ∨ k = 303 ∨ k = 308 ∨ (310 ≤ k ∧ k ≤ 327) ∨ k = 336)
theorem bin_quo4 {P : Program} {t : TypeId} {fl : Int} (h : 0 ≤ fl ∧ fl ≤ 7) : BinR P .quo t (.int .i64 fl) (.int .i64 4) (.int .i64 (fl / 4)) := by
 have h8 : fl = 0 ∨ fl = 1 ∨ fl = 2 ∨ fl = 3 ∨ fl = 4 ∨ fl = 5 ∨ fl = 6 ∨ fl = 7 := by omega
 rcases h8 with rfl | rfl | rfl | rfl | rfl | rfl | rfl | rfl <;> exact bin_wrap (fun w => rfl)
theorem bin_rem4 {P : Program} {t : TypeId} {fl : Int} (h : 0 ≤ fl ∧ fl ≤ 7) : BinR P .rem t (.int .i64 (fl / 4)) (.int .i64 2) (.int .i64 (fl / 4 % 2)) := by
 have h8 : fl = 0 ∨ fl = 1 ∨ fl = 2 ∨ fl = 3 ∨ fl = 4 ∨ fl = 5 ∨ fl = 6 ∨ fl = 7 := by omega
 rcases h8 with rfl | rfl | rfl | rfl | rfl | rfl | rfl | rfl <;> exact bin_wrap (fun w => rfl)
attribute [local irreducible] Decidable.decide awp ARun regK toK
theorem base15_c (v : V) (hb : v.m.b.length ≤ 1000000) (h : fetchD v.m 0 = (10, 0)) : FnC Tryz.prog 43 [.agg (encV v)] (.val (.int .i64 10)) := by
 have c1 := Mem.ref_fetch_c v.m 0 hb
 rw [h] at c1
 refine goF Tryz.func43 (closedL_cons (closedV v) closedL_nil) (fun w0 st0 => ?_)
 dsimp only [frOf]
 (repeat' (first | refine goA ?_ | refine cX c1 ?_ | refine goB ?_ | fail))
 exact awp_ret ⟨_, ResL.cons (ResA.tmp (.val _)) .nil, rfl⟩
theorem wi15_a (k : Int) (h : k = 301) : FnC Tryz.prog 38 [.val (.int .i64 k)] (.val (.bool true)) := by
 have e1 : (k == 301) = true := beq_iff_eq.2 (by omega)
 refine goF Tryz.func38 (closedL_cons (.val _) closedL_nil) (fun w0 st0 => ?_)
 dsimp only [frOf]
 (repeat' (first | refine goA ?_ | refine goB ?_ | fail))
 first
  | exact awp_ret ⟨_, ResL.cons (ResA.tmp (.val _)) .nil, rfl⟩
  | exact awp_ret ⟨_, ResL.cons (ResA.tmp (.val _)) .nil, congrArg (fun b => AV.val (.bool b)) e1.symm⟩
  | exact awp_ret ⟨_, ResL.cons (ResA.tmp (.val _)) .nil, congrArg (fun b => AV.val (.bool b)) e1⟩
theorem wi15_b (k : Int) (h : k = 303) : FnC Tryz.prog 38 [.val (.int .i64 k)] (.val (.bool true)) := by
 have e1 : (k == 301) = false := beq_eq_false_iff_ne.2 (by omega)
 have e2 : (k == 303) = true := beq_iff_eq.2 (by omega)
 refine goF Tryz.func38 (closedL_cons (.val _) closedL_nil) (fun w0 st0 => ?_)
 dsimp only [frOf]
 (repeat' (first | refine goA ?_ | refine goB ?_ | fail))
 first
  | exact awp_ret ⟨_, ResL.cons (ResA.tmp (.val _)) .nil, rfl⟩
  | exact awp_ret ⟨_, ResL.cons (ResA.tmp (.val _)) .nil, congrArg (fun b => AV.val (.bool b)) e2.symm⟩
  | exact awp_ret ⟨_, ResL.cons (ResA.tmp (.val _)) .nil, congrArg (fun b => AV.val (.bool b)) e2⟩
theorem wi15_c' (k : Int) (h : k = 308) : FnC Tryz.prog 38 [.val (.int .i64 k)] (.val (.bool true)) := by
 have e1 : (k == 301) = false := beq_eq_false_iff_ne.2 (by omega)
 have e2 : (k == 303) = false := beq_eq_false_iff_ne.2 (by omega)
 have e3 : (k == 308) = true := beq_iff_eq.2 (by omega)
 refine goF Tryz.func38 (closedL_cons (.val _) closedL_nil) (fun w0 st0 => ?_)
 dsimp only [frOf]
 (repeat' (first | refine goA ?_ | refine goB ?_ | fail))
 first
  | exact awp_ret ⟨_, ResL.cons (ResA.tmp (.val _)) .nil, rfl⟩
  | exact awp_ret ⟨_, ResL.cons (ResA.tmp (.val _)) .nil, congrArg (fun b => AV.val (.bool b)) e3.symm⟩
  | exact awp_ret ⟨_, ResL.cons (ResA.tmp (.val _)) .nil, congrArg (fun b => AV.val (.bool b)) e3⟩
theorem wi15_d (k : Int) (h : 310 ≤ k ∧ k ≤ 327) : FnC Tryz.prog 38 [.val (.int .i64 k)] (.val (.bool true)) := by
 have e1 : (k == 301) = false := beq_eq_false_iff_ne.2 (by omega)
 have e2 : (k == 303) = false := beq_eq_false_iff_ne.2 (by omega)
 have e3 : (k == 308) = false := beq_eq_false_iff_ne.2 (by omega)
 have e4 : decide (310 ≤ k) = true := decide_eq_true (by omega)
 have e5 : decide (k ≤ 327) = true := decide_eq_true (by omega)
 refine goF Tryz.func38 (closedL_cons (.val _) closedL_nil) (fun w0 st0 => ?_)
 dsimp only [frOf]
 (repeat' (first | refine goA ?_ | refine goB ?_ | fail))
 first
  | exact awp_ret ⟨_, ResL.cons (ResA.tmp (.val _)) .nil, rfl⟩
  | exact awp_ret ⟨_, ResL.cons (ResA.tmp (.val _)) .nil, congrArg (fun b => AV.val (.bool b)) e5.symm⟩
  | exact awp_ret ⟨_, ResL.cons (ResA.tmp (.val _)) .nil, congrArg (fun b => AV.val (.bool b)) e5⟩
theorem wi15_e (k : Int) (h : k = 336) : FnC Tryz.prog 38 [.val (.int .i64 k)] (.val (.bool true)) := by
 have e1 : (k == 301) = false := beq_eq_false_iff_ne.2 (by omega)
 have e2 : (k == 303) = false := beq_eq_false_iff_ne.2 (by omega)
 have e3 : (k == 308) = false := beq_eq_false_iff_ne.2 (by omega)
 have e4 : decide (310 ≤ k) = true := decide_eq_true (by omega)
 have e5 : decide (k ≤ 327) = false := decide_eq_false (by omega)
 have e6 : (k == 336) = true := beq_iff_eq.2 (by omega)
 refine goF Tryz.func38 (closedL_cons (.val _) closedL_nil) (fun w0 st0 => ?_)
 dsimp only [frOf]
 (repeat' (first | refine goA ?_ | refine goB ?_ | fail))
 first
  | exact awp_ret ⟨_, ResL.cons (ResA.tmp (.val _)) .nil, rfl⟩
  | exact awp_ret ⟨_, ResL.cons (ResA.tmp (.val _)) .nil, congrArg (fun b => AV.val (.bool b)) e6.symm⟩
  | exact awp_ret ⟨_, ResL.cons (ResA.tmp (.val _)) .nil, congrArg (fun b => AV.val (.bool b)) e6⟩
theorem wi15_f (k : Int) (h : k < 310 ∧ k ≠ 301 ∧ k ≠ 303 ∧ k ≠ 308) : FnC Tryz.prog 38 [.val (.int .i64 k)] (.val (.bool false)) := by
 have e1 : (k == 301) = false := beq_eq_false_iff_ne.2 (by omega)
 have e2 : (k == 303) = false := beq_eq_false_iff_ne.2 (by omega)
 have e3 : (k == 308) = false := beq_eq_false_iff_ne.2 (by omega)
 have e4 : decide (310 ≤ k) = false := decide_eq_false (by omega)
 have e6 : (k == 336) = false := beq_eq_false_iff_ne.2 (by omega)
 refine goF Tryz.func38 (closedL_cons (.val _) closedL_nil) (fun w0 st0 => ?_)
 dsimp only [frOf]
 (repeat' (first | refine goA ?_ | refine goB ?_ | fail))
 first
  | exact awp_ret ⟨_, ResL.cons (ResA.tmp (.val _)) .nil, rfl⟩
  | exact awp_ret ⟨_, ResL.cons (ResA.tmp (.val _)) .nil, congrArg (fun b => AV.val (.bool b)) e6.symm⟩
  | exact awp_ret ⟨_, ResL.cons (ResA.tmp (.val _)) .nil, congrArg (fun b => AV.val (.bool b)) e6⟩
theorem wi15_g (k : Int) (h : 327 < k ∧ k ≠ 336) : FnC Tryz.prog 38 [.val (.int .i64 k)] (.val (.bool false)) := by
 have e1 : (k == 301) = false := beq_eq_false_iff_ne.2 (by omega)
 have e2 : (k == 303) = false := beq_eq_false_iff_ne.2 (by omega)
 have e3 : (k == 308) = false := beq_eq_false_iff_ne.2 (by omega)
 have e4 : decide (310 ≤ k) = true := decide_eq_true (by omega)
 have e5 : decide (k ≤ 327) = false := decide_eq_false (by omega)
 have e6 : (k == 336) = false := beq_eq_false_iff_ne.2 (by omega)
 refine goF Tryz.func38 (closedL_cons (.val _) closedL_nil) (fun w0 st0 => ?_)
 dsimp only [frOf]
 (repeat' (first | refine goA ?_ | refine goB ?_ | fail))
 first
  | exact awp_ret ⟨_, ResL.cons (ResA.tmp (.val _)) .nil, rfl⟩
  | exact awp_ret ⟨_, ResL.cons (ResA.tmp (.val _)) .nil, congrArg (fun b => AV.val (.bool b)) e6.symm⟩
  | exact awp_ret ⟨_, ResL.cons (ResA.tmp (.val _)) .nil, congrArg (fun b => AV.val (.bool b)) e6⟩
theorem wi15_c (k : Int) : FnC Tryz.prog 38 [.val (.int .i64 k)] (.val (.bool (wiD k))) := by
 unfold wiD
 by_cases h1 : k = 301
 ·rw [decide_eq_true (.inl h1)]; exact wi15_a k h1
 by_cases h2 : k = 303
 ·rw [decide_eq_true (.inr (.inl h2))]; exact wi15_b k h2
 by_cases h3 : k = 308
 ·rw [decide_eq_true (.inr (.inr (.inl h3)))]; exact wi15_c' k h3
 by_cases h4 : 310 ≤ k ∧ k ≤ 327
 ·rw [decide_eq_true (.inr (.inr (.inr (.inl h4))))]; exact wi15_d k h4
 by_cases h5 : k = 336
 ·rw [decide_eq_true (.inr (.inr (.inr (.inr h5))))]; exact wi15_e k h5
 rw [decide_eq_false (by omega)]
 by_cases h6 : k < 310
 ·exact wi15_f k ⟨h6, h1, h2, h3⟩
 ·exact wi15_g k (by omega)
set_option maxHeartbeats 4000000 in
theorem w15_end (f : Fo) (s : Bs) (a : Nat) (fu : Int) (a2 : Nat) (hfu : 0 ≤ fu) (hl : s.length ≤ 1000000) (ha : a ≤ s.length) (ht : tokD (s.drop a) [] a = ([], a2)) : FnC Tryz.prog 15 [.agg (encFo f), St s, .val (.int .i64 (a : Nat)), .val (.int .i64 fu)] (.tup [.agg (encFo f), .val (.int .i64 (s.length : Nat)), .val (.int .i64 fu), .val (.bool false), .val (.int .i64 0)]) := by
 have c1 := word8_c s a hl ha
 rw [ht] at c1
 have e0 : decide (fu < 0) = false := decide_eq_false (by omega)
 have z1 : ((0 : Int) != 0) = false := by simp
 have nt : (!true) = false := rfl
 have nf : (!false) = true := rfl
 have hz : (ByteArray.mk s.toArray).size = s.length := rfl
 have e1 : ((ByteArray.mk ([] : Bs).toArray).toList == (ByteArray.mk #[]).toList) = true := by rw [bs_eq [] []]; exact decide_eq_true rfl
 refine goF Tryz.func15 (closedL_cons (.agg (encFo_closed f)) (closedL_cons (.val _) (closedL_cons (.val _) (closedL_cons (.val _) closedL_nil)))) (fun w0 st0 => ?_)
 dsimp only [frOf]
 (repeat' (first | refine goA ?_ | refine cX c1 ?_ | refine goB ?_ | fail))
 exact awp_ret ⟨_, ResL.cons (ResA.agg rfl rfl rfl rfl rfl rfl rfl (RL.allClosed (encFo_closed f))) (ResL.cons (ResA.tmp (.val _)) (ResL.cons (ResA.tmp (.val _)) (ResL.cons (ResA.tmp (.val _)) (ResL.cons (ResA.tmp (.val _)) .nil)))), rfl⟩
set_option maxHeartbeats 8000000 in
theorem w15_num (f : Fo) (s : Bs) (a : Nat) (fu : Int) (w : Bs) (a2 : Nat) (hfu : 0 ≤ fu) (hl : s.length ≤ 1000000) (ha : a ≤ s.length) (ht : tokD (s.drop a) [] a = (w, a2)) (hw : w ≠ []) (hwl : w.length ≤ 1000) (hd : f.v.dict.length ≤ 1000000) (hin : NameIn f.v.dict) (hf : (findD f.v.dict w).2.2 = false) (hn : (numD w).2 = true) (hb : f.v.m.b.length ≤ 1000000) (hba : fetchD f.v.m 0 = (10, 0)) (cc : FnC Tryz.prog 34 [.agg (encFo f)] (.val (.bool true))) (v' : V) (ok : Okk f.v 2) (h : outD (litK f.v (numD w).1) f.v = (v', 0)) : FnC Tryz.prog 15 [.agg (encFo f), St s, .val (.int .i64 (a : Nat)), .val (.int .i64 fu)] (.tup [.agg (encFo ⟨v', f.c⟩), .val (.int .i64 (a2 : Nat)), .val (.int .i64 fu), .val (.bool true), .val (.int .i64 0)]) := by
 have c1 := word8_c s a hl ha
 rw [ht] at c1
 have e0 : decide (fu < 0) = false := decide_eq_false (by omega)
 have z1 : ((0 : Int) != 0) = false := by simp
 have nt : (!true) = false := rfl
 have nf : (!false) = true := rfl
 have e1 := Dict.eqF w [] hw
 have c2 := Dict.ref_find_c f.v.dict w hd (by omega) hin
 unfold encFd at c2
 rw [hf] at c2
 have c3 := num_c w hwl hw
 rw [hn] at c3
 have c4 : FnC Tryz.prog 43 [.agg (encV f.v)] (.val (.int .i64 10)) := base15_c f.v hb hba
 have c5 := llit_l f s (a2 : Nat) fu (numD w).1 v' ok h
 clear h
 generalize numD w = nd at *
 generalize findD f.v.dict w = fd at *
 refine goF Tryz.func15 (closedL_cons (.agg (encFo_closed f)) (closedL_cons (.val _) (closedL_cons (.val _) (closedL_cons (.val _) closedL_nil)))) (fun w0 st0 => ?_)
 dsimp only [frOf]
 (repeat' (first | refine goA ?_ | refine cX c1 ?_ | refine cX c2 ?_ | refine cX c3 ?_ | refine cX c4 ?_ | refine cX cc ?_ | refine callK 15 23 34 (encLw ⟨f, s, (a2 : Nat), fu, 0⟩) (encLw ⟨⟨v', f.c⟩, s, (a2 : Nat), fu, 0⟩) (c5) (encLw_closed _) (encLw_closed _) (RelL.cons (.ptr (j := 0) 0 0 rfl) (RelL.cons (.wk (.same _) (.val _)) (RelL.nil _))) (.same _ (.tup closedL_nil)) ?_ | refine goB ?_ | fail))
 exact awp_ret ⟨_, ResL.cons (ResA.agg rfl rfl rfl rfl rfl rfl rfl (RL.allClosed (encFo_closed ⟨v', f.c⟩))) (ResL.cons (ResA.tmp (.val _)) (ResL.cons (ResA.tmp (.val _)) (ResL.cons (ResA.tmp (.val _)) (ResL.cons (ResA.tmp (.val _)) .nil)))), rfl⟩
set_option maxHeartbeats 8000000 in
theorem w15_prim_true (f : Fo) (s : Bs) (a : Nat) (fu : Int) (w : Bs) (a2 : Nat) (hfu : 0 ≤ fu) (hl : s.length ≤ 1000000) (ha : a ≤ s.length) (ht : tokD (s.drop a) [] a = (w, a2)) (hw : w ≠ []) (hwl : w.length ≤ 1000000) (hd : f.v.dict.length ≤ 1000000) (hin : NameIn f.v.dict) (x : Wd) (i : Int) (hf : findD f.v.dict w = (x, i, true)) (k : Int) (hb : f.v.m.b.length ≤ 1000000) (hk : kindD f.v x.xt = (k, 0)) (hfl : 0 ≤ x.fl ∧ x.fl ≤ 7) (cc : FnC Tryz.prog 34 [.agg (encFo f)] (.val (.bool true))) (h0 : x.fl % 2 ≠ 1) (hk3 : k < 300) (hob : (x.fl / 4 % 2 == 1) = true) (v' : V) (ok : Okk f.v 2) (h : vlayD f.v x.xt = (v', 0)) : FnC Tryz.prog 15 [.agg (encFo f), St s, .val (.int .i64 (a : Nat)), .val (.int .i64 fu)] (.tup [.agg (encFo ⟨v', f.c⟩), .val (.int .i64 (a2 : Nat)), .val (.int .i64 fu), .val (.bool true), .val (.int .i64 0)]) := by
 have c1 := word8_c s a hl ha
 rw [ht] at c1
 have e0 : decide (fu < 0) = false := decide_eq_false (by omega)
 have z1 : ((0 : Int) != 0) = false := by simp
 have nt : (!true) = false := rfl
 have nf : (!false) = true := rfl
 have e1 := Dict.eqF w [] hw
 have c2 := Dict.ref_find_c f.v.dict w hd hwl hin
 rw [hf] at c2
 unfold encFd at c2
 dsimp only at c2
 have c3 := ref_kind_c f.v x.xt hb
 rw [hk] at c3
 have c4 := wi15_c k
 have hb1 := bin_mod2 (P := Tryz.prog) (t := 3) hfl
 have hb2 := bin_quo4 (P := Tryz.prog) (t := 3) hfl
 have hb3 := bin_rem4 (P := Tryz.prog) (t := 3) hfl
 have d1 : (x.fl % 2 == 1) = false := beq_eq_false_iff_ne.2 h0
 have d2 : (!(x.fl % 2 == 1)) = true := by rw [d1]; rfl
 rw [show wiD k = false from decide_eq_false (by omega)] at c4
 have c5 := llay_l f s (a2 : Nat) fu x.xt v' ok h
 clear h
 refine goF Tryz.func15 (closedL_cons (.agg (encFo_closed f)) (closedL_cons (.val _) (closedL_cons (.val _) (closedL_cons (.val _) closedL_nil)))) (fun w0 st0 => ?_)
 dsimp only [frOf]
 (repeat' (first | refine ARun.bin rfl rfl hb3 rfl (guardF_spec rfl) ?_ | refine ARun.bin rfl rfl hb2 rfl (guardF_spec rfl) ?_ | refine ARun.bin rfl rfl hb1 rfl (guardF_spec rfl) ?_ | refine goA ?_ | refine cX c1 ?_ | refine cX c2 ?_ | refine cX c3 ?_ | refine cX c4 ?_ | refine cX cc ?_ | refine callK 15 23 34 (encLw ⟨f, s, (a2 : Nat), fu, 0⟩) (encLw ⟨⟨v', f.c⟩, s, (a2 : Nat), fu, 0⟩) (c5) (encLw_closed _) (encLw_closed _) (RelL.cons (.ptr (j := 0) 0 0 rfl) (RelL.cons (.wk (.same _) (.val _)) (RelL.nil _))) (.same _ (.tup closedL_nil)) ?_ | refine goB ?_ | fail))
 exact awp_ret ⟨_, ResL.cons (ResA.agg rfl rfl rfl rfl rfl rfl rfl (RL.allClosed (encFo_closed ⟨v', f.c⟩))) (ResL.cons (ResA.tmp (.val _)) (ResL.cons (ResA.tmp (.val _)) (ResL.cons (ResA.tmp (.val _)) (ResL.cons (ResA.tmp (.val _)) .nil)))), rfl⟩
set_option maxHeartbeats 8000000 in
theorem w15_prim_false (f : Fo) (s : Bs) (a : Nat) (fu : Int) (w : Bs) (a2 : Nat) (hfu : 0 ≤ fu) (hl : s.length ≤ 1000000) (ha : a ≤ s.length) (ht : tokD (s.drop a) [] a = (w, a2)) (hw : w ≠ []) (hwl : w.length ≤ 1000000) (hd : f.v.dict.length ≤ 1000000) (hin : NameIn f.v.dict) (x : Wd) (i : Int) (hf : findD f.v.dict w = (x, i, true)) (k : Int) (hb : f.v.m.b.length ≤ 1000000) (hk : kindD f.v x.xt = (k, 0)) (hfl : 0 ≤ x.fl ∧ x.fl ≤ 7) (cc : FnC Tryz.prog 34 [.agg (encFo f)] (.val (.bool true))) (h0 : x.fl % 2 ≠ 1) (hk3 : k < 300) (hob : (x.fl / 4 % 2 == 1) = false) (v' : V) (ok : Okk f.v 2) (h : vlayD f.v x.xt = (v', 0)) : FnC Tryz.prog 15 [.agg (encFo f), St s, .val (.int .i64 (a : Nat)), .val (.int .i64 fu)] (.tup [.agg (encFo ⟨v', f.c⟩), .val (.int .i64 (a2 : Nat)), .val (.int .i64 fu), .val (.bool true), .val (.int .i64 0)]) := by
 have c1 := word8_c s a hl ha
 rw [ht] at c1
 have e0 : decide (fu < 0) = false := decide_eq_false (by omega)
 have z1 : ((0 : Int) != 0) = false := by simp
 have nt : (!true) = false := rfl
 have nf : (!false) = true := rfl
 have e1 := Dict.eqF w [] hw
 have c2 := Dict.ref_find_c f.v.dict w hd hwl hin
 rw [hf] at c2
 unfold encFd at c2
 dsimp only at c2
 have c3 := ref_kind_c f.v x.xt hb
 rw [hk] at c3
 have c4 := wi15_c k
 have hb1 := bin_mod2 (P := Tryz.prog) (t := 3) hfl
 have hb2 := bin_quo4 (P := Tryz.prog) (t := 3) hfl
 have hb3 := bin_rem4 (P := Tryz.prog) (t := 3) hfl
 have d1 : (x.fl % 2 == 1) = false := beq_eq_false_iff_ne.2 h0
 have d2 : (!(x.fl % 2 == 1)) = true := by rw [d1]; rfl
 rw [show wiD k = false from decide_eq_false (by omega)] at c4
 have c5 := llay_l f s (a2 : Nat) fu x.xt v' ok h
 clear h
 refine goF Tryz.func15 (closedL_cons (.agg (encFo_closed f)) (closedL_cons (.val _) (closedL_cons (.val _) (closedL_cons (.val _) closedL_nil)))) (fun w0 st0 => ?_)
 dsimp only [frOf]
 (repeat' (first | refine ARun.bin rfl rfl hb3 rfl (guardF_spec rfl) ?_ | refine ARun.bin rfl rfl hb2 rfl (guardF_spec rfl) ?_ | refine ARun.bin rfl rfl hb1 rfl (guardF_spec rfl) ?_ | refine goA ?_ | refine cX c1 ?_ | refine cX c2 ?_ | refine cX c3 ?_ | refine cX c4 ?_ | refine cX cc ?_ | refine callK 15 23 34 (encLw ⟨f, s, (a2 : Nat), fu, 0⟩) (encLw ⟨⟨v', f.c⟩, s, (a2 : Nat), fu, 0⟩) (c5) (encLw_closed _) (encLw_closed _) (RelL.cons (.ptr (j := 0) 0 0 rfl) (RelL.cons (.wk (.same _) (.val _)) (RelL.nil _))) (.same _ (.tup closedL_nil)) ?_ | refine goB ?_ | fail))
 exact awp_ret ⟨_, ResL.cons (ResA.agg rfl rfl rfl rfl rfl rfl rfl (RL.allClosed (encFo_closed ⟨v', f.c⟩))) (ResL.cons (ResA.tmp (.val _)) (ResL.cons (ResA.tmp (.val _)) (ResL.cons (ResA.tmp (.val _)) (ResL.cons (ResA.tmp (.val _)) .nil)))), rfl⟩
end Go.Proofs.YtfphgelollhdhaaGreat
namespace Go.Proofs.YtfphgelollhdhaaGreat
open Go Go.RowKit
open Go.Proofs.YtfphgelollhdhaaGreat.Dict (St Bs bs_eq Wd encW encWs closed_ws findD encFd NameIn)
open Go.Proofs.YtfphgelollhdhaaGreat.Mem (Mm encM encBs closed_bs encP encP_closed closed_m storeD fetchD)
open Go.Proofs.YtfphgelollhdhaaGreat.Stk (encS closed_s encI_closed)
set_option maxRecDepth 100000
attribute [local irreducible] Decidable.decide awp ARun regK toK
set_option maxHeartbeats 8000000 in
theorem w15_spec_tt0 (f : Fo) (s : Bs) (a : Nat) (fu : Int) (w : Bs) (a2 : Nat) (hfu : 0 ≤ fu) (hl : s.length ≤ 1000000) (ha : a ≤ s.length) (ht : tokD (s.drop a) [] a = (w, a2)) (hw : w ≠ []) (hwl : w.length ≤ 1000000) (hd : f.v.dict.length ≤ 1000000) (hin : NameIn f.v.dict) (x : Wd) (i : Int) (hf : findD f.v.dict w = (x, i, true)) (k : Int) (hb : f.v.m.b.length ≤ 1000000) (hk : kindD f.v x.xt = (k, 0)) (hfl : 0 ≤ x.fl ∧ x.fl ≤ 7) (cc : FnC Tryz.prog 34 [.agg (encFo f)] (.val (.bool true))) (h0 : x.fl % 2 = 1) (hk3 : 300 ≤ k ∧ k ≤ 336) (hob : (x.fl / 4 % 2 == 1) = true) (hwb : wiD k = true) (l2 : Lw) (hl2 : l2.bad = 0) (cS : FnL Tryz.prog 40 [.ptr 1000 0 0 0, St (nameS k)] [(34, [encLw ⟨f, s, (a2 : Nat), fu, 0⟩])] (.tup []) [[encLw l2]]) : FnC Tryz.prog 15 [.agg (encFo f), St s, .val (.int .i64 (a : Nat)), .val (.int .i64 fu)] (.tup [.agg (encFo l2.f), .val (.int .i64 l2.at'), .val (.int .i64 l2.fuel), .val (.bool true), .val (.int .i64 0)]) := by
 have c1 := word8_c s a hl ha
 rw [ht] at c1
 have e0 : decide (fu < 0) = false := decide_eq_false (by omega)
 have z1 : ((0 : Int) != 0) = false := by simp
 have nt : (!true) = false := rfl
 have nf : (!false) = true := rfl
 have e1 := Dict.eqF w [] hw
 have c2 := Dict.ref_find_c f.v.dict w hd hwl hin
 rw [hf] at c2
 unfold encFd at c2
 dsimp only at c2
 have c3 := ref_kind_c f.v x.xt hb
 rw [hk] at c3
 have c4 := wi15_c k
 have hb1 := bin_mod2 (P := Tryz.prog) (t := 3) hfl
 have hb2 := bin_quo4 (P := Tryz.prog) (t := 3) hfl
 have hb3 := bin_rem4 (P := Tryz.prog) (t := 3) hfl
 have d3 : decide (300 ≤ k) = true := decide_eq_true hk3.1
 have c5 := ref_specials_c
 have hlen : spcV.length = 37 := by have := len_spc; rw [List.length_map] at this; exact this
 have hp : (spcV.map encN)[(k - 300).toNat]? = some (encN (nameS k)) := by
  unfold nameS
  rw [List.getElem?_map, List.getElem?_eq_getElem (by omega)]
  rfl
 have d4 : (l2.bad != 0) = false := by simp [hl2]
 have d1 : (x.fl % 2 == 1) = true := beq_iff_eq.2 h0
 have d2 : (!(x.fl % 2 == 1)) = false := by rw [d1]; rfl
 rw [hwb] at c4
 generalize nameS k = nm at *
 generalize spcV.map encN = nn at *
 refine goF Tryz.func15 (closedL_cons (.agg (encFo_closed f)) (closedL_cons (.val _) (closedL_cons (.val _) (closedL_cons (.val _) closedL_nil)))) (fun w0 st0 => ?_)
 dsimp only [frOf]
 (repeat' (first | refine ARun.bin rfl rfl hb3 rfl (guardF_spec rfl) ?_ | refine ARun.bin rfl rfl hb2 rfl (guardF_spec rfl) ?_ | refine ARun.bin rfl rfl hb1 rfl (guardF_spec rfl) ?_ | refine goA ?_ | refine cX c1 ?_ | refine cX c2 ?_ | refine cX c3 ?_ | refine cX c4 ?_ | refine cX c5 ?_ | refine cX cc ?_ | refine ARun.indexAddr rfl rfl (by omega) (by with_reducible exact hp) rfl rfl rfl rfl rfl (guardF_spec rfl) ?_ | refine callK 15 23 34 (encLw ⟨f, s, (a2 : Nat), fu, 0⟩) (encLw l2) (cS) (encLw_closed _) (encLw_closed _) (RelL.cons (.ptr (j := 0) 0 0 rfl) (RelL.cons (.wk (.same _) (.val _)) (RelL.nil _))) (.same _ (.tup closedL_nil)) ?_ | refine goB ?_ | fail))
 exact awp_ret ⟨_, ResL.cons (ResA.agg rfl rfl rfl rfl rfl rfl rfl (RL.allClosed (encFo_closed l2.f))) (ResL.cons (ResA.tmp (.val _)) (ResL.cons (ResA.tmp (.val _)) (ResL.cons (ResA.tmp (.val _)) (ResL.cons (ResA.tmp (.val _)) .nil)))), rfl⟩
set_option maxHeartbeats 8000000 in
theorem w15_spec_tt1 (f : Fo) (s : Bs) (a : Nat) (fu : Int) (w : Bs) (a2 : Nat) (hfu : 0 ≤ fu) (hl : s.length ≤ 1000000) (ha : a ≤ s.length) (ht : tokD (s.drop a) [] a = (w, a2)) (hw : w ≠ []) (hwl : w.length ≤ 1000000) (hd : f.v.dict.length ≤ 1000000) (hin : NameIn f.v.dict) (x : Wd) (i : Int) (hf : findD f.v.dict w = (x, i, true)) (k : Int) (hb : f.v.m.b.length ≤ 1000000) (hk : kindD f.v x.xt = (k, 0)) (hfl : 0 ≤ x.fl ∧ x.fl ≤ 7) (cc : FnC Tryz.prog 34 [.agg (encFo f)] (.val (.bool true))) (h0 : x.fl % 2 = 1) (hk3 : 300 ≤ k ∧ k ≤ 336) (hob : (x.fl / 4 % 2 == 1) = true) (hwb : wiD k = true) (l2 : Lw) (hl2 : l2.bad ≠ 0) (cS : FnL Tryz.prog 40 [.ptr 1000 0 0 0, St (nameS k)] [(34, [encLw ⟨f, s, (a2 : Nat), fu, 0⟩])] (.tup []) [[encLw l2]]) : FnC Tryz.prog 15 [.agg (encFo f), St s, .val (.int .i64 (a : Nat)), .val (.int .i64 fu)] (.tup [.agg (encFo f), .val (.int .i64 (a : Nat)), .val (.int .i64 fu), .val (.bool true), .val (.int .i64 l2.bad)]) := by
 have c1 := word8_c s a hl ha
 rw [ht] at c1
 have e0 : decide (fu < 0) = false := decide_eq_false (by omega)
 have z1 : ((0 : Int) != 0) = false := by simp
 have nt : (!true) = false := rfl
 have nf : (!false) = true := rfl
 have e1 := Dict.eqF w [] hw
 have c2 := Dict.ref_find_c f.v.dict w hd hwl hin
 rw [hf] at c2
 unfold encFd at c2
 dsimp only at c2
 have c3 := ref_kind_c f.v x.xt hb
 rw [hk] at c3
 have c4 := wi15_c k
 have hb1 := bin_mod2 (P := Tryz.prog) (t := 3) hfl
 have hb2 := bin_quo4 (P := Tryz.prog) (t := 3) hfl
 have hb3 := bin_rem4 (P := Tryz.prog) (t := 3) hfl
 have d3 : decide (300 ≤ k) = true := decide_eq_true hk3.1
 have c5 := ref_specials_c
 have hlen : spcV.length = 37 := by have := len_spc; rw [List.length_map] at this; exact this
 have hp : (spcV.map encN)[(k - 300).toNat]? = some (encN (nameS k)) := by
  unfold nameS
  rw [List.getElem?_map, List.getElem?_eq_getElem (by omega)]
  rfl
 have d4 : (l2.bad != 0) = true := by simp [hl2]
 have d1 : (x.fl % 2 == 1) = true := beq_iff_eq.2 h0
 have d2 : (!(x.fl % 2 == 1)) = false := by rw [d1]; rfl
 rw [hwb] at c4
 generalize nameS k = nm at *
 generalize spcV.map encN = nn at *
 refine goF Tryz.func15 (closedL_cons (.agg (encFo_closed f)) (closedL_cons (.val _) (closedL_cons (.val _) (closedL_cons (.val _) closedL_nil)))) (fun w0 st0 => ?_)
 dsimp only [frOf]
 (repeat' (first | refine ARun.bin rfl rfl hb3 rfl (guardF_spec rfl) ?_ | refine ARun.bin rfl rfl hb2 rfl (guardF_spec rfl) ?_ | refine ARun.bin rfl rfl hb1 rfl (guardF_spec rfl) ?_ | refine goA ?_ | refine cX c1 ?_ | refine cX c2 ?_ | refine cX c3 ?_ | refine cX c4 ?_ | refine cX c5 ?_ | refine cX cc ?_ | refine ARun.indexAddr rfl rfl (by omega) (by with_reducible exact hp) rfl rfl rfl rfl rfl (guardF_spec rfl) ?_ | refine callK 15 23 34 (encLw ⟨f, s, (a2 : Nat), fu, 0⟩) (encLw l2) (cS) (encLw_closed _) (encLw_closed _) (RelL.cons (.ptr (j := 0) 0 0 rfl) (RelL.cons (.wk (.same _) (.val _)) (RelL.nil _))) (.same _ (.tup closedL_nil)) ?_ | refine goB ?_ | fail))
 exact awp_ret ⟨_, ResL.cons (ResA.agg rfl rfl rfl rfl rfl rfl rfl (RL.allClosed (encFo_closed f))) (ResL.cons (ResA.tmp (.val _)) (ResL.cons (ResA.tmp (.val _)) (ResL.cons (ResA.tmp (.val _)) (ResL.cons (ResA.tmp (.val _)) .nil)))), rfl⟩
set_option maxHeartbeats 8000000 in
theorem w15_spec_tf0 (f : Fo) (s : Bs) (a : Nat) (fu : Int) (w : Bs) (a2 : Nat) (hfu : 0 ≤ fu) (hl : s.length ≤ 1000000) (ha : a ≤ s.length) (ht : tokD (s.drop a) [] a = (w, a2)) (hw : w ≠ []) (hwl : w.length ≤ 1000000) (hd : f.v.dict.length ≤ 1000000) (hin : NameIn f.v.dict) (x : Wd) (i : Int) (hf : findD f.v.dict w = (x, i, true)) (k : Int) (hb : f.v.m.b.length ≤ 1000000) (hk : kindD f.v x.xt = (k, 0)) (hfl : 0 ≤ x.fl ∧ x.fl ≤ 7) (cc : FnC Tryz.prog 34 [.agg (encFo f)] (.val (.bool true))) (h0 : x.fl % 2 = 1) (hk3 : 300 ≤ k ∧ k ≤ 336) (hob : (x.fl / 4 % 2 == 1) = true) (hwb : wiD k = false) (l2 : Lw) (hl2 : l2.bad = 0) (cS : FnL Tryz.prog 40 [.ptr 1000 0 0 0, St (nameS k)] [(34, [encLw ⟨f, s, (a2 : Nat), fu, 0⟩])] (.tup []) [[encLw l2]]) : FnC Tryz.prog 15 [.agg (encFo f), St s, .val (.int .i64 (a : Nat)), .val (.int .i64 fu)] (.tup [.agg (encFo l2.f), .val (.int .i64 l2.at'), .val (.int .i64 l2.fuel), .val (.bool true), .val (.int .i64 0)]) := by
 have c1 := word8_c s a hl ha
 rw [ht] at c1
 have e0 : decide (fu < 0) = false := decide_eq_false (by omega)
 have z1 : ((0 : Int) != 0) = false := by simp
 have nt : (!true) = false := rfl
 have nf : (!false) = true := rfl
 have e1 := Dict.eqF w [] hw
 have c2 := Dict.ref_find_c f.v.dict w hd hwl hin
 rw [hf] at c2
 unfold encFd at c2
 dsimp only at c2
 have c3 := ref_kind_c f.v x.xt hb
 rw [hk] at c3
 have c4 := wi15_c k
 have hb1 := bin_mod2 (P := Tryz.prog) (t := 3) hfl
 have hb2 := bin_quo4 (P := Tryz.prog) (t := 3) hfl
 have hb3 := bin_rem4 (P := Tryz.prog) (t := 3) hfl
 have d3 : decide (300 ≤ k) = true := decide_eq_true hk3.1
 have c5 := ref_specials_c
 have hlen : spcV.length = 37 := by have := len_spc; rw [List.length_map] at this; exact this
 have hp : (spcV.map encN)[(k - 300).toNat]? = some (encN (nameS k)) := by
  unfold nameS
  rw [List.getElem?_map, List.getElem?_eq_getElem (by omega)]
  rfl
 have d4 : (l2.bad != 0) = false := by simp [hl2]
 have d1 : (x.fl % 2 == 1) = true := beq_iff_eq.2 h0
 have d2 : (!(x.fl % 2 == 1)) = false := by rw [d1]; rfl
 rw [hwb] at c4
 generalize nameS k = nm at *
 generalize spcV.map encN = nn at *
 refine goF Tryz.func15 (closedL_cons (.agg (encFo_closed f)) (closedL_cons (.val _) (closedL_cons (.val _) (closedL_cons (.val _) closedL_nil)))) (fun w0 st0 => ?_)
 dsimp only [frOf]
 (repeat' (first | refine ARun.bin rfl rfl hb3 rfl (guardF_spec rfl) ?_ | refine ARun.bin rfl rfl hb2 rfl (guardF_spec rfl) ?_ | refine ARun.bin rfl rfl hb1 rfl (guardF_spec rfl) ?_ | refine goA ?_ | refine cX c1 ?_ | refine cX c2 ?_ | refine cX c3 ?_ | refine cX c4 ?_ | refine cX c5 ?_ | refine cX cc ?_ | refine ARun.indexAddr rfl rfl (by omega) (by with_reducible exact hp) rfl rfl rfl rfl rfl (guardF_spec rfl) ?_ | refine callK 15 23 34 (encLw ⟨f, s, (a2 : Nat), fu, 0⟩) (encLw l2) (cS) (encLw_closed _) (encLw_closed _) (RelL.cons (.ptr (j := 0) 0 0 rfl) (RelL.cons (.wk (.same _) (.val _)) (RelL.nil _))) (.same _ (.tup closedL_nil)) ?_ | refine goB ?_ | fail))
 exact awp_ret ⟨_, ResL.cons (ResA.agg rfl rfl rfl rfl rfl rfl rfl (RL.allClosed (encFo_closed l2.f))) (ResL.cons (ResA.tmp (.val _)) (ResL.cons (ResA.tmp (.val _)) (ResL.cons (ResA.tmp (.val _)) (ResL.cons (ResA.tmp (.val _)) .nil)))), rfl⟩
set_option maxHeartbeats 8000000 in
theorem w15_spec_tf1 (f : Fo) (s : Bs) (a : Nat) (fu : Int) (w : Bs) (a2 : Nat) (hfu : 0 ≤ fu) (hl : s.length ≤ 1000000) (ha : a ≤ s.length) (ht : tokD (s.drop a) [] a = (w, a2)) (hw : w ≠ []) (hwl : w.length ≤ 1000000) (hd : f.v.dict.length ≤ 1000000) (hin : NameIn f.v.dict) (x : Wd) (i : Int) (hf : findD f.v.dict w = (x, i, true)) (k : Int) (hb : f.v.m.b.length ≤ 1000000) (hk : kindD f.v x.xt = (k, 0)) (hfl : 0 ≤ x.fl ∧ x.fl ≤ 7) (cc : FnC Tryz.prog 34 [.agg (encFo f)] (.val (.bool true))) (h0 : x.fl % 2 = 1) (hk3 : 300 ≤ k ∧ k ≤ 336) (hob : (x.fl / 4 % 2 == 1) = true) (hwb : wiD k = false) (l2 : Lw) (hl2 : l2.bad ≠ 0) (cS : FnL Tryz.prog 40 [.ptr 1000 0 0 0, St (nameS k)] [(34, [encLw ⟨f, s, (a2 : Nat), fu, 0⟩])] (.tup []) [[encLw l2]]) : FnC Tryz.prog 15 [.agg (encFo f), St s, .val (.int .i64 (a : Nat)), .val (.int .i64 fu)] (.tup [.agg (encFo f), .val (.int .i64 (a : Nat)), .val (.int .i64 fu), .val (.bool true), .val (.int .i64 l2.bad)]) := by
 have c1 := word8_c s a hl ha
 rw [ht] at c1
 have e0 : decide (fu < 0) = false := decide_eq_false (by omega)
 have z1 : ((0 : Int) != 0) = false := by simp
 have nt : (!true) = false := rfl
 have nf : (!false) = true := rfl
 have e1 := Dict.eqF w [] hw
 have c2 := Dict.ref_find_c f.v.dict w hd hwl hin
 rw [hf] at c2
 unfold encFd at c2
 dsimp only at c2
 have c3 := ref_kind_c f.v x.xt hb
 rw [hk] at c3
 have c4 := wi15_c k
 have hb1 := bin_mod2 (P := Tryz.prog) (t := 3) hfl
 have hb2 := bin_quo4 (P := Tryz.prog) (t := 3) hfl
 have hb3 := bin_rem4 (P := Tryz.prog) (t := 3) hfl
 have d3 : decide (300 ≤ k) = true := decide_eq_true hk3.1
 have c5 := ref_specials_c
 have hlen : spcV.length = 37 := by have := len_spc; rw [List.length_map] at this; exact this
 have hp : (spcV.map encN)[(k - 300).toNat]? = some (encN (nameS k)) := by
  unfold nameS
  rw [List.getElem?_map, List.getElem?_eq_getElem (by omega)]
  rfl
 have d4 : (l2.bad != 0) = true := by simp [hl2]
 have d1 : (x.fl % 2 == 1) = true := beq_iff_eq.2 h0
 have d2 : (!(x.fl % 2 == 1)) = false := by rw [d1]; rfl
 rw [hwb] at c4
 generalize nameS k = nm at *
 generalize spcV.map encN = nn at *
 refine goF Tryz.func15 (closedL_cons (.agg (encFo_closed f)) (closedL_cons (.val _) (closedL_cons (.val _) (closedL_cons (.val _) closedL_nil)))) (fun w0 st0 => ?_)
 dsimp only [frOf]
 (repeat' (first | refine ARun.bin rfl rfl hb3 rfl (guardF_spec rfl) ?_ | refine ARun.bin rfl rfl hb2 rfl (guardF_spec rfl) ?_ | refine ARun.bin rfl rfl hb1 rfl (guardF_spec rfl) ?_ | refine goA ?_ | refine cX c1 ?_ | refine cX c2 ?_ | refine cX c3 ?_ | refine cX c4 ?_ | refine cX c5 ?_ | refine cX cc ?_ | refine ARun.indexAddr rfl rfl (by omega) (by with_reducible exact hp) rfl rfl rfl rfl rfl (guardF_spec rfl) ?_ | refine callK 15 23 34 (encLw ⟨f, s, (a2 : Nat), fu, 0⟩) (encLw l2) (cS) (encLw_closed _) (encLw_closed _) (RelL.cons (.ptr (j := 0) 0 0 rfl) (RelL.cons (.wk (.same _) (.val _)) (RelL.nil _))) (.same _ (.tup closedL_nil)) ?_ | refine goB ?_ | fail))
 exact awp_ret ⟨_, ResL.cons (ResA.agg rfl rfl rfl rfl rfl rfl rfl (RL.allClosed (encFo_closed f))) (ResL.cons (ResA.tmp (.val _)) (ResL.cons (ResA.tmp (.val _)) (ResL.cons (ResA.tmp (.val _)) (ResL.cons (ResA.tmp (.val _)) .nil)))), rfl⟩
set_option maxHeartbeats 8000000 in
theorem w15_spec_ft0 (f : Fo) (s : Bs) (a : Nat) (fu : Int) (w : Bs) (a2 : Nat) (hfu : 0 ≤ fu) (hl : s.length ≤ 1000000) (ha : a ≤ s.length) (ht : tokD (s.drop a) [] a = (w, a2)) (hw : w ≠ []) (hwl : w.length ≤ 1000000) (hd : f.v.dict.length ≤ 1000000) (hin : NameIn f.v.dict) (x : Wd) (i : Int) (hf : findD f.v.dict w = (x, i, true)) (k : Int) (hb : f.v.m.b.length ≤ 1000000) (hk : kindD f.v x.xt = (k, 0)) (hfl : 0 ≤ x.fl ∧ x.fl ≤ 7) (cc : FnC Tryz.prog 34 [.agg (encFo f)] (.val (.bool true))) (h0 : x.fl % 2 = 1) (hk3 : 300 ≤ k ∧ k ≤ 336) (hob : (x.fl / 4 % 2 == 1) = false) (hwb : wiD k = true) (l2 : Lw) (hl2 : l2.bad = 0) (cS : FnL Tryz.prog 40 [.ptr 1000 0 0 0, St (nameS k)] [(34, [encLw ⟨f, s, (a2 : Nat), fu, 0⟩])] (.tup []) [[encLw l2]]) : FnC Tryz.prog 15 [.agg (encFo f), St s, .val (.int .i64 (a : Nat)), .val (.int .i64 fu)] (.tup [.agg (encFo l2.f), .val (.int .i64 l2.at'), .val (.int .i64 l2.fuel), .val (.bool true), .val (.int .i64 0)]) := by
 have c1 := word8_c s a hl ha
 rw [ht] at c1
 have e0 : decide (fu < 0) = false := decide_eq_false (by omega)
 have z1 : ((0 : Int) != 0) = false := by simp
 have nt : (!true) = false := rfl
 have nf : (!false) = true := rfl
 have e1 := Dict.eqF w [] hw
 have c2 := Dict.ref_find_c f.v.dict w hd hwl hin
 rw [hf] at c2
 unfold encFd at c2
 dsimp only at c2
 have c3 := ref_kind_c f.v x.xt hb
 rw [hk] at c3
 have c4 := wi15_c k
 have hb1 := bin_mod2 (P := Tryz.prog) (t := 3) hfl
 have hb2 := bin_quo4 (P := Tryz.prog) (t := 3) hfl
 have hb3 := bin_rem4 (P := Tryz.prog) (t := 3) hfl
 have d3 : decide (300 ≤ k) = true := decide_eq_true hk3.1
 have c5 := ref_specials_c
 have hlen : spcV.length = 37 := by have := len_spc; rw [List.length_map] at this; exact this
 have hp : (spcV.map encN)[(k - 300).toNat]? = some (encN (nameS k)) := by
  unfold nameS
  rw [List.getElem?_map, List.getElem?_eq_getElem (by omega)]
  rfl
 have d4 : (l2.bad != 0) = false := by simp [hl2]
 have d1 : (x.fl % 2 == 1) = true := beq_iff_eq.2 h0
 have d2 : (!(x.fl % 2 == 1)) = false := by rw [d1]; rfl
 rw [hwb] at c4
 generalize nameS k = nm at *
 generalize spcV.map encN = nn at *
 refine goF Tryz.func15 (closedL_cons (.agg (encFo_closed f)) (closedL_cons (.val _) (closedL_cons (.val _) (closedL_cons (.val _) closedL_nil)))) (fun w0 st0 => ?_)
 dsimp only [frOf]
 (repeat' (first | refine ARun.bin rfl rfl hb3 rfl (guardF_spec rfl) ?_ | refine ARun.bin rfl rfl hb2 rfl (guardF_spec rfl) ?_ | refine ARun.bin rfl rfl hb1 rfl (guardF_spec rfl) ?_ | refine goA ?_ | refine cX c1 ?_ | refine cX c2 ?_ | refine cX c3 ?_ | refine cX c4 ?_ | refine cX c5 ?_ | refine cX cc ?_ | refine ARun.indexAddr rfl rfl (by omega) (by with_reducible exact hp) rfl rfl rfl rfl rfl (guardF_spec rfl) ?_ | refine callK 15 23 34 (encLw ⟨f, s, (a2 : Nat), fu, 0⟩) (encLw l2) (cS) (encLw_closed _) (encLw_closed _) (RelL.cons (.ptr (j := 0) 0 0 rfl) (RelL.cons (.wk (.same _) (.val _)) (RelL.nil _))) (.same _ (.tup closedL_nil)) ?_ | refine goB ?_ | fail))
 exact awp_ret ⟨_, ResL.cons (ResA.agg rfl rfl rfl rfl rfl rfl rfl (RL.allClosed (encFo_closed l2.f))) (ResL.cons (ResA.tmp (.val _)) (ResL.cons (ResA.tmp (.val _)) (ResL.cons (ResA.tmp (.val _)) (ResL.cons (ResA.tmp (.val _)) .nil)))), rfl⟩
set_option maxHeartbeats 8000000 in
theorem w15_spec_ft1 (f : Fo) (s : Bs) (a : Nat) (fu : Int) (w : Bs) (a2 : Nat) (hfu : 0 ≤ fu) (hl : s.length ≤ 1000000) (ha : a ≤ s.length) (ht : tokD (s.drop a) [] a = (w, a2)) (hw : w ≠ []) (hwl : w.length ≤ 1000000) (hd : f.v.dict.length ≤ 1000000) (hin : NameIn f.v.dict) (x : Wd) (i : Int) (hf : findD f.v.dict w = (x, i, true)) (k : Int) (hb : f.v.m.b.length ≤ 1000000) (hk : kindD f.v x.xt = (k, 0)) (hfl : 0 ≤ x.fl ∧ x.fl ≤ 7) (cc : FnC Tryz.prog 34 [.agg (encFo f)] (.val (.bool true))) (h0 : x.fl % 2 = 1) (hk3 : 300 ≤ k ∧ k ≤ 336) (hob : (x.fl / 4 % 2 == 1) = false) (hwb : wiD k = true) (l2 : Lw) (hl2 : l2.bad ≠ 0) (cS : FnL Tryz.prog 40 [.ptr 1000 0 0 0, St (nameS k)] [(34, [encLw ⟨f, s, (a2 : Nat), fu, 0⟩])] (.tup []) [[encLw l2]]) : FnC Tryz.prog 15 [.agg (encFo f), St s, .val (.int .i64 (a : Nat)), .val (.int .i64 fu)] (.tup [.agg (encFo f), .val (.int .i64 (a : Nat)), .val (.int .i64 fu), .val (.bool true), .val (.int .i64 l2.bad)]) := by
 have c1 := word8_c s a hl ha
 rw [ht] at c1
 have e0 : decide (fu < 0) = false := decide_eq_false (by omega)
 have z1 : ((0 : Int) != 0) = false := by simp
 have nt : (!true) = false := rfl
 have nf : (!false) = true := rfl
 have e1 := Dict.eqF w [] hw
 have c2 := Dict.ref_find_c f.v.dict w hd hwl hin
 rw [hf] at c2
 unfold encFd at c2
 dsimp only at c2
 have c3 := ref_kind_c f.v x.xt hb
 rw [hk] at c3
 have c4 := wi15_c k
 have hb1 := bin_mod2 (P := Tryz.prog) (t := 3) hfl
 have hb2 := bin_quo4 (P := Tryz.prog) (t := 3) hfl
 have hb3 := bin_rem4 (P := Tryz.prog) (t := 3) hfl
 have d3 : decide (300 ≤ k) = true := decide_eq_true hk3.1
 have c5 := ref_specials_c
 have hlen : spcV.length = 37 := by have := len_spc; rw [List.length_map] at this; exact this
 have hp : (spcV.map encN)[(k - 300).toNat]? = some (encN (nameS k)) := by
  unfold nameS
  rw [List.getElem?_map, List.getElem?_eq_getElem (by omega)]
  rfl
 have d4 : (l2.bad != 0) = true := by simp [hl2]
 have d1 : (x.fl % 2 == 1) = true := beq_iff_eq.2 h0
 have d2 : (!(x.fl % 2 == 1)) = false := by rw [d1]; rfl
 rw [hwb] at c4
 generalize nameS k = nm at *
 generalize spcV.map encN = nn at *
 refine goF Tryz.func15 (closedL_cons (.agg (encFo_closed f)) (closedL_cons (.val _) (closedL_cons (.val _) (closedL_cons (.val _) closedL_nil)))) (fun w0 st0 => ?_)
 dsimp only [frOf]
 (repeat' (first | refine ARun.bin rfl rfl hb3 rfl (guardF_spec rfl) ?_ | refine ARun.bin rfl rfl hb2 rfl (guardF_spec rfl) ?_ | refine ARun.bin rfl rfl hb1 rfl (guardF_spec rfl) ?_ | refine goA ?_ | refine cX c1 ?_ | refine cX c2 ?_ | refine cX c3 ?_ | refine cX c4 ?_ | refine cX c5 ?_ | refine cX cc ?_ | refine ARun.indexAddr rfl rfl (by omega) (by with_reducible exact hp) rfl rfl rfl rfl rfl (guardF_spec rfl) ?_ | refine callK 15 23 34 (encLw ⟨f, s, (a2 : Nat), fu, 0⟩) (encLw l2) (cS) (encLw_closed _) (encLw_closed _) (RelL.cons (.ptr (j := 0) 0 0 rfl) (RelL.cons (.wk (.same _) (.val _)) (RelL.nil _))) (.same _ (.tup closedL_nil)) ?_ | refine goB ?_ | fail))
 exact awp_ret ⟨_, ResL.cons (ResA.agg rfl rfl rfl rfl rfl rfl rfl (RL.allClosed (encFo_closed f))) (ResL.cons (ResA.tmp (.val _)) (ResL.cons (ResA.tmp (.val _)) (ResL.cons (ResA.tmp (.val _)) (ResL.cons (ResA.tmp (.val _)) .nil)))), rfl⟩
set_option maxHeartbeats 8000000 in
theorem w15_spec_ff0 (f : Fo) (s : Bs) (a : Nat) (fu : Int) (w : Bs) (a2 : Nat) (hfu : 0 ≤ fu) (hl : s.length ≤ 1000000) (ha : a ≤ s.length) (ht : tokD (s.drop a) [] a = (w, a2)) (hw : w ≠ []) (hwl : w.length ≤ 1000000) (hd : f.v.dict.length ≤ 1000000) (hin : NameIn f.v.dict) (x : Wd) (i : Int) (hf : findD f.v.dict w = (x, i, true)) (k : Int) (hb : f.v.m.b.length ≤ 1000000) (hk : kindD f.v x.xt = (k, 0)) (hfl : 0 ≤ x.fl ∧ x.fl ≤ 7) (cc : FnC Tryz.prog 34 [.agg (encFo f)] (.val (.bool true))) (h0 : x.fl % 2 = 1) (hk3 : 300 ≤ k ∧ k ≤ 336) (hob : (x.fl / 4 % 2 == 1) = false) (hwb : wiD k = false) (l2 : Lw) (hl2 : l2.bad = 0) (cS : FnL Tryz.prog 40 [.ptr 1000 0 0 0, St (nameS k)] [(34, [encLw ⟨f, s, (a2 : Nat), fu, 0⟩])] (.tup []) [[encLw l2]]) : FnC Tryz.prog 15 [.agg (encFo f), St s, .val (.int .i64 (a : Nat)), .val (.int .i64 fu)] (.tup [.agg (encFo l2.f), .val (.int .i64 l2.at'), .val (.int .i64 l2.fuel), .val (.bool true), .val (.int .i64 0)]) := by
 have c1 := word8_c s a hl ha
 rw [ht] at c1
 have e0 : decide (fu < 0) = false := decide_eq_false (by omega)
 have z1 : ((0 : Int) != 0) = false := by simp
 have nt : (!true) = false := rfl
 have nf : (!false) = true := rfl
 have e1 := Dict.eqF w [] hw
 have c2 := Dict.ref_find_c f.v.dict w hd hwl hin
 rw [hf] at c2
 unfold encFd at c2
 dsimp only at c2
 have c3 := ref_kind_c f.v x.xt hb
 rw [hk] at c3
 have c4 := wi15_c k
 have hb1 := bin_mod2 (P := Tryz.prog) (t := 3) hfl
 have hb2 := bin_quo4 (P := Tryz.prog) (t := 3) hfl
 have hb3 := bin_rem4 (P := Tryz.prog) (t := 3) hfl
 have d3 : decide (300 ≤ k) = true := decide_eq_true hk3.1
 have c5 := ref_specials_c
 have hlen : spcV.length = 37 := by have := len_spc; rw [List.length_map] at this; exact this
 have hp : (spcV.map encN)[(k - 300).toNat]? = some (encN (nameS k)) := by
  unfold nameS
  rw [List.getElem?_map, List.getElem?_eq_getElem (by omega)]
  rfl
 have d4 : (l2.bad != 0) = false := by simp [hl2]
 have d1 : (x.fl % 2 == 1) = true := beq_iff_eq.2 h0
 have d2 : (!(x.fl % 2 == 1)) = false := by rw [d1]; rfl
 rw [hwb] at c4
 generalize nameS k = nm at *
 generalize spcV.map encN = nn at *
 refine goF Tryz.func15 (closedL_cons (.agg (encFo_closed f)) (closedL_cons (.val _) (closedL_cons (.val _) (closedL_cons (.val _) closedL_nil)))) (fun w0 st0 => ?_)
 dsimp only [frOf]
 (repeat' (first | refine ARun.bin rfl rfl hb3 rfl (guardF_spec rfl) ?_ | refine ARun.bin rfl rfl hb2 rfl (guardF_spec rfl) ?_ | refine ARun.bin rfl rfl hb1 rfl (guardF_spec rfl) ?_ | refine goA ?_ | refine cX c1 ?_ | refine cX c2 ?_ | refine cX c3 ?_ | refine cX c4 ?_ | refine cX c5 ?_ | refine cX cc ?_ | refine ARun.indexAddr rfl rfl (by omega) (by with_reducible exact hp) rfl rfl rfl rfl rfl (guardF_spec rfl) ?_ | refine callK 15 23 34 (encLw ⟨f, s, (a2 : Nat), fu, 0⟩) (encLw l2) (cS) (encLw_closed _) (encLw_closed _) (RelL.cons (.ptr (j := 0) 0 0 rfl) (RelL.cons (.wk (.same _) (.val _)) (RelL.nil _))) (.same _ (.tup closedL_nil)) ?_ | refine goB ?_ | fail))
 exact awp_ret ⟨_, ResL.cons (ResA.agg rfl rfl rfl rfl rfl rfl rfl (RL.allClosed (encFo_closed l2.f))) (ResL.cons (ResA.tmp (.val _)) (ResL.cons (ResA.tmp (.val _)) (ResL.cons (ResA.tmp (.val _)) (ResL.cons (ResA.tmp (.val _)) .nil)))), rfl⟩
set_option maxHeartbeats 8000000 in
theorem w15_spec_ff1 (f : Fo) (s : Bs) (a : Nat) (fu : Int) (w : Bs) (a2 : Nat) (hfu : 0 ≤ fu) (hl : s.length ≤ 1000000) (ha : a ≤ s.length) (ht : tokD (s.drop a) [] a = (w, a2)) (hw : w ≠ []) (hwl : w.length ≤ 1000000) (hd : f.v.dict.length ≤ 1000000) (hin : NameIn f.v.dict) (x : Wd) (i : Int) (hf : findD f.v.dict w = (x, i, true)) (k : Int) (hb : f.v.m.b.length ≤ 1000000) (hk : kindD f.v x.xt = (k, 0)) (hfl : 0 ≤ x.fl ∧ x.fl ≤ 7) (cc : FnC Tryz.prog 34 [.agg (encFo f)] (.val (.bool true))) (h0 : x.fl % 2 = 1) (hk3 : 300 ≤ k ∧ k ≤ 336) (hob : (x.fl / 4 % 2 == 1) = false) (hwb : wiD k = false) (l2 : Lw) (hl2 : l2.bad ≠ 0) (cS : FnL Tryz.prog 40 [.ptr 1000 0 0 0, St (nameS k)] [(34, [encLw ⟨f, s, (a2 : Nat), fu, 0⟩])] (.tup []) [[encLw l2]]) : FnC Tryz.prog 15 [.agg (encFo f), St s, .val (.int .i64 (a : Nat)), .val (.int .i64 fu)] (.tup [.agg (encFo f), .val (.int .i64 (a : Nat)), .val (.int .i64 fu), .val (.bool true), .val (.int .i64 l2.bad)]) := by
 have c1 := word8_c s a hl ha
 rw [ht] at c1
 have e0 : decide (fu < 0) = false := decide_eq_false (by omega)
 have z1 : ((0 : Int) != 0) = false := by simp
 have nt : (!true) = false := rfl
 have nf : (!false) = true := rfl
 have e1 := Dict.eqF w [] hw
 have c2 := Dict.ref_find_c f.v.dict w hd hwl hin
 rw [hf] at c2
 unfold encFd at c2
 dsimp only at c2
 have c3 := ref_kind_c f.v x.xt hb
 rw [hk] at c3
 have c4 := wi15_c k
 have hb1 := bin_mod2 (P := Tryz.prog) (t := 3) hfl
 have hb2 := bin_quo4 (P := Tryz.prog) (t := 3) hfl
 have hb3 := bin_rem4 (P := Tryz.prog) (t := 3) hfl
 have d3 : decide (300 ≤ k) = true := decide_eq_true hk3.1
 have c5 := ref_specials_c
 have hlen : spcV.length = 37 := by have := len_spc; rw [List.length_map] at this; exact this
 have hp : (spcV.map encN)[(k - 300).toNat]? = some (encN (nameS k)) := by
  unfold nameS
  rw [List.getElem?_map, List.getElem?_eq_getElem (by omega)]
  rfl
 have d4 : (l2.bad != 0) = true := by simp [hl2]
 have d1 : (x.fl % 2 == 1) = true := beq_iff_eq.2 h0
 have d2 : (!(x.fl % 2 == 1)) = false := by rw [d1]; rfl
 rw [hwb] at c4
 generalize nameS k = nm at *
 generalize spcV.map encN = nn at *
 refine goF Tryz.func15 (closedL_cons (.agg (encFo_closed f)) (closedL_cons (.val _) (closedL_cons (.val _) (closedL_cons (.val _) closedL_nil)))) (fun w0 st0 => ?_)
 dsimp only [frOf]
 (repeat' (first | refine ARun.bin rfl rfl hb3 rfl (guardF_spec rfl) ?_ | refine ARun.bin rfl rfl hb2 rfl (guardF_spec rfl) ?_ | refine ARun.bin rfl rfl hb1 rfl (guardF_spec rfl) ?_ | refine goA ?_ | refine cX c1 ?_ | refine cX c2 ?_ | refine cX c3 ?_ | refine cX c4 ?_ | refine cX c5 ?_ | refine cX cc ?_ | refine ARun.indexAddr rfl rfl (by omega) (by with_reducible exact hp) rfl rfl rfl rfl rfl (guardF_spec rfl) ?_ | refine callK 15 23 34 (encLw ⟨f, s, (a2 : Nat), fu, 0⟩) (encLw l2) (cS) (encLw_closed _) (encLw_closed _) (RelL.cons (.ptr (j := 0) 0 0 rfl) (RelL.cons (.wk (.same _) (.val _)) (RelL.nil _))) (.same _ (.tup closedL_nil)) ?_ | refine goB ?_ | fail))
 exact awp_ret ⟨_, ResL.cons (ResA.agg rfl rfl rfl rfl rfl rfl rfl (RL.allClosed (encFo_closed f))) (ResL.cons (ResA.tmp (.val _)) (ResL.cons (ResA.tmp (.val _)) (ResL.cons (ResA.tmp (.val _)) (ResL.cons (ResA.tmp (.val _)) .nil)))), rfl⟩
set_option maxHeartbeats 8000000 in
theorem w15_spec_co0 (f : Fo) (s : Bs) (a : Nat) (fu : Int) (w : Bs) (a2 : Nat) (hfu : 0 ≤ fu) (hl : s.length ≤ 1000000) (ha : a ≤ s.length) (ht : tokD (s.drop a) [] a = (w, a2)) (hw : w ≠ []) (hwl : w.length ≤ 1000000) (hd : f.v.dict.length ≤ 1000000) (hin : NameIn f.v.dict) (x : Wd) (i : Int) (hf : findD f.v.dict w = (x, i, true)) (k : Int) (hb : f.v.m.b.length ≤ 1000000) (hk : kindD f.v x.xt = (k, 0)) (hfl : 0 ≤ x.fl ∧ x.fl ≤ 7) (cc : FnC Tryz.prog 34 [.agg (encFo f)] (.val (.bool false)))  (hk3 : 300 ≤ k ∧ k ≤ 336) (hob : (x.fl / 4 % 2 == 1) = false) (hwb : wiD k = false) (l2 : Lw) (hl2 : l2.bad = 0) (cS : FnL Tryz.prog 40 [.ptr 1000 0 0 0, St (nameS k)] [(34, [encLw ⟨f, s, (a2 : Nat), fu, 0⟩])] (.tup []) [[encLw l2]]) : FnC Tryz.prog 15 [.agg (encFo f), St s, .val (.int .i64 (a : Nat)), .val (.int .i64 fu)] (.tup [.agg (encFo l2.f), .val (.int .i64 l2.at'), .val (.int .i64 l2.fuel), .val (.bool true), .val (.int .i64 0)]) := by
 have c1 := word8_c s a hl ha
 rw [ht] at c1
 have e0 : decide (fu < 0) = false := decide_eq_false (by omega)
 have z1 : ((0 : Int) != 0) = false := by simp
 have nt : (!true) = false := rfl
 have nf : (!false) = true := rfl
 have e1 := Dict.eqF w [] hw
 have c2 := Dict.ref_find_c f.v.dict w hd hwl hin
 rw [hf] at c2
 unfold encFd at c2
 dsimp only at c2
 have c3 := ref_kind_c f.v x.xt hb
 rw [hk] at c3
 have c4 := wi15_c k
 have hb1 := bin_mod2 (P := Tryz.prog) (t := 3) hfl
 have hb2 := bin_quo4 (P := Tryz.prog) (t := 3) hfl
 have hb3 := bin_rem4 (P := Tryz.prog) (t := 3) hfl
 have d3 : decide (300 ≤ k) = true := decide_eq_true hk3.1
 have c5 := ref_specials_c
 have hlen : spcV.length = 37 := by have := len_spc; rw [List.length_map] at this; exact this
 have hp : (spcV.map encN)[(k - 300).toNat]? = some (encN (nameS k)) := by
  unfold nameS
  rw [List.getElem?_map, List.getElem?_eq_getElem (by omega)]
  rfl
 have d4 : (l2.bad != 0) = false := by simp [hl2]
 rw [hwb] at c4
 generalize nameS k = nm at *
 generalize spcV.map encN = nn at *
 refine goF Tryz.func15 (closedL_cons (.agg (encFo_closed f)) (closedL_cons (.val _) (closedL_cons (.val _) (closedL_cons (.val _) closedL_nil)))) (fun w0 st0 => ?_)
 dsimp only [frOf]
 (repeat' (first | refine ARun.bin rfl rfl hb3 rfl (guardF_spec rfl) ?_ | refine ARun.bin rfl rfl hb2 rfl (guardF_spec rfl) ?_ | refine ARun.bin rfl rfl hb1 rfl (guardF_spec rfl) ?_ | refine goA ?_ | refine cX c1 ?_ | refine cX c2 ?_ | refine cX c3 ?_ | refine cX c4 ?_ | refine cX c5 ?_ | refine cX cc ?_ | refine ARun.indexAddr rfl rfl (by omega) (by with_reducible exact hp) rfl rfl rfl rfl rfl (guardF_spec rfl) ?_ | refine callK 15 23 34 (encLw ⟨f, s, (a2 : Nat), fu, 0⟩) (encLw l2) (cS) (encLw_closed _) (encLw_closed _) (RelL.cons (.ptr (j := 0) 0 0 rfl) (RelL.cons (.wk (.same _) (.val _)) (RelL.nil _))) (.same _ (.tup closedL_nil)) ?_ | refine goB ?_ | fail))
 exact awp_ret ⟨_, ResL.cons (ResA.agg rfl rfl rfl rfl rfl rfl rfl (RL.allClosed (encFo_closed l2.f))) (ResL.cons (ResA.tmp (.val _)) (ResL.cons (ResA.tmp (.val _)) (ResL.cons (ResA.tmp (.val _)) (ResL.cons (ResA.tmp (.val _)) .nil)))), rfl⟩
end Go.Proofs.YtfphgelollhdhaaGreat
