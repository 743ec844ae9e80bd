/- kX21, kX22, kC1, kC2, kC3. -/
import Derived.Test.YthlbcakjngcjbaaGreatW1
import Derived.Test.YthlbcakjngcjbaaGreatW2
import Derived.Test.YthlbcakjngcjbaaGreatW3
import Derived.Test.YthlbcakjngcjbaaGreatW4
import Derived.Test.YthlbcakjngcjbaaGreatkW5
import Derived.Test.YthlbcakjngcjbaaGreatkW6
import Derived.Test.YthlbcakjngcjbaaGreatkW7
import Derived.Test.YthlbcakjngcjbaaGreatkW8
import Derived.Test.YthlbcakjngcjbaaGreatkW9
import Derived.Test.YthlbcakjngcjbaaGreatkW10
import Derived.Test.YthlbcakjngcjbaaGreatkW11
import Derived.Test.YthlbcakjngcjbaaGreatkW12
import Derived.Test.YthlbcakjngcjbaaGreatkW13
import Derived.Test.YthlbcakjngcjbaaGreatkW14
import Derived.Test.YthlbcakjngcjbaaGreatkW15
import Derived.Test.YthlbcakjngcjbaaGreatkW16
import Derived.Test.YthlbcakjngcjbaaGreatkW17
set_option linter.unusedVariables false
set_option linter.unusedSimpArgs false
namespace Go.Proofs.YthlbcakjngcjbaaGreat
open Go Go.RowKit
open Go.Proofs.YthlbcakjngcjbaaGreat.Dict (St Bs bs_eq encWs closed_ws)
open Go.Proofs.YthlbcakjngcjbaaGreat.Mem (Mm encM encBs closed_bs encP encP_closed closed_m storeD fetchD commaD writeD alignD padN putB_len enc2m)
open Go.Proofs.YthlbcakjngcjbaaGreat.Stk (encS closed_s encI_closed)
set_option maxRecDepth 100000
attribute [local irreducible] Decidable.decide awp ARun regK toK
end Go.Proofs.YthlbcakjngcjbaaGreat
namespace Go.Proofs.YthlbcakjngcjbaaGreat
open Go Go.RowKit
open Go.Proofs.YthlbcakjngcjbaaGreat.Dict (St Bs)
open Go.Proofs.YthlbcakjngcjbaaGreat.Mem (Mm commaD storeD writeD thereD alignD partD there_yes RightM cellAtD)
set_option maxRecDepth 100000
theorem write_right {m : Mm} (a : Int) (b : List UInt8) (h : RightM m) : RightM (writeD m a b).1 := by
 have hl := (write_ok m a b).1
 unfold writeD at hl ⊢
 split
 ·exact h
 ·rename_i h1
  split
  ·exact h
  ·rename_i h2
   rw [if_neg h1, if_neg h2] at hl
   simp only [Bool.not_eq_false] at h1
   have h3 := there_yes h1 (by
    have := List.length_pos_iff.2 h2
    omega)
   refine ⟨fun p hp => ?_, by rw [hl]; exact h.2.1, by rw [hl]; exact h.2.2⟩
   rw [hl]
   rcases List.mem_append.1 hp with hp | hp
   ·exact h.1 p hp
   ·rw [List.mem_singleton.1 hp]
    have e : (partD m.b a (b.length : Nat)).length = b.length := by
     unfold partD
     rw [List.length_take, List.length_drop]
     omega
    rw [e]
    exact h1
theorem mlay_right {m : Mm} (here : Int) (b : List UInt8) (h : RightM m) : RightM (Mem.layD m here b).1 := by
 unfold Mem.layD
 split
 ·exact h
 ·exact write_right _ _ h
theorem comma_right {m : Mm} (here n : Int) (h : RightM m) : RightM (commaD m here n).1 := by
 unfold commaD
 split
 ·exact h
 ·exact mlay_right _ _ h
theorem store_right {m : Mm} (a n : Int) (h : RightM m) : RightM (storeD m a n).1 := by
 unfold storeD
 split
 ·exact h
 ·exact write_right _ _ h
theorem store_ok (m : Mm) (a n : Int) : (storeD m a n).1.b.length = m.b.length ∧ (storeD m a n).1.old.length ≤ m.old.length + 1 := by
 unfold storeD
 split
 ·exact ⟨rfl, Nat.le_succ _⟩
 ·exact write_ok m a _
structure Rng (v : V) : Prop where
 h0 : 0 ≤ v.here
 h1 : v.here ≤ v.m.b.length
structure Lays (v x : V) (k : Nat) : Prop where
 eq : x = withMH v x.m x.here
 bl : x.m.b.length = v.m.b.length
 ol : x.m.old.length ≤ v.m.old.length + k
 ri : RightM v.m → RightM x.m
 h0 : v.here ≤ x.here
 h1 : x.here ≤ v.m.b.length
theorem Lays.refl {v : V} (h : Rng v) : Lays v v 0 := ⟨(withMH_id v).symm, rfl, Nat.le_refl _, fun h => h, Int.le_refl _, h.h1⟩
theorem Lays.rng {v x : V} {k : Nat} (h : Lays v x k) (hr : Rng v) : Rng x := ⟨by have := h.h0; have := hr.h0; omega, by rw [h.bl]; exact h.h1⟩
theorem Lays.le {v x : V} {k n : Nat} (h : Lays v x k) (hk : k ≤ n) : Lays v x n := ⟨h.eq, h.bl, by have := h.ol; omega, h.ri, h.h0, h.h1⟩
theorem Lays.trans {v x y : V} {j k : Nat} (h : Lays v x j) (g : Lays x y k) : Lays v y (j + k) :=
  ⟨calc y = withMH x y.m y.here := g.eq
     _ = withMH (withMH v x.m x.here) y.m y.here := by rw [← h.eq]
     _ = withMH v y.m y.here := rfl, g.bl.trans h.bl, by have := h.ol; have := g.ol; omega, fun k => g.ri (h.ri k), Int.le_trans h.h0 g.h0, by rw [← h.bl]; exact g.h1⟩
theorem lays_vlay {v : V} (n : Int) (h : Rng v) : Lays v (vlayD v n).1 1 := by
 have c := comma_ok v.m v.here n h.h0 h.h1
 exact ⟨rfl, c.1, c.2.1, comma_right _ _, c.2.2.1, c.2.2.2⟩
theorem lays_cell {w : Kw} (n : Int) (h : Rng w.v) : Lays w.v (cellD w n).v 1 := by
 unfold cellD
 split
 ·exact lays_vlay n h
 ·exact (Lays.refl h).le (by omega)
theorem lays_cells : ∀ (l : List Int) {w : Kw}, Rng w.v → Lays w.v (l.foldl cellD w).v l.length
 | [], w, h => Lays.refl h
 | a :: l, w, h => by
  have h1 := lays_cell (w := w) a h
  have h2 := lays_cells l (w := cellD w a) (h1.rng h)
  rw [List.foldl_cons]
  exact (h1.trans h2).le (by rw [List.length_cons]; omega)
theorem Lays.held {v x : V} {k : Nat} (h : Lays v x k) (hv : Held v) (ho : v.m.old.length + k ≤ 1000000) : Held x := by
 rw [h.eq]
 exact ⟨by show x.m.b.length ≤ _; rw [h.bl]; exact hv.mb, by show x.m.old.length ≤ _; have := h.ol; omega, hv.dl, hv.rl, hv.fl, hv.wl, hv.wi, hv.ol, hv.pl, hv.ql, hv.hl⟩
theorem Lays.right {v x : V} {k : Nat} (h : Lays v x k) (hv : RightV v) : RightV x := by
 rw [h.eq]
 obtain ⟨⟨a1, a2, a3, a4, a5⟩, b, c, d⟩ := hv
 refine ⟨⟨a1, h.ri a2, by show ((x.m.b.length : Nat) : Int) = _; rw [h.bl]; exact a3, by show 1368 ≤ x.here; have := h.h0; omega, by show x.here ≤ v.cf.mem; have := h.h1; omega⟩, b, c, d⟩
theorem RightV.rng {v : V} (hv : RightV v) : Rng v := by
 obtain ⟨⟨a1, a2, a3, a4, a5⟩, b, c, d⟩ := hv
 exact ⟨by omega, by omega⟩
theorem Lays.back {v x : V} {k : Nat} (h : Lays v x k) : withMH x v.m v.here = v := by
 rw [h.eq]
 exact withMH_id v
theorem RightC.lv {l : List Cfr} (h : RightC l) : ∀ c, c ∈ l → c.lv.length ≤ 60 := fun c hc => by have := (h.1 c hc).2.1; omega
theorem FewC.lv {l : List Cfr} (h : FewC l) : ∀ c, c ∈ l → c.lv.length ≤ 1000000 := fun c hc => by have := h.1 c hc; omega
end Go.Proofs.YthlbcakjngcjbaaGreat
namespace Go.Proofs.YthlbcakjngcjbaaGreat
open Go Go.RowKit
open Go.Proofs.YthlbcakjngcjbaaGreat.Dict (St Bs bs_eq Wd encW encWs closed_ws addD flagD cutD encWE)
open Go.Proofs.YthlbcakjngcjbaaGreat.Mem (Mm encM encBs closed_bs encP encP_closed closed_m storeD fetchD commaD alignD enc3m enc2m writeD)
open Go.Proofs.YthlbcakjngcjbaaGreat.Stk (encS closed_s encI_closed)
set_option maxRecDepth 100000
structure Cp where
 xt : Int
 cf : List Cfr
 here : Int
 dict : Int
 last : Int
 on : Bool
 fuel : Int
structure Fo where
 v : V
 c : Cp
structure Cw where
 f : Fo
 bad : Int
def cp0 : Cp := ⟨0, [], 0, 0, 0, false, 0⟩
def encFo (w : Fo) : List AV := [.val (.int .i64 w.v.cf.mem), .val (.int .i64 w.v.cf.data), .val (.int .i64 w.v.cf.ret), .val (.int .i64 w.v.cf.words), .val (.int .i64 w.v.cf.out), encBs w.v.m.b, .sl 2 false (w.v.m.old.map encP), .val (.int .i64 w.v.here), encS w.v.d, encS w.v.r, encLFr w.v.f, encWs w.v.dict, .val (.int .i64 w.v.last), encBs w.v.out, encBs w.v.pb, .val (.bool w.v.po), encLRq w.v.req, .val (.int .i64 w.v.free), .val (.int .i64 w.v.next), .val (.int .i64 w.v.arg), .val (.int .i64 w.v.self), .val (.int .i64 w.v.now), encLHn w.v.hand, .val (.int .i64 w.c.xt), encLCf w.c.cf, .val (.int .i64 w.c.here), .val (.int .i64 w.c.dict), .val (.int .i64 w.c.last), .val (.bool w.c.on), .val (.int .i64 w.c.fuel)]
theorem encFo_closed (w : Fo) : ∀ x, x ∈ encFo w → Closed x := closedL_cons (.val _) (closedL_cons (.val _) (closedL_cons (.val _) (closedL_cons (.val _) (closedL_cons (.val _) (closedL_cons (closed_bs _) (closedL_cons (closed_map encP_closed) (closedL_cons (.val _) (closedL_cons (closed_s _) (closedL_cons (closed_s _) (closedL_cons (closedFr _) (closedL_cons (closed_ws _) (closedL_cons (.val _) (closedL_cons (closed_bs _) (closedL_cons (closed_bs _) (closedL_cons (.val _) (closedL_cons (closedRq _) (closedL_cons (.val _) (closedL_cons (.val _) (closedL_cons (.val _) (closedL_cons (.val _) (closedL_cons (.val _) (closedL_cons (closedHn _) (closedL_cons (.val _) (closedL_cons (closedLCf _) (closedL_cons (.val _) (closedL_cons (.val _) (closedL_cons (.val _) (closedL_cons (.val _) (closedL_cons (.val _) closedL_nil)))))))))))))))))))))))))))))
def encCw (w : Cw) : List AV := [.val (.int .i64 w.f.v.cf.mem), .val (.int .i64 w.f.v.cf.data), .val (.int .i64 w.f.v.cf.ret), .val (.int .i64 w.f.v.cf.words), .val (.int .i64 w.f.v.cf.out), encBs w.f.v.m.b, .sl 2 false (w.f.v.m.old.map encP), .val (.int .i64 w.f.v.here), encS w.f.v.d, encS w.f.v.r, encLFr w.f.v.f, encWs w.f.v.dict, .val (.int .i64 w.f.v.last), encBs w.f.v.out, encBs w.f.v.pb, .val (.bool w.f.v.po), encLRq w.f.v.req, .val (.int .i64 w.f.v.free), .val (.int .i64 w.f.v.next), .val (.int .i64 w.f.v.arg), .val (.int .i64 w.f.v.self), .val (.int .i64 w.f.v.now), encLHn w.f.v.hand, .val (.int .i64 w.f.c.xt), encLCf w.f.c.cf, .val (.int .i64 w.f.c.here), .val (.int .i64 w.f.c.dict), .val (.int .i64 w.f.c.last), .val (.bool w.f.c.on), .val (.int .i64 w.f.c.fuel), .val (.int .i64 w.bad)]
theorem encCw_closed (w : Cw) : ∀ x, x ∈ encCw w → Closed x := closedL_cons (.val _) (closedL_cons (.val _) (closedL_cons (.val _) (closedL_cons (.val _) (closedL_cons (.val _) (closedL_cons (closed_bs _) (closedL_cons (closed_map encP_closed) (closedL_cons (.val _) (closedL_cons (closed_s _) (closedL_cons (closed_s _) (closedL_cons (closedFr _) (closedL_cons (closed_ws _) (closedL_cons (.val _) (closedL_cons (closed_bs _) (closedL_cons (closed_bs _) (closedL_cons (.val _) (closedL_cons (closedRq _) (closedL_cons (.val _) (closedL_cons (.val _) (closedL_cons (.val _) (closedL_cons (.val _) (closedL_cons (.val _) (closedL_cons (closedHn _) (closedL_cons (.val _) (closedL_cons (closedLCf _) (closedL_cons (.val _) (closedL_cons (.val _) (closedL_cons (.val _) (closedL_cons (.val _) (closedL_cons (.val _) (closedL_cons (.val _) closedL_nil))))))))))))))))))))))))))))))
def encFE (r : Fo × Int) : AV := .tup [.agg (encFo r.1), .val (.int .i64 r.2)]
def okB (b e : Int) : Int := if b = 0 then e else b
def okC (w : Cw) (e : Int) : Cw := ⟨w.f, okB w.bad e⟩
theorem okB_0 {b : Int} (e : Int) (h : b = 0) : okB b e = e := if_pos h
theorem okB_1 {b : Int} (e : Int) (h : b ≠ 0) : okB b e = b := if_neg h
def cellsC' (w : Cw) (l : List Int) : Cw := ⟨⟨(l.foldl cellD ⟨w.f.v, [], w.bad⟩).v, w.f.c⟩, (l.foldl cellD ⟨w.f.v, [], w.bad⟩).bad⟩
def stateC (w : Cw) (n : Int) : Cw := okC ⟨⟨withMH w.f.v (storeD w.f.v.m 8 n).1 w.f.v.here, w.f.c⟩, w.bad⟩ (storeD w.f.v.m 8 n).2
def withMHD (v : V) (m : Mm) (h : Int) (d : List Wd) : V := ⟨v.cf, m, h, v.d, v.r, v.f, d, v.last, v.out, v.pb, v.po, v.req, v.free, v.next, v.arg, v.self, v.now, v.hand⟩
def layW (w : Cw) (name : Bs) (fl : Int) : Cw :=
 if okB (okB w.bad (alignD w.f.v.m w.f.v.here).2.2) (addD w.f.v.dict name (alignD w.f.v.m w.f.v.here).2.1 fl w.f.v.cf.words).2 = 0 then
  ⟨⟨withMHD w.f.v (alignD w.f.v.m w.f.v.here).1 (alignD w.f.v.m w.f.v.here).2.1 (addD w.f.v.dict name (alignD w.f.v.m w.f.v.here).2.1 fl w.f.v.cf.words).1, w.f.c⟩, okB (okB w.bad (alignD w.f.v.m w.f.v.here).2.2) (addD w.f.v.dict name (alignD w.f.v.m w.f.v.here).2.1 fl w.f.v.cf.words).2⟩
 else ⟨w.f, okB (okB w.bad (alignD w.f.v.m w.f.v.here).2.2) (addD w.f.v.dict name (alignD w.f.v.m w.f.v.here).2.1 fl w.f.v.cf.words).2⟩
def wordC (w : Cw) (name : Bs) (fl : Int) (l : List Int) : Cw := cellsC' (layW w name fl) l
def doneC (w : Cw) (f : Fo) : Fo × Int := if w.bad ≠ 0 then (f, w.bad) else (w.f, 0)
theorem cellsC_snoc (w : Cw) {l : List Int} {k : Nat} {a : Int} (h : l[k]? = some a) : cellsC' w (l.take (k + 1)) = cellsC' (cellsC' w (l.take k)) [a] := by
 have e := foldl_take_succ cellD ⟨w.f.v, [], w.bad⟩ h
 have hl : ((l.take k).foldl cellD ⟨w.f.v, [], w.bad⟩).l = [] := by
  generalize l.take k = m
  have hh : ∀ (m : List Int) (w : Kw), (m.foldl cellD w).l = w.l := fun m => by
   induction m with
   | nil => exact fun w => rfl
   | cons a m ih => exact fun w => (ih (cellD w a)).trans (cellD_l w a)
  exact hh m _
 unfold cellsC'
 rw [e]
 generalize (l.take k).foldl cellD ⟨w.f.v, [], w.bad⟩ = x at *
 obtain ⟨xv, xl, xb⟩ := x
 dsimp only at hl
 subst hl
 rfl
attribute [local irreducible] Decidable.decide awp ARun regK toK
theorem okW_l (w : Cw) (e : Int) : FnL Tryz.prog 57 [.ptr 1000 0 0 30, .val (.int .i64 e)] [(31, [encCw w])] (.val (.bool (okB w.bad e == 0))) [[encCw (okC w e)]] := by
 unfold okC
 by_cases h : w.bad = 0
 ·have d : (w.bad == 0) = true := beq_iff_eq.2 h
  rw [okB_0 e h]
  refine FnL.of_awp (T := tt) (ok := tok) Tryz.func57 (by kernel_rfl) rfl (by kernel_rfl) (by kernel_rfl) (fun w0 st0 lent c0 => ?_)
  dsimp only [frOf, hpFrom, List.length_cons, List.length_nil]
  (repeat' (first | refine goA ?_ | refine ARun.nilCheckP rfl rfl (guardF_spec rfl) ?_ | refine goB ?_ | fail))
  exact awp_ret ⟨_, ResL.cons (ResA.tmp (.val _)) .nil, rfl, ⟨_, rfl, RlR.closed (one_cl (encCw_closed ⟨w.f, e⟩))⟩, trivial⟩
 ·have d : (w.bad == 0) = false := beq_eq_false_iff_ne.2 h
  rw [okB_1 e h, d]
  refine FnL.of_awp (T := tt) (ok := tok) Tryz.func57 (by kernel_rfl) rfl (by kernel_rfl) (by kernel_rfl) (fun w0 st0 lent c0 => ?_)
  dsimp only [frOf, hpFrom, List.length_cons, List.length_nil]
  (repeat' (first | refine goA ?_ | refine ARun.nilCheckP rfl rfl (guardF_spec rfl) ?_ | refine goB ?_ | fail))
  exact awp_ret ⟨_, ResL.cons (ResA.tmp (.val _)) .nil, congrArg (fun b => AV.val (.bool b)) d.symm, ⟨_, rfl, RlR.closed (one_cl (encCw_closed _))⟩, trivial⟩
set_option maxHeartbeats 4000000 in
theorem stateW_l (w : Cw) (n : Int) (hb : w.f.v.m.b.length ≤ 1000000) (ho : w.f.v.m.old.length ≤ 1000000) : FnL Tryz.prog 60 [.ptr 1000 0 0 0, .val (.int .i64 n)] [(31, [encCw w])] (.tup []) [[encCw (stateC w n)]] := by
 have c1 := Mem.store_c w.f.v.m 8 n hb ho
 simp only [enc2m] at c1
 unfold stateC
 generalize storeD w.f.v.m 8 n = p at *
 have c2 := okW_l ⟨⟨withMH w.f.v p.1 w.f.v.here, w.f.c⟩, w.bad⟩ p.2
 refine FnL.of_awp (T := tt) (ok := tok) Tryz.func60 (by kernel_rfl) rfl (by kernel_rfl) (by kernel_rfl) (fun w0 st0 lent c0 => ?_)
 dsimp only [frOf, hpFrom, List.length_cons, List.length_nil]
 (repeat' (first | refine goA ?_ | refine ARun.nilCheckP rfl rfl (guardF_spec rfl) ?_ | refine cX c1 ?_ | refine callK 1000 0 31 (encCw ⟨⟨withMH w.f.v p.1 w.f.v.here, w.f.c⟩, w.bad⟩) (encCw (okC ⟨⟨withMH w.f.v p.1 w.f.v.here, w.f.c⟩, w.bad⟩ p.2)) (c2) (encCw_closed _) (encCw_closed _) (RelL.cons (.ptr (j := 0) 0 30 rfl) (RelL.cons (.wk (.same _) (.val _)) (RelL.nil _))) (by first | exact .same _ (.tup closedL_nil) | exact .same _ (.val _) | exact .same _ (.agg (encCf_closed _)) | exact .same _ (.tup (closedL_cons (.agg (encFo_closed _)) (closedL_cons (.val _) closedL_nil))) | exact .same _ (.tup (closedL_cons (closedV _) (closedL_cons (closedLCf _) (closedL_cons (.val _) closedL_nil))))) ?_ | refine goB ?_ | ((fail_if_success refine ARun.plain rfl ?_); refine ARun.fork rfl rfl rfl (fun h => ?_) (fun h => ?_)) | refine awp_cond rfl (fun h => ?_) (fun h => ?_)))
 (first | exact ⟨_, ResL.nil, rfl, ⟨_, rfl, RlR.closed (one_cl (encCw_closed _))⟩, trivial⟩ | exact awp_ret ⟨_, ResL.nil, rfl, ⟨_, rfl, RlR.closed (one_cl (encCw_closed _))⟩, trivial⟩ | (refine awp_skip ?_; exact ⟨_, ResL.nil, rfl, ⟨_, rfl, RlR.closed (one_cl (encCw_closed _))⟩, trivial⟩))
theorem smT {p : Prop} (h : p := by first | exact .same _ (.tup closedL_nil) | exact .same _ (.val _) | exact .same _ (.agg (encCf_closed _)) | exact .same _ (.tup (closedL_cons (.agg (encFo_closed _)) (closedL_cons (.val _) closedL_nil))) | exact .same _ (.tup (closedL_cons (closedV _) (closedL_cons (closedLCf _) (closedL_cons (.val _) closedL_nil))))) : p := h
end Go.Proofs.YthlbcakjngcjbaaGreat
namespace Go.Proofs.YthlbcakjngcjbaaGreat
open Go Go.RowKit
open Go.Proofs.YthlbcakjngcjbaaGreat.Dict (St Bs bs_eq Wd encW encWs closed_ws addD flagD cutD encWE)
open Go.Proofs.YthlbcakjngcjbaaGreat.Mem (Mm encM encBs closed_bs encP encP_closed closed_m storeD fetchD commaD alignD enc3m enc2m writeD)
open Go.Proofs.YthlbcakjngcjbaaGreat.Stk (encS closed_s encI_closed)
set_option maxRecDepth 100000
theorem cellsC_bad {w : Cw} (h : w.bad ≠ 0) (l : List Int) : cellsC' w l = w := by
 unfold cellsC'
 rw [cells_bad (w := ⟨w.f.v, [], w.bad⟩) h]
theorem kw_l (l : List Int) (w : Kw) (h : w.l = []) : (l.foldl cellD w).l = [] := by
 induction l generalizing w with
 | nil => exact h
 | cons a l ih => exact ih (cellD w a) (by rw [cellD_l]; exact h)
theorem cellsC_split (w : Cw) (l : List Int) (k : Nat) : cellsC' w l = cellsC' (cellsC' w (l.take k)) (l.drop k) := by
 have e := foldl_split cellD ⟨w.f.v, [], w.bad⟩ l k
 have hl := kw_l (l.take k) ⟨w.f.v, [], w.bad⟩ rfl
 unfold cellsC'
 rw [e]
 generalize (l.take k).foldl cellD ⟨w.f.v, [], w.bad⟩ = x at *
 obtain ⟨xv, xl, xb⟩ := x
 dsimp only at hl
 subst hl
 rfl
theorem cellsC_one {w : Cw} (h : w.bad = 0) (n : Int) : cellsC' w [n] = ⟨⟨(vlayD w.f.v n).1, w.f.c⟩, (vlayD w.f.v n).2⟩ := by
 unfold cellsC'
 show (⟨⟨(cellD ⟨w.f.v, [], w.bad⟩ n).v, w.f.c⟩, (cellD ⟨w.f.v, [], w.bad⟩ n).bad⟩ : Cw) = _
 unfold cellD
 rw [if_pos h]
theorem okk_cells {w : Cw} {k : Nat} (l : List Int) (h : Okk w.f.v (k + l.length)) : Okk (cellsC' w l).f.v k := cells_okk (w := ⟨w.f.v, [], w.bad⟩) l h
theorem okk_lay {w : Cw} {k : Nat} (name : Bs) (fl : Int) (h : Okk w.f.v (k + 1)) : Okk (layW w name fl).f.v k := by
 have hm := mlay_ok w.f.v.m w.f.v.here (List.replicate (Mem.padN w.f.v.here) 0) h.h0 h.h1
 unfold layW
 split
 ·have hb := h.b
  have ho := h.o
  have h0 := h.h0
  exact ⟨by show (alignD _ _).1.b.length ≤ _; unfold alignD; omega, by show (alignD _ _).1.old.length + k ≤ _; unfold alignD; omega, by show 0 ≤ (alignD _ _).2.1; unfold alignD; omega, by show (alignD _ _).2.1 ≤ ((alignD _ _).1.b.length : Nat); unfold alignD; omega⟩
 ·exact h.le (by omega)
attribute [local irreducible] Decidable.decide awp ARun regK toK
set_option maxHeartbeats 4000000 in
theorem cellsW_l (w : Cw) (l : List Int) (hl : l.length ≤ 10000) (h : Okk w.f.v l.length) : FnL Tryz.prog 63 [.ptr 1000 0 0 0, encS l] [(31, [encCw w])] (.tup []) [[encCw (cellsC' w l)]] := by
 have e0 : (((l.map encI).length : Nat) : Int) = l.length := by rw [List.length_map]
 refine FnL.of_awp (T := tt) (ok := tok) Tryz.func63 (by kernel_rfl) rfl (by kernel_rfl) (by kernel_rfl) (fun w0 st0 lent c0 => ?_)
 dsimp only [frOf, hpFrom, List.length_cons, List.length_nil]
 (repeat' (first | refine goA ?_ | refine goB ?_ | ((fail_if_success refine ARun.plain rfl ?_); refine ARun.fork rfl rfl rfl (fun h => ?_) (fun h => ?_)) | refine awp_cond rfl (fun h => ?_) (fun h => ?_)))
 refine awp_loopT (T := Nat × Nat) (fun t => ⟨[(10, .val (.int .i64 (t.1 : Nat))), (9, .val (.int .i64 ((l.map encI).length : Nat))), (8, encS l), (0, .ptr 1000 0 0 0)], [(1000, some ⟨0, 31, [encCw (cellsC' w (l.take t.1))]⟩)], t.2⟩) (fun t => t.1 ≤ l.length) (fun t => l.length - t.1) (0, _) (Nat.zero_le _) ⟨⟨rfl, rfl, rfl, rfl, trivial⟩, ⟨rfl, trivial⟩, Nat.le_refl _⟩ (fun t ht => ?_)
 obtain ⟨k, gc⟩ := t
 dsimp only at ht ⊢
 by_cases hlt : k < l.length
 ·have hp : l[k]? = some l[k] := List.getElem?_eq_getElem hlt
  have hc : decide (((k : Nat) : Int) < ((l.map encI).length : Nat)) = true := decide_eq_true (by omega)
  have hs := cellsC_snoc w hp
  have hz := cellsC_split w l k
  have hok : Okk (cellsC' w (l.take k)).f.v (l.length - k) := okk_cells (k := l.length - k) (l.take k) (h.le (by rw [List.length_take]; omega))
  generalize l[k] = n at *
  generalize cellsC' w (l.take k) = x at *
  by_cases hb : x.bad = 0
  ·have d : (x.bad != 0) = false := by simp [hb]
   have c1 := vlay_c x.f.v n (hok.le (by omega))
   rw [cellsC_one hb] at hs
   simp only [encVE] at c1
   generalize vlayD x.f.v n = p at *
   have c2 := okW_l ⟨⟨p.1, x.f.c⟩, x.bad⟩ p.2
   rw [show okC ⟨⟨p.1, x.f.c⟩, x.bad⟩ p.2 = ⟨⟨p.1, x.f.c⟩, p.2⟩ by unfold okC; rw [okB_0 _ hb]] at c2
   (repeat' (first | refine goA ?_ | refine ARun.indexAddr rfl rfl (by omega) (by first | with_reducible exact get_map hp | with_reducible exact get_map hp) rfl rfl rfl rfl rfl (guardF_spec rfl) ?_ | refine ARun.nilCheckP rfl rfl (guardF_spec rfl) ?_ | refine cX c1 ?_ | refine callK 1000 0 31 (encCw ⟨⟨p.1, x.f.c⟩, x.bad⟩) (encCw ⟨⟨p.1, x.f.c⟩, p.2⟩) (c2) (encCw_closed _) (encCw_closed _) (RelL.cons (.ptr (j := 0) 0 30 rfl) (RelL.cons (.wk (.same _) (.val _)) (RelL.nil _))) smT ?_ | refine goB ?_ | fail))
   exact ⟨(k + 1, _), ⟨⟨succI k, rfl, rfl, rfl, trivial⟩, ⟨by dsimp only; rw [hs]; rfl, trivial⟩, Nat.le_refl _⟩, hlt, (by dsimp only; omega)⟩
  ·have d : (x.bad != 0) = true := by simp [hb]
   rw [cellsC_bad hb] at hz
   rw [hz]
   (repeat' (first | refine goA ?_ | refine ARun.indexAddr rfl rfl (by omega) (by first | with_reducible exact get_map hp | with_reducible exact get_map hp) rfl rfl rfl rfl rfl (guardF_spec rfl) ?_ | refine ARun.nilCheckP rfl rfl (guardF_spec rfl) ?_ | refine goB ?_ | fail))
   (first | exact ⟨_, ResL.nil, rfl, ⟨_, rfl, RlR.closed (one_cl (encCw_closed _))⟩, trivial⟩ | exact awp_ret ⟨_, ResL.nil, rfl, ⟨_, rfl, RlR.closed (one_cl (encCw_closed _))⟩, trivial⟩ | (refine awp_skip ?_; exact ⟨_, ResL.nil, rfl, ⟨_, rfl, RlR.closed (one_cl (encCw_closed _))⟩, trivial⟩))
 ·have hkk : k = l.length := by omega
  subst hkk
  have hc : decide (((l.length : Nat) : Int) < ((l.map encI).length : Nat)) = false := decide_eq_false (by omega)
  rw [List.take_length]
  (repeat' (first | refine goA ?_ | refine goB ?_ | fail))
  (first | exact ⟨_, ResL.nil, rfl, ⟨_, rfl, RlR.closed (one_cl (encCw_closed _))⟩, trivial⟩ | exact awp_ret ⟨_, ResL.nil, rfl, ⟨_, rfl, RlR.closed (one_cl (encCw_closed _))⟩, trivial⟩ | (refine awp_skip ?_; exact ⟨_, ResL.nil, rfl, ⟨_, rfl, RlR.closed (one_cl (encCw_closed _))⟩, trivial⟩))
set_option maxHeartbeats 8000000 in
theorem wordW_l (w : Cw) (name : Bs) (fl : Int) (l : List Int) (hl : l.length ≤ 10000) (h : Okk w.f.v (l.length + 1)) (hd : w.f.v.dict.length ≤ 1000000) (hn : name.length ≤ 1000000) (hf : -9223372036854775808 ≤ fl ∧ fl ≤ 9223372036854775807) :
  FnL Tryz.prog 59 [.ptr 1000 0 0 0, St name, .val (.int .i64 fl), encS l] [(31, [encCw w])] (.val (.int .i64 (alignD w.f.v.m w.f.v.here).2.1)) [[encCw (wordC w name fl l)]] := by
 have c1 := Mem.align_c w.f.v.m w.f.v.here h.b (by have := h.o; omega) ⟨h.h0, h.h1⟩
 simp only [enc3m] at c1
 have c3 := Dict.add_c w.f.v.dict name (alignD w.f.v.m w.f.v.here).2.1 fl w.f.v.cf.words hd hn hf
 have hok := okk_lay (k := l.length) name fl h
 unfold wordC
 have c5 := cellsW_l (layW w name fl) l hl hok
 have hlw : layW w name fl = if okB (okB w.bad (alignD w.f.v.m w.f.v.here).2.2) (addD w.f.v.dict name (alignD w.f.v.m w.f.v.here).2.1 fl w.f.v.cf.words).2 = 0 then
  ⟨⟨withMHD w.f.v (alignD w.f.v.m w.f.v.here).1 (alignD w.f.v.m w.f.v.here).2.1 (addD w.f.v.dict name (alignD w.f.v.m w.f.v.here).2.1 fl w.f.v.cf.words).1, w.f.c⟩, okB (okB w.bad (alignD w.f.v.m w.f.v.here).2.2) (addD w.f.v.dict name (alignD w.f.v.m w.f.v.here).2.1 fl w.f.v.cf.words).2⟩
  else ⟨w.f, okB (okB w.bad (alignD w.f.v.m w.f.v.here).2.2) (addD w.f.v.dict name (alignD w.f.v.m w.f.v.here).2.1 fl w.f.v.cf.words).2⟩ := rfl
 generalize layW w name fl = z at *
 generalize alignD w.f.v.m w.f.v.here = a at *
 simp only [encWE] at c3
 generalize addD w.f.v.dict name a.2.1 fl w.f.v.cf.words = d at *
 have c2 := okW_l w a.2.2
 unfold okC at c2
 generalize okB w.bad a.2.2 = b1 at *
 have c4 := okW_l ⟨w.f, b1⟩ d.2
 unfold okC at c4
 dsimp only at c4
 generalize okB b1 d.2 = b2 at *
 by_cases hb : b2 = 0
 ·have dd : (b2 == 0) = true := beq_iff_eq.2 hb
  rw [if_pos hb] at hlw
  subst hlw
  refine FnL.of_awp (T := tt) (ok := tok) Tryz.func59 (by kernel_rfl) rfl (by kernel_rfl) (by kernel_rfl) (fun w0 st0 lent c0 => ?_)
  dsimp only [frOf, hpFrom, List.length_cons, List.length_nil]
  (repeat' (first | refine goA ?_ | refine ARun.nilCheckP rfl rfl (guardF_spec rfl) ?_ | refine cX c1 ?_ | refine callK 1000 0 31 (encCw w) (encCw ⟨w.f, b1⟩) (c2) (encCw_closed _) (encCw_closed _) (RelL.cons (.ptr (j := 0) 0 30 rfl) (RelL.cons (.wk (.same _) (.val _)) (RelL.nil _))) smT ?_ | refine cX c3 ?_ | refine callK 1000 0 31 (encCw ⟨w.f, b1⟩) (encCw ⟨w.f, b2⟩) (c4) (encCw_closed _) (encCw_closed _) (RelL.cons (.ptr (j := 0) 0 30 rfl) (RelL.cons (.wk (.same _) (.val _)) (RelL.nil _))) smT ?_ | refine callK 1000 0 31 (encCw ⟨⟨withMHD w.f.v a.1 a.2.1 d.1, w.f.c⟩, b2⟩) (encCw (cellsC' ⟨⟨withMHD w.f.v a.1 a.2.1 d.1, w.f.c⟩, b2⟩ l)) (c5) (encCw_closed _) (encCw_closed _) (RelL.cons (.ptr (j := 0) 0 0 rfl) (RelL.cons (.wk (by first | exact .same _ | exact .weak _ _ _ | exact .nilSl) (by first | exact .val _ | exact closed_s _ | exact .agg (encFo_closed _) | exact closedLCf _)) (RelL.nil _))) smT ?_ | refine goB ?_ | fail))
  (first | exact ⟨_, ResL.cons (ResA.tmp (.val _)) .nil, rfl, ⟨_, rfl, RlR.closed (one_cl (encCw_closed _))⟩, trivial⟩ | exact awp_ret ⟨_, ResL.cons (ResA.tmp (.val _)) .nil, rfl, ⟨_, rfl, RlR.closed (one_cl (encCw_closed _))⟩, trivial⟩)
 ·have dd : (b2 == 0) = false := beq_eq_false_iff_ne.2 hb
  rw [if_neg hb] at hlw
  subst hlw
  refine FnL.of_awp (T := tt) (ok := tok) Tryz.func59 (by kernel_rfl) rfl (by kernel_rfl) (by kernel_rfl) (fun w0 st0 lent c0 => ?_)
  dsimp only [frOf, hpFrom, List.length_cons, List.length_nil]
  (repeat' (first | refine goA ?_ | refine ARun.nilCheckP rfl rfl (guardF_spec rfl) ?_ | refine cX c1 ?_ | refine callK 1000 0 31 (encCw w) (encCw ⟨w.f, b1⟩) (c2) (encCw_closed _) (encCw_closed _) (RelL.cons (.ptr (j := 0) 0 30 rfl) (RelL.cons (.wk (.same _) (.val _)) (RelL.nil _))) smT ?_ | refine cX c3 ?_ | refine callK 1000 0 31 (encCw ⟨w.f, b1⟩) (encCw ⟨w.f, b2⟩) (c4) (encCw_closed _) (encCw_closed _) (RelL.cons (.ptr (j := 0) 0 30 rfl) (RelL.cons (.wk (.same _) (.val _)) (RelL.nil _))) smT ?_ | refine callK 1000 0 31 (encCw ⟨w.f, b2⟩) (encCw (cellsC' ⟨w.f, b2⟩ l)) (c5) (encCw_closed _) (encCw_closed _) (RelL.cons (.ptr (j := 0) 0 0 rfl) (RelL.cons (.wk (by first | exact .same _ | exact .weak _ _ _ | exact .nilSl) (by first | exact .val _ | exact closed_s _ | exact .agg (encFo_closed _) | exact closedLCf _)) (RelL.nil _))) smT ?_ | refine goB ?_ | fail))
  (first | exact ⟨_, ResL.cons (ResA.tmp (.val _)) .nil, rfl, ⟨_, rfl, RlR.closed (one_cl (encCw_closed _))⟩, trivial⟩ | exact awp_ret ⟨_, ResL.cons (ResA.tmp (.val _)) .nil, rfl, ⟨_, rfl, RlR.closed (one_cl (encCw_closed _))⟩, trivial⟩)
theorem doneW_l (w : Cw) (f : Fo) : FnL Tryz.prog 58 [.ptr 1000 0 0 0, .agg (encFo f)] [(31, [encCw w])] (encFE (doneC w f)) [[encCw w]] := by
 unfold doneC
 by_cases h : w.bad = 0
 ·have d : (w.bad != 0) = false := by simp [h]
  rw [if_neg (fun e => e h)]
  refine FnL.of_awp (T := tt) (ok := tok) Tryz.func58 (by kernel_rfl) rfl (by kernel_rfl) (by kernel_rfl) (fun w0 st0 lent c0 => ?_)
  dsimp only [frOf, hpFrom, List.length_cons, List.length_nil]
  (repeat' (first | refine goA ?_ | refine ARun.nilCheckP rfl rfl (guardF_spec rfl) ?_ | refine goB ?_ | ((fail_if_success refine ARun.plain rfl ?_); refine ARun.fork rfl rfl rfl (fun h => ?_) (fun h => ?_)) | refine awp_cond rfl (fun h => ?_) (fun h => ?_)))
  exact awp_ret ⟨_, ResL.cons (ResA.agg rfl rfl rfl rfl rfl rfl rfl (RL.allClosed (encFo_closed w.f))) (ResL.cons (ResA.tmp (.val _)) .nil), rfl, ⟨_, rfl, RlR.closed (one_cl (encCw_closed _))⟩, trivial⟩
 ·have d : (w.bad != 0) = true := by simp [h]
  rw [if_pos h]
  refine FnL.of_awp (T := tt) (ok := tok) Tryz.func58 (by kernel_rfl) rfl (by kernel_rfl) (by kernel_rfl) (fun w0 st0 lent c0 => ?_)
  dsimp only [frOf, hpFrom, List.length_cons, List.length_nil]
  (repeat' (first | refine goA ?_ | refine ARun.nilCheckP rfl rfl (guardF_spec rfl) ?_ | refine goB ?_ | ((fail_if_success refine ARun.plain rfl ?_); refine ARun.fork rfl rfl rfl (fun h => ?_) (fun h => ?_)) | refine awp_cond rfl (fun h => ?_) (fun h => ?_)))
  exact awp_ret ⟨_, ResL.cons (ResA.agg rfl rfl rfl rfl rfl rfl rfl (RL.allClosed (encFo_closed f))) (ResL.cons (ResA.tmp (.val _)) .nil), rfl, ⟨_, rfl, RlR.closed (one_cl (encCw_closed _))⟩, trivial⟩
theorem made_c (f : Fo) : FnC Tryz.prog 46 [.agg (encFo f)] (.val (.bool (f.c.xt != 0))) := by
 refine goF Tryz.func46 (closedL_cons (.agg (encFo_closed f)) closedL_nil) (fun w0 st0 => ?_)
 dsimp only [frOf]
 (repeat' (first | refine goA ?_ | refine goB ?_ | ((fail_if_success refine ARun.plain rfl ?_); refine ARun.fork rfl rfl rfl (fun h => ?_) (fun h => ?_)) | refine awp_cond rfl (fun h => ?_) (fun h => ?_)))
 exact awp_ret ⟨_, ResL.cons (ResA.tmp (.val _)) .nil, rfl⟩
def beginC (f : Fo) : Cw := ⟨f, if f.c.xt ≠ 0 then -29 else 0⟩
theorem begin_n (f : Fo) : FnN Tryz.prog 56 [.agg (encFo f)] (encCw (beginC f)) := by
 have c1 := made_c f
 unfold beginC
 by_cases h : f.c.xt = 0
 ·have d : (f.c.xt != 0) = false := by simp [h]
  rw [d] at c1
  rw [if_neg (fun e => e h)]
  refine FnN.of_awp (T := tt) (ok := tok) Tryz.func56 (by kernel_rfl) rfl (by kernel_rfl) (closedL_cons (.agg (encFo_closed f)) closedL_nil) (encCw_closed _) (fun w0 st0 => ?_)
  dsimp only [frOf]
  (repeat' (first | refine goA ?_ | refine cX c1 ?_ | refine ARun.nilCheckP rfl rfl (guardF_spec rfl) ?_ | refine goB ?_ | fail))
  exact awp_ret ⟨_, _, _, 31, rfl, rfl, rfl⟩
 ·have d : (f.c.xt != 0) = true := by simp [h]
  rw [d] at c1
  rw [if_pos h]
  refine FnN.of_awp (T := tt) (ok := tok) Tryz.func56 (by kernel_rfl) rfl (by kernel_rfl) (closedL_cons (.agg (encFo_closed f)) closedL_nil) (encCw_closed _) (fun w0 st0 => ?_)
  dsimp only [frOf]
  (repeat' (first | refine goA ?_ | refine cX c1 ?_ | refine ARun.nilCheckP rfl rfl (guardF_spec rfl) ?_ | refine goB ?_ | fail))
  exact awp_ret ⟨_, _, _, 31, rfl, rfl, rfl⟩
end Go.Proofs.YthlbcakjngcjbaaGreat
namespace Go.Proofs.YthlbcakjngcjbaaGreat
open Go Go.RowKit
open Go.Proofs.YthlbcakjngcjbaaGreat.Dict (St Bs Wd addD flagD cutD findD Fd setFl NameIn)
open Go.Proofs.YthlbcakjngcjbaaGreat.Mem (Mm storeD fetchD commaD alignD writeD RightM cellAtD thereD)
set_option maxRecDepth 100000
def upV (v : V) (m : Mm) (h : Int) (d : List Wd) (last : Int) (hand : List Hn) : V := ⟨v.cf, m, h, v.d, v.r, v.f, d, last, v.out, v.pb, v.po, v.req, v.free, v.next, v.arg, v.self, v.now, hand⟩
def wordR (v : V) (name : Bs) (fl : Int) (l : List Int) : V × Int × Int :=
 if (alignD v.m v.here).2.2 ≠ 0 then (v, 0, (alignD v.m v.here).2.2)
 else if (addD v.dict name (alignD v.m v.here).2.1 fl v.cf.words).2 ≠ 0 then (v, 0, (addD v.dict name (alignD v.m v.here).2.1 fl v.cf.words).2)
 else if (cellsK (withMHD v (alignD v.m v.here).1 (alignD v.m v.here).2.1 (addD v.dict name (alignD v.m v.here).2.1 fl v.cf.words).1) l).bad ≠ 0 then
  (v, 0, (cellsK (withMHD v (alignD v.m v.here).1 (alignD v.m v.here).2.1 (addD v.dict name (alignD v.m v.here).2.1 fl v.cf.words).1) l).bad)
 else ((cellsK (withMHD v (alignD v.m v.here).1 (alignD v.m v.here).2.1 (addD v.dict name (alignD v.m v.here).2.1 fl v.cf.words).1) l).v, (alignD v.m v.here).2.1, 0)
theorem word_rel (f : Fo) (name : Bs) (fl : Int) (l : List Int) : (wordC ⟨f, 0⟩ name fl l).bad = (wordR f.v name fl l).2.2 ∧ ((wordR f.v name fl l).2.2 = 0 → wordC ⟨f, 0⟩ name fl l = ⟨⟨(wordR f.v name fl l).1, f.c⟩, 0⟩ ∧ (alignD f.v.m f.v.here).2.1 = (wordR f.v name fl l).2.1) := by
 unfold wordC layW wordR
 dsimp only
 generalize alignD f.v.m f.v.here = a
 generalize addD f.v.dict name a.2.1 fl f.v.cf.words = d
 rw [okB_0 (b := 0) _ rfl]
 by_cases h1 : a.2.2 = 0
 ·rw [okB_0 _ h1]
  by_cases h2 : d.2 = 0
  ·rw [if_pos h2, if_neg (fun e => e h1), if_neg (fun e => e h2), h2]
   unfold cellsC'
   dsimp only
   show (cellsK (withMHD f.v a.1 a.2.1 d.1) l).bad = _ ∧ _
   have e : l.foldl cellD ⟨withMHD f.v a.1 a.2.1 d.1, [], 0⟩ = cellsK (withMHD f.v a.1 a.2.1 d.1) l := rfl
   rw [e]
   generalize cellsK (withMHD f.v a.1 a.2.1 d.1) l = k
   by_cases h3 : k.bad = 0
   ·rw [if_neg (fun e => e h3)]
    exact ⟨h3, fun _ => ⟨by rw [h3], rfl⟩⟩
   ·rw [if_pos h3]
    exact ⟨rfl, fun e => absurd e h3⟩
  ·rw [if_neg h2, if_neg (fun e => e h1), if_pos h2, cellsC_bad h2]
   exact ⟨rfl, fun e => absurd e h2⟩
 ·rw [okB_1 _ h1, if_neg h1, if_pos h1, cellsC_bad h1]
  exact ⟨rfl, fun e => absurd e h1⟩
def stV (v : V) (n : Int) : V := withMH v (storeD v.m 8 n).1 v.here
def setD (v : V) (d : List Wd) : V := upV v v.m v.here d v.last v.hand
def beginD (f : Fo) (name : Bs) (on : Bool) (fuel : Int) : Fo × Int :=
 if f.c.xt ≠ 0 then (f, -29)
 else if on = true ∧ (fuel < 0 ∨ 1048576 < fuel) then (f, -24)
 else if on = true ∧ 64 ≤ f.v.hand.length then (f, -8)
 else if (wordR f.v name 2 [256]).2.2 ≠ 0 then (f, (wordR f.v name 2 [256]).2.2)
 else (⟨stV (wordR f.v name 2 [256]).1 (-1), ⟨(wordR f.v name 2 [256]).2.1, [], f.v.here, f.v.dict.length, f.v.last, on, if on = true then fuel else 0⟩⟩, 0)
def clearH (fl : Int) : Int := if fl / 2 % 2 = 1 then fl - 2 else fl
def flAt (l : List Wd) (i : Int) : Int := match l[i.toNat]? with
 | some w => w.fl
 | none => 0
def endD' (f : Fo) : Fo × Int :=
 if f.c.xt = 0 then (f, -14)
 else if 0 < f.c.cf.length then (f, -22)
 else if f.c.on = true ∧ 64 ≤ f.v.hand.length then (f, -8)
 else if (cellsK f.v [32]).bad ≠ 0 then (f, (cellsK f.v [32]).bad)
 else (⟨stV (upV (cellsK f.v [32]).v (cellsK f.v [32]).v.m (cellsK f.v [32]).v.here (flagD f.v.dict f.c.dict (clearH (flAt f.v.dict f.c.dict))).1 f.v.last (if f.c.on = true then f.v.hand ++ [⟨f.c.xt, f.c.fuel, 0, false⟩] else f.v.hand)) 0, cp0⟩, 0)
def undoD (f : Fo) : Fo :=
 if f.c.xt = 0 then f
 else ⟨upV f.v (storeD f.v.m 8 0).1 f.c.here (cutD f.v.dict f.c.dict).1 f.c.last f.v.hand, cp0⟩
def createdD (f : Fo) (name : Bs) (last : Bool) (l : List Int) : Fo × Int :=
 if f.c.xt ≠ 0 then (f, -29)
 else if (wordR f.v name 0 l).2.2 ≠ 0 then (f, (wordR f.v name 0 l).2.2)
 else (⟨if last = true then upV (wordR f.v name 0 l).1 (wordR f.v name 0 l).1.m (wordR f.v name 0 l).1.here (wordR f.v name 0 l).1.dict (wordR f.v name 0 l).2.1 (wordR f.v name 0 l).1.hand else (wordR f.v name 0 l).1, f.c⟩, 0)
def machL (n : Int) : List Int := [260, 0, 0, n] ++ List.replicate n.toNat 0
def machineD (f : Fo) (name : Bs) (n : Int) : Fo × Int :=
 if f.c.xt ≠ 0 then (f, -29) else if n < 1 ∨ 256 < n then (f, -24) else createdD f name false (machL n)
def setI (fl : Int) : Int := if fl % 2 = 0 then fl + 1 else fl
def xtAt (l : List Wd) (i : Nat) : Int := match l[i]? with
 | some w => w.xt
 | none => 0
def immD (f : Fo) : Fo × Int :=
 if f.c.xt ≠ 0 then (f, -29)
 else if f.v.dict.length = 0 ∨ xtAt f.v.dict (f.v.dict.length - 1) < 1368 then (f, -13)
 else (⟨setD f.v (flagD f.v.dict ((f.v.dict.length : Int) - 1) (setI (flAt f.v.dict ((f.v.dict.length : Int) - 1)))).1, f.c⟩, 0)
def forgetD (f : Fo) (name : Bs) : Fo × Int :=
 if f.c.xt ≠ 0 then (f, -29)
 else if (findD f.v.dict name).2.2 = false then (f, -13)
 else if (findD f.v.dict name).1.xt < 1368 ∨ f.v.here < (findD f.v.dict name).1.xt then (f, -32)
 else (⟨upV f.v f.v.m (findD f.v.dict name).1.xt (cutD f.v.dict (findD f.v.dict name).2.1).1 0 f.v.hand, f.c⟩, 0)
structure Gd (v : V) (k : Nat) : Prop where
 ok : Okk v k
 big : 16 ≤ v.m.b.length
 dl : v.dict.length ≤ 1000000
 ni : NameIn v.dict
 hl : v.hand.length ≤ 1000000
theorem Gd.le {v : V} {n k : Nat} (h : Gd v n) (hk : k ≤ n) : Gd v k := ⟨h.ok.le hk, h.big, h.dl, h.ni, h.hl⟩
theorem store8 {m : Mm} (n : Int) (h : 16 ≤ m.b.length) : (storeD m 8 n).2 = 0 := by
 have hc : cellAtD m 8 = 0 := by
  have ht : thereD m.b.length 8 8 = true := by
   unfold thereD
   exact decide_eq_true (by omega)
  unfold cellAtD
  rw [if_neg (by rw [ht]; decide), if_neg (by decide)]
 unfold storeD
 rw [if_neg (by rw [hc]; decide)]
 unfold writeD
 split
 ·rename_i h1
  have ht : thereD m.b.length 8 (Mem.putB n).length = true := by
   rw [Mem.putB_len]
   unfold thereD
   exact decide_eq_true (by omega)
  rw [ht] at h1
  cases h1
 ·split <;> rfl
structure MLay (v x : V) (k : Nat) : Prop where
 bl : x.m.b.length = v.m.b.length
 ol : x.m.old.length ≤ v.m.old.length + k
 ri : RightM v.m → RightM x.m
 h0 : v.here ≤ x.here
 h1 : x.here ≤ v.m.b.length
theorem Lays.ml {v x : V} {k : Nat} (h : Lays v x k) : MLay v x k := ⟨h.bl, h.ol, h.ri, h.h0, h.h1⟩
theorem MLay.trans {v x y : V} {j k : Nat} (h : MLay v x j) (g : MLay x y k) : MLay v y (j + k) :=
 ⟨g.bl.trans h.bl, by have := h.ol; have := g.ol; omega, fun k => g.ri (h.ri k), Int.le_trans h.h0 g.h0, by rw [← h.bl]; exact g.h1⟩
theorem MLay.le {v x : V} {k n : Nat} (h : MLay v x k) (hk : k ≤ n) : MLay v x n := ⟨h.bl, by have := h.ol; omega, h.ri, h.h0, h.h1⟩
theorem MLay.okk {v x : V} {k n : Nat} (h : MLay v x k) (ho : Okk v (n + k)) : Okk x n := by
 have := h.h0
 have := ho.h0
 exact ⟨by rw [h.bl]; exact ho.b, by have := h.ol; have := ho.o; omega, by omega, by rw [h.bl]; exact h.h1⟩
theorem ml_align {v : V} (d : List Wd) (h : Rng v) : MLay v (withMHD v (alignD v.m v.here).1 (alignD v.m v.here).2.1 d) 1 := by
 have c := mlay_ok v.m v.here (List.replicate (Mem.padN v.here) 0) h.h0 h.h1
 exact ⟨c.1, c.2.1, mlay_right _ _, c.2.2.1, c.2.2.2⟩
theorem MLay.rng {v x : V} {k : Nat} (h : MLay v x k) (hr : Rng v) : Rng x := ⟨by have := h.h0; have := hr.h0; omega, by rw [h.bl]; exact h.h1⟩
theorem cellsK_lays {v : V} (l : List Int) (h : Rng v) : Lays v (cellsK v l).v l.length := lays_cells l (w := wk0 v) h
theorem wordR_yes {v : V} {name : Bs} {fl : Int} {l : List Int} (h : (wordR v name fl l).2.2 = 0) (hr : Rng v) :
  (wordR v name fl l).1 = upV v (wordR v name fl l).1.m (wordR v name fl l).1.here (v.dict ++ [⟨name, (wordR v name fl l).2.1, fl⟩]) v.last v.hand ∧ MLay v (wordR v name fl l).1 (1 + l.length) ∧ (wordR v name fl l).2.1 = (alignD v.m v.here).2.1 ∧ Dict.namedD name = 0 ∧ (0 ≤ fl ∧ fl ≤ 7) ∧ (v.dict.length : Int) < v.cf.words ∧ v.dict.length < 1024 ∧ (alignD v.m v.here).2.2 = 0 ∧
  (wordR v name fl l).1 = (cellsK (withMHD v (alignD v.m v.here).1 (alignD v.m v.here).2.1 (v.dict ++ [⟨name, (alignD v.m v.here).2.1, fl⟩])) l).v ∧ (cellsK (withMHD v (alignD v.m v.here).1 (alignD v.m v.here).2.1 (v.dict ++ [⟨name, (alignD v.m v.here).2.1, fl⟩])) l).bad = 0 := by
 have hm := fun d => ml_align (v := v) d hr
 unfold wordR at h ⊢
 by_cases h1 : (alignD v.m v.here).2.2 = 0
 case neg => rw [if_pos h1] at h; exact absurd h h1
 rw [if_neg (fun e => e h1)] at h ⊢
 generalize alignD v.m v.here = a at *
 by_cases h2 : (addD v.dict name a.2.1 fl v.cf.words).2 = 0
 case neg => rw [if_pos h2] at h; exact absurd h h2
 rw [if_neg (fun e => e h2)] at h ⊢
 have hd : addD v.dict name a.2.1 fl v.cf.words = (v.dict ++ [⟨name, a.2.1, fl⟩], 0) ∧ Dict.namedD name = 0 ∧ (0 ≤ fl ∧ fl ≤ 7) ∧ (v.dict.length : Int) < v.cf.words ∧ v.dict.length < 1024 := by
  unfold addD at h2 ⊢
  by_cases g1 : Dict.namedD name = 0
  case neg => rw [if_pos g1] at h2; exact absurd h2 g1
  rw [if_neg (fun e => e g1)] at h2 ⊢
  by_cases g2 : 0 ≤ fl ∧ fl ≤ 7
  case neg => rw [if_pos g2] at h2; exact absurd h2 (by dsimp only; omega)
  rw [if_neg (fun e => e g2)] at h2 ⊢
  by_cases g3 : v.cf.words ≤ v.dict.length ∨ 1024 ≤ v.dict.length
  ·rw [if_pos g3] at h2; exact absurd h2 (by dsimp only; omega)
  ·rw [if_neg g3]
   exact ⟨rfl, g1, g2, by omega, by omega⟩
 rw [hd.1] at h ⊢
 have hm1 := hm (v.dict ++ [⟨name, a.2.1, fl⟩])
 have hl := cellsK_lays l (hm1.rng hr)
 dsimp only at h ⊢
 generalize hx : withMHD v a.1 a.2.1 (v.dict ++ [⟨name, a.2.1, fl⟩]) = x at *
 by_cases h3 : (cellsK x l).bad = 0
 case neg => rw [if_pos h3] at h; exact absurd h h3
 rw [if_neg (fun e => e h3)]
 exact ⟨(hl.eq).trans (by rw [← hx]; rfl), hm1.trans hl.ml, rfl, hd.2.1, hd.2.2.1, hd.2.2.2.1, hd.2.2.2.2, h1, rfl, h3⟩
theorem Gd.rng {v : V} {k : Nat} (h : Gd v k) : Rng v := ⟨h.ok.h0, h.ok.h1⟩
end Go.Proofs.YthlbcakjngcjbaaGreat
