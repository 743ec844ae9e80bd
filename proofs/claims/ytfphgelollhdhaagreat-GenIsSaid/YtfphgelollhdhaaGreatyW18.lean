/- yX21, yX22, yC1, yC2, yC3. -/
import Derived.Test.YtfphgelollhdhaaGreatW1
import Derived.Test.YtfphgelollhdhaaGreatW2
import Derived.Test.YtfphgelollhdhaaGreatW3
import Derived.Test.YtfphgelollhdhaaGreatW4
import Derived.Test.YtfphgelollhdhaaGreatyW5
import Derived.Test.YtfphgelollhdhaaGreatyW6
import Derived.Test.YtfphgelollhdhaaGreatyW7
import Derived.Test.YtfphgelollhdhaaGreatyW8
import Derived.Test.YtfphgelollhdhaaGreatyW9
import Derived.Test.YtfphgelollhdhaaGreatyW10
import Derived.Test.YtfphgelollhdhaaGreatyW11
import Derived.Test.YtfphgelollhdhaaGreatyW12
import Derived.Test.YtfphgelollhdhaaGreatyW13
import Derived.Test.YtfphgelollhdhaaGreatyW14
import Derived.Test.YtfphgelollhdhaaGreatyW15
import Derived.Test.YtfphgelollhdhaaGreatyW16
import Derived.Test.YtfphgelollhdhaaGreatyW17
set_option linter.unusedVariables false
set_option linter.unusedSimpArgs false
namespace Go.Proofs.YtfphgelollhdhaaGreat
open Go Go.RowKit
open Go.Proofs.YtfphgelollhdhaaGreat.Dict (St Bs bs_eq encWs closed_ws)
open Go.Proofs.YtfphgelollhdhaaGreat.Mem (Mm encM encBs closed_bs encP encP_closed closed_m storeD fetchD commaD writeD alignD padN putB_len enc2m)
open Go.Proofs.YtfphgelollhdhaaGreat.Stk (encS closed_s encI_closed)
set_option maxRecDepth 100000
attribute [local irreducible] Decidable.decide awp ARun regK toK
end Go.Proofs.YtfphgelollhdhaaGreat
namespace Go.Proofs.YtfphgelollhdhaaGreat
open Go Go.RowKit
open Go.Proofs.YtfphgelollhdhaaGreat.Dict (St Bs)
open Go.Proofs.YtfphgelollhdhaaGreat.Mem (Mm commaD storeD writeD thereD alignD partD there_yes RightM cellAtD)
set_option maxRecDepth 100000
theorem write_right {m : Mm} (a : Int) (b : List UInt8) (h : RightM m) : RightM (writeD m a b).1 := by
 have hl := (write_ok m a b).1
 unfold writeD at hl ⊢
 split
 ·exact h
 ·rename_i h1
  split
  ·exact h
  ·rename_i h2
   rw [if_neg h1, if_neg h2] at hl
   simp only [Bool.not_eq_false] at h1
   have h3 := there_yes h1 (by
    have := List.length_pos_iff.2 h2
    omega)
   refine ⟨fun p hp => ?_, by rw [hl]; exact h.2.1, by rw [hl]; exact h.2.2⟩
   rw [hl]
   rcases List.mem_append.1 hp with hp | hp
   ·exact h.1 p hp
   ·rw [List.mem_singleton.1 hp]
    have e : (partD m.b a (b.length : Nat)).length = b.length := by
     unfold partD
     rw [List.length_take, List.length_drop]
     omega
    rw [e]
    exact h1
theorem mlay_right {m : Mm} (here : Int) (b : List UInt8) (h : RightM m) : RightM (Mem.layD m here b).1 := by
 unfold Mem.layD
 split
 ·exact h
 ·exact write_right _ _ h
theorem comma_right {m : Mm} (here n : Int) (h : RightM m) : RightM (commaD m here n).1 := by
 unfold commaD
 split
 ·exact h
 ·exact mlay_right _ _ h
theorem store_right {m : Mm} (a n : Int) (h : RightM m) : RightM (storeD m a n).1 := by
 unfold storeD
 split
 ·exact h
 ·exact write_right _ _ h
theorem store_ok (m : Mm) (a n : Int) : (storeD m a n).1.b.length = m.b.length ∧ (storeD m a n).1.old.length ≤ m.old.length + 1 := by
 unfold storeD
 split
 ·exact ⟨rfl, Nat.le_succ _⟩
 ·exact write_ok m a _
structure Rng (v : V) : Prop where
 h0 : 0 ≤ v.here
 h1 : v.here ≤ v.m.b.length
structure Lays (v x : V) (k : Nat) : Prop where
 eq : x = withMH v x.m x.here
 bl : x.m.b.length = v.m.b.length
 ol : x.m.old.length ≤ v.m.old.length + k
 ri : RightM v.m → RightM x.m
 h0 : v.here ≤ x.here
 h1 : x.here ≤ v.m.b.length
theorem Lays.refl {v : V} (h : Rng v) : Lays v v 0 := ⟨(withMH_id v).symm, rfl, Nat.le_refl _, fun h => h, Int.le_refl _, h.h1⟩
theorem Lays.rng {v x : V} {k : Nat} (h : Lays v x k) (hr : Rng v) : Rng x := ⟨by have := h.h0; have := hr.h0; omega, by rw [h.bl]; exact h.h1⟩
theorem Lays.le {v x : V} {k n : Nat} (h : Lays v x k) (hk : k ≤ n) : Lays v x n := ⟨h.eq, h.bl, by have := h.ol; omega, h.ri, h.h0, h.h1⟩
theorem Lays.trans {v x y : V} {j k : Nat} (h : Lays v x j) (g : Lays x y k) : Lays v y (j + k) :=
  ⟨calc y = withMH x y.m y.here := g.eq
     _ = withMH (withMH v x.m x.here) y.m y.here := by rw [← h.eq]
     _ = withMH v y.m y.here := rfl, g.bl.trans h.bl, by have := h.ol; have := g.ol; omega, fun k => g.ri (h.ri k), Int.le_trans h.h0 g.h0, by rw [← h.bl]; exact g.h1⟩
theorem lays_vlay {v : V} (n : Int) (h : Rng v) : Lays v (vlayD v n).1 1 := by
 have c := comma_ok v.m v.here n h.h0 h.h1
 exact ⟨rfl, c.1, c.2.1, comma_right _ _, c.2.2.1, c.2.2.2⟩
theorem lays_cell {w : Kw} (n : Int) (h : Rng w.v) : Lays w.v (cellD w n).v 1 := by
 unfold cellD
 split
 ·exact lays_vlay n h
 ·exact (Lays.refl h).le (by omega)
theorem lays_here {w : Kw} (n : Int) (h : Rng w.v) : Lays w.v (hereD w n).v 1 := by
 unfold hereD
 split
 ·have c := store_ok w.v.m n w.v.here
  exact ⟨rfl, c.1, c.2, store_right _ _, Int.le_refl _, h.h1⟩
 ·exact (Lays.refl h).le (by omega)
theorem lays_cells : ∀ (l : List Int) {w : Kw}, Rng w.v → Lays w.v (l.foldl cellD w).v l.length
 | [], w, h => Lays.refl h
 | a :: l, w, h => by
  have h1 := lays_cell (w := w) a h
  have h2 := lays_cells l (w := cellD w a) (h1.rng h)
  rw [List.foldl_cons]
  exact (h1.trans h2).le (by rw [List.length_cons]; omega)
theorem lays_heres : ∀ (l : List Int) {w : Kw}, Rng w.v → Lays w.v (heresD w l).v l.length
 | [], w, h => Lays.refl h
 | a :: l, w, h => by
  have h1 := lays_here (w := w) a h
  have h2 := lays_heres l (w := hereD w a) (h1.rng h)
  exact (h1.trans h2).le (by rw [List.length_cons]; omega)
theorem lays_ref {pl : List Int × List Int × List Cfr} {v : V} (h : Rng v) : Lays v (refK pl v).v (pl.1.length + pl.2.1.length) := by
 have h1 : Lays v (cellsK v pl.1).v pl.1.length := lays_cells pl.1 (w := wk0 v) h
 exact h1.trans (lays_heres pl.2.1 (h1.rng h))
theorem lastC_mem {l : List Cfr} (h : l ≠ []) : lastC l ∈ l := by
 unfold lastC
 rw [List.getLast?_eq_some_getLast h]
 exact List.getLast_mem h
theorem lastC_lv {l : List Cfr} {n : Nat} (h : ∀ c, c ∈ l → c.lv.length ≤ n) : (lastC l).lv.length ≤ n := by
 by_cases e : l = []
 ·subst e; exact Nat.zero_le _
 ·exact h _ (lastC_mem e)
theorem plan_len (i : Nat) (v : V) (l : List Cfr) (h : ∀ c, c ∈ l → c.lv.length ≤ 60) : (planD i v l).1.length + (planD i v l).2.1.length ≤ 63 := by
 have h1 := lastC_lv h
 unfold planD
 split <;> simp only [List.length_cons, List.length_nil] <;> omega
theorem lays_brI {i : Nat} {v : V} {l : List Cfr} (h : Rng v) (hl : ∀ c, c ∈ l → c.lv.length ≤ 60) : Lays v (brI i v l).1 63 := by
 have hp := plan_len i v l hl
 unfold brI
 split
 ·unfold refBrD
  split
  ·exact (lays_ref h).le hp
  ·exact (Lays.refl h).le (by omega)
 ·exact (Lays.refl h).le (by omega)
theorem lays_lit {v : V} (n : Int) (h : Rng v) : Lays v (outD (litK v n) v).1 2 := by
 unfold outD
 split
 ·exact lays_cells [xtD nLit, n] (w := wk0 v) h
 ·exact (Lays.refl h).le (by omega)
theorem Lays.held {v x : V} {k : Nat} (h : Lays v x k) (hv : Held v) (ho : v.m.old.length + k ≤ 1000000) : Held x := by
 rw [h.eq]
 exact ⟨by show x.m.b.length ≤ _; rw [h.bl]; exact hv.mb, by show x.m.old.length ≤ _; have := h.ol; omega, hv.dl, hv.rl, hv.fl, hv.wl, hv.wi, hv.ol, hv.pl, hv.ql, hv.hl⟩
theorem Lays.right {v x : V} {k : Nat} (h : Lays v x k) (hv : RightV v) : RightV x := by
 rw [h.eq]
 obtain ⟨⟨a1, a2, a3, a4, a5⟩, b, c, d⟩ := hv
 refine ⟨⟨a1, h.ri a2, by show ((x.m.b.length : Nat) : Int) = _; rw [h.bl]; exact a3, by show 1368 ≤ x.here; have := h.h0; omega, by show x.here ≤ v.cf.mem; have := h.h1; omega⟩, b, c, d⟩
theorem RightV.rng {v : V} (hv : RightV v) : Rng v := by
 obtain ⟨⟨a1, a2, a3, a4, a5⟩, b, c, d⟩ := hv
 exact ⟨by omega, by omega⟩
theorem Lays.back {v x : V} {k : Nat} (h : Lays v x k) : withMH x v.m v.here = v := by
 rw [h.eq]
 exact withMH_id v
theorem take_ok {l : List Cfr} {k : Nat} (h : ∀ c, c ∈ l → OkC c) : ∀ c, c ∈ l.take k → OkC c := fun c hc => h c (List.mem_of_mem_take hc)
theorem right_app {l more : List Cfr} {k : Nat} (h : RightC l) (hk : l.length - k + more.length ≤ 32) (hm : ∀ c, c ∈ more → OkC c) : RightC (l.take (l.length - k) ++ more) :=
 ⟨fun c hc => by
  rcases List.mem_append.1 hc with hc | hc
  ·exact take_ok h.1 c hc
  ·exact hm c hc, by rw [List.length_append, List.length_take]; omega⟩
theorem ok_1 (a : Int) : OkC ⟨1, a, []⟩ := ⟨⟨by dsimp only; omega, by dsimp only; omega⟩, Nat.zero_le _, .inr rfl⟩
theorem ok_2 (a : Int) : OkC ⟨2, a, []⟩ := ⟨⟨by dsimp only; omega, by dsimp only; omega⟩, Nat.zero_le _, .inr rfl⟩
theorem ok_3 (a : Int) (s : List Int) (hs : s.length ≤ 32) : OkC ⟨3, a, s⟩ := ⟨⟨by dsimp only; omega, by dsimp only; omega⟩, hs, .inl rfl⟩
theorem one_ok {c : Cfr} (h : OkC c) : ∀ x, x ∈ [c] → OkC x := fun x hx => by rw [List.mem_singleton.1 hx]; exact h
theorem lastK_len {l : List Cfr} (h : lastK l 0 ≠ 0) : 0 < l.length := by
 rcases Nat.eq_zero_or_pos l.length with e | e
 ·rw [List.length_eq_zero_iff.1 e] at h
  exact absurd rfl h
 ·exact e
theorem right_plan {i : Nat} (hi : i < 13) {v : V} {l : List Cfr} (h : RightC l) (hf : FitC i l) : RightC (planD i v l).2.2 := by
 have h2 := h.2
 match i, hi with
 | 0, _ => exact right_app h (by have : l.length < 32 := hf; simp only [List.length_cons, List.length_nil]; omega) (one_ok (ok_1 _))
 | 1, _ =>
  have h1 : lastK l 0 = 1 := hf
  have h3 := lastK_len (l := l) (by rw [h1]; decide)
  exact right_app h (by simp only [List.length_cons, List.length_nil]; omega) (one_ok (ok_1 _))
 | 2, _ => exact right_app h (by simp only [List.length_nil]; omega) (fun c hc => by cases hc)
 | 3, _ => exact right_app h (by have : l.length < 32 := hf; simp only [List.length_cons, List.length_nil]; omega) (one_ok (ok_2 _))
 | 4, _ =>
  have h1 : lastK l 0 = 2 ∧ l.length < 32 := hf
  have h3 := lastK_len (l := l) (by rw [h1.1]; decide)
  refine right_app h (by simp only [List.length_cons, List.length_nil]; omega) (fun c hc => ?_)
  rcases List.mem_cons.1 hc with rfl | hc
  ·exact ok_1 _
  ·rw [List.mem_singleton.1 hc]
   exact h.1 _ (lastC_mem (List.length_pos_iff.1 h3))
 | 5, _ => exact right_app h (by simp only [List.length_nil]; omega) (fun c hc => by cases hc)
 | 6, _ => exact right_app h (by simp only [List.length_nil]; omega) (fun c hc => by cases hc)
 | 7, _ => exact right_app h (by simp only [List.length_nil]; omega) (fun c hc => by cases hc)
 | 8, _ => exact right_app h (by have : l.length < 32 := hf; simp only [List.length_cons, List.length_nil]; omega) (one_ok (ok_3 _ _ (by decide)))
 | 9, _ => exact right_app h (by have : l.length < 32 := hf; simp only [List.length_cons, List.length_nil]; omega) (one_ok (ok_3 _ _ (by simp)))
 | 10, _ => exact right_app h (by simp only [List.length_nil]; omega) (fun c hc => by cases hc)
 | 11, _ => exact right_app h (by simp only [List.length_nil]; omega) (fun c hc => by cases hc)
 | 12, _ =>
  have h1 : 0 ≤ loopAt l ∧ leavesAt l (loopAt l) < 32 := hf
  obtain ⟨k, c, hc, hk, e⟩ := loopFrom_mem (l := l) (n := l.length) h1.1
  have e' : loopAt l = (k : Nat) := e
  show RightC (addLv l (loopAt l).toNat (v.here + 16))
  have h3 := h1.2
  rw [e'] at h3 ⊢
  unfold leavesAt at h3
  rw [Int.toNat_natCast, hc] at h3
  unfold addLv
  rw [Int.toNat_natCast, hc]
  dsimp only at h3 ⊢
  refine ⟨fun x hx => ?_, by rw [List.length_set]; exact h2⟩
  rcases List.mem_or_eq_of_mem_set hx with hx | rfl
  ·exact h.1 x hx
  ·rw [hk]
   exact ok_3 _ _ (by rw [List.length_append, List.length_singleton]; omega)
theorem right_brI {i : Nat} (hi : i < 13) {v : V} {l : List Cfr} (h : RightC l) : RightC (brI i v l).2.1 := by
 by_cases hf : FitC i l
 ·rw [brI_yes hf]
  unfold refBrD
  split
  ·exact right_plan hi h hf
  ·exact h
 ·rw [brI_no hf]
  exact h
theorem RightC.lv {l : List Cfr} (h : RightC l) : ∀ c, c ∈ l → c.lv.length ≤ 60 := fun c hc => by have := (h.1 c hc).2.1; omega
theorem FewC.lv {l : List Cfr} (h : FewC l) : ∀ c, c ∈ l → c.lv.length ≤ 1000000 := fun c hc => by have := h.1 c hc; omega
end Go.Proofs.YtfphgelollhdhaaGreat
namespace Go.Proofs.YtfphgelollhdhaaGreat
open Go Go.RowKit
open Go.Proofs.YtfphgelollhdhaaGreat.Dict (St Bs bs_eq Wd encW encWs closed_ws addD flagD cutD encWE)
open Go.Proofs.YtfphgelollhdhaaGreat.Mem (Mm encM encBs closed_bs encP encP_closed closed_m storeD fetchD commaD alignD enc3m enc2m writeD)
open Go.Proofs.YtfphgelollhdhaaGreat.Stk (encS closed_s encI_closed)
set_option maxRecDepth 100000
structure Cp where
 xt : Int
 cf : List Cfr
 here : Int
 dict : Int
 last : Int
 on : Bool
 fuel : Int
structure Fo where
 v : V
 c : Cp
structure Cw where
 f : Fo
 bad : Int
def cp0 : Cp := ⟨0, [], 0, 0, 0, false, 0⟩
def encFo (w : Fo) : List AV := [.val (.int .i64 w.v.cf.mem), .val (.int .i64 w.v.cf.data), .val (.int .i64 w.v.cf.ret), .val (.int .i64 w.v.cf.words), .val (.int .i64 w.v.cf.out), encBs w.v.m.b, .sl 2 false (w.v.m.old.map encP), .val (.int .i64 w.v.here), encS w.v.d, encS w.v.r, encLFr w.v.f, encWs w.v.dict, .val (.int .i64 w.v.last), encBs w.v.out, encBs w.v.pb, .val (.bool w.v.po), encLRq w.v.req, .val (.int .i64 w.v.free), .val (.int .i64 w.v.next), .val (.int .i64 w.v.arg), .val (.int .i64 w.v.self), .val (.int .i64 w.v.now), encLHn w.v.hand, .val (.int .i64 w.c.xt), encLCf w.c.cf, .val (.int .i64 w.c.here), .val (.int .i64 w.c.dict), .val (.int .i64 w.c.last), .val (.bool w.c.on), .val (.int .i64 w.c.fuel)]
theorem encFo_closed (w : Fo) : ∀ x, x ∈ encFo w → Closed x := closedL_cons (.val _) (closedL_cons (.val _) (closedL_cons (.val _) (closedL_cons (.val _) (closedL_cons (.val _) (closedL_cons (closed_bs _) (closedL_cons (closed_map encP_closed) (closedL_cons (.val _) (closedL_cons (closed_s _) (closedL_cons (closed_s _) (closedL_cons (closedFr _) (closedL_cons (closed_ws _) (closedL_cons (.val _) (closedL_cons (closed_bs _) (closedL_cons (closed_bs _) (closedL_cons (.val _) (closedL_cons (closedRq _) (closedL_cons (.val _) (closedL_cons (.val _) (closedL_cons (.val _) (closedL_cons (.val _) (closedL_cons (.val _) (closedL_cons (closedHn _) (closedL_cons (.val _) (closedL_cons (closedLCf _) (closedL_cons (.val _) (closedL_cons (.val _) (closedL_cons (.val _) (closedL_cons (.val _) (closedL_cons (.val _) closedL_nil)))))))))))))))))))))))))))))
def encFE (r : Fo × Int) : AV := .tup [.agg (encFo r.1), .val (.int .i64 r.2)]
def withMHD (v : V) (m : Mm) (h : Int) (d : List Wd) : V := ⟨v.cf, m, h, v.d, v.r, v.f, d, v.last, v.out, v.pb, v.po, v.req, v.free, v.next, v.arg, v.self, v.now, v.hand⟩
attribute [local irreducible] Decidable.decide awp ARun regK toK
theorem smT {p : Prop} (h : p := by first | exact .same _ (.tup closedL_nil) | exact .same _ (.val _) | exact .same _ (.agg (encCf_closed _)) | exact .same _ (.tup (closedL_cons (.agg (encFo_closed _)) (closedL_cons (.val _) closedL_nil))) | exact .same _ (.tup (closedL_cons (closedV _) (closedL_cons (closedLCf _) (closedL_cons (.val _) closedL_nil))))) : p := h
end Go.Proofs.YtfphgelollhdhaaGreat
namespace Go.Proofs.YtfphgelollhdhaaGreat
open Go Go.RowKit
open Go.Proofs.YtfphgelollhdhaaGreat.Dict (St Bs bs_eq Wd encW encWs closed_ws addD flagD cutD encWE)
open Go.Proofs.YtfphgelollhdhaaGreat.Mem (Mm encM encBs closed_bs encP encP_closed closed_m storeD fetchD commaD alignD enc3m enc2m writeD)
open Go.Proofs.YtfphgelollhdhaaGreat.Stk (encS closed_s encI_closed)
set_option maxRecDepth 100000
attribute [local irreducible] Decidable.decide awp ARun regK toK
end Go.Proofs.YtfphgelollhdhaaGreat
namespace Go.Proofs.YtfphgelollhdhaaGreat
open Go Go.RowKit
open Go.Proofs.YtfphgelollhdhaaGreat.Dict (St Bs Wd addD flagD cutD findD Fd setFl NameIn)
open Go.Proofs.YtfphgelollhdhaaGreat.Mem (Mm storeD fetchD commaD alignD writeD RightM cellAtD thereD)
set_option maxRecDepth 100000
def upV (v : V) (m : Mm) (h : Int) (d : List Wd) (last : Int) (hand : List Hn) : V := ⟨v.cf, m, h, v.d, v.r, v.f, d, last, v.out, v.pb, v.po, v.req, v.free, v.next, v.arg, v.self, v.now, hand⟩
def wordR (v : V) (name : Bs) (fl : Int) (l : List Int) : V × Int × Int :=
 if (alignD v.m v.here).2.2 ≠ 0 then (v, 0, (alignD v.m v.here).2.2)
 else if (addD v.dict name (alignD v.m v.here).2.1 fl v.cf.words).2 ≠ 0 then (v, 0, (addD v.dict name (alignD v.m v.here).2.1 fl v.cf.words).2)
 else if (cellsK (withMHD v (alignD v.m v.here).1 (alignD v.m v.here).2.1 (addD v.dict name (alignD v.m v.here).2.1 fl v.cf.words).1) l).bad ≠ 0 then
  (v, 0, (cellsK (withMHD v (alignD v.m v.here).1 (alignD v.m v.here).2.1 (addD v.dict name (alignD v.m v.here).2.1 fl v.cf.words).1) l).bad)
 else ((cellsK (withMHD v (alignD v.m v.here).1 (alignD v.m v.here).2.1 (addD v.dict name (alignD v.m v.here).2.1 fl v.cf.words).1) l).v, (alignD v.m v.here).2.1, 0)
def stV (v : V) (n : Int) : V := withMH v (storeD v.m 8 n).1 v.here
def beginD (f : Fo) (name : Bs) (on : Bool) (fuel : Int) : Fo × Int :=
 if f.c.xt ≠ 0 then (f, -29)
 else if on = true ∧ (fuel < 0 ∨ 1048576 < fuel) then (f, -24)
 else if on = true ∧ 64 ≤ f.v.hand.length then (f, -8)
 else if (wordR f.v name 2 [256]).2.2 ≠ 0 then (f, (wordR f.v name 2 [256]).2.2)
 else (⟨stV (wordR f.v name 2 [256]).1 (-1), ⟨(wordR f.v name 2 [256]).2.1, [], f.v.here, f.v.dict.length, f.v.last, on, if on = true then fuel else 0⟩⟩, 0)
def clearH (fl : Int) : Int := if fl / 2 % 2 = 1 then fl - 2 else fl
def flAt (l : List Wd) (i : Int) : Int := match l[i.toNat]? with
 | some w => w.fl
 | none => 0
def endD' (f : Fo) : Fo × Int :=
 if f.c.xt = 0 then (f, -14)
 else if 0 < f.c.cf.length then (f, -22)
 else if f.c.on = true ∧ 64 ≤ f.v.hand.length then (f, -8)
 else if (cellsK f.v [32]).bad ≠ 0 then (f, (cellsK f.v [32]).bad)
 else (⟨stV (upV (cellsK f.v [32]).v (cellsK f.v [32]).v.m (cellsK f.v [32]).v.here (flagD f.v.dict f.c.dict (clearH (flAt f.v.dict f.c.dict))).1 f.v.last (if f.c.on = true then f.v.hand ++ [⟨f.c.xt, f.c.fuel, 0, false⟩] else f.v.hand)) 0, cp0⟩, 0)
def undoD (f : Fo) : Fo :=
 if f.c.xt = 0 then f
 else ⟨upV f.v (storeD f.v.m 8 0).1 f.c.here (cutD f.v.dict f.c.dict).1 f.c.last f.v.hand, cp0⟩
def machL (n : Int) : List Int := [260, 0, 0, n] ++ List.replicate n.toNat 0
structure Gd (v : V) (k : Nat) : Prop where
 ok : Okk v k
 big : 16 ≤ v.m.b.length
 dl : v.dict.length ≤ 1000000
 ni : NameIn v.dict
 hl : v.hand.length ≤ 1000000
theorem Gd.le {v : V} {n k : Nat} (h : Gd v n) (hk : k ≤ n) : Gd v k := ⟨h.ok.le hk, h.big, h.dl, h.ni, h.hl⟩
structure MLay (v x : V) (k : Nat) : Prop where
 bl : x.m.b.length = v.m.b.length
 ol : x.m.old.length ≤ v.m.old.length + k
 ri : RightM v.m → RightM x.m
 h0 : v.here ≤ x.here
 h1 : x.here ≤ v.m.b.length
theorem Lays.ml {v x : V} {k : Nat} (h : Lays v x k) : MLay v x k := ⟨h.bl, h.ol, h.ri, h.h0, h.h1⟩
theorem MLay.trans {v x y : V} {j k : Nat} (h : MLay v x j) (g : MLay x y k) : MLay v y (j + k) :=
 ⟨g.bl.trans h.bl, by have := h.ol; have := g.ol; omega, fun k => g.ri (h.ri k), Int.le_trans h.h0 g.h0, by rw [← h.bl]; exact g.h1⟩
theorem MLay.le {v x : V} {k n : Nat} (h : MLay v x k) (hk : k ≤ n) : MLay v x n := ⟨h.bl, by have := h.ol; omega, h.ri, h.h0, h.h1⟩
theorem MLay.okk {v x : V} {k n : Nat} (h : MLay v x k) (ho : Okk v (n + k)) : Okk x n := by
 have := h.h0
 have := ho.h0
 exact ⟨by rw [h.bl]; exact ho.b, by have := h.ol; have := ho.o; omega, by omega, by rw [h.bl]; exact h.h1⟩
theorem ml_align {v : V} (d : List Wd) (h : Rng v) : MLay v (withMHD v (alignD v.m v.here).1 (alignD v.m v.here).2.1 d) 1 := by
 have c := mlay_ok v.m v.here (List.replicate (Mem.padN v.here) 0) h.h0 h.h1
 exact ⟨c.1, c.2.1, mlay_right _ _, c.2.2.1, c.2.2.2⟩
theorem MLay.rng {v x : V} {k : Nat} (h : MLay v x k) (hr : Rng v) : Rng x := ⟨by have := h.h0; have := hr.h0; omega, by rw [h.bl]; exact h.h1⟩
theorem cellsK_lays {v : V} (l : List Int) (h : Rng v) : Lays v (cellsK v l).v l.length := lays_cells l (w := wk0 v) h
theorem wordR_yes {v : V} {name : Bs} {fl : Int} {l : List Int} (h : (wordR v name fl l).2.2 = 0) (hr : Rng v) :
  (wordR v name fl l).1 = upV v (wordR v name fl l).1.m (wordR v name fl l).1.here (v.dict ++ [⟨name, (wordR v name fl l).2.1, fl⟩]) v.last v.hand ∧ MLay v (wordR v name fl l).1 (1 + l.length) ∧ (wordR v name fl l).2.1 = (alignD v.m v.here).2.1 ∧ Dict.namedD name = 0 ∧ (0 ≤ fl ∧ fl ≤ 7) ∧ (v.dict.length : Int) < v.cf.words ∧ v.dict.length < 1024 ∧ (alignD v.m v.here).2.2 = 0 ∧
  (wordR v name fl l).1 = (cellsK (withMHD v (alignD v.m v.here).1 (alignD v.m v.here).2.1 (v.dict ++ [⟨name, (alignD v.m v.here).2.1, fl⟩])) l).v ∧ (cellsK (withMHD v (alignD v.m v.here).1 (alignD v.m v.here).2.1 (v.dict ++ [⟨name, (alignD v.m v.here).2.1, fl⟩])) l).bad = 0 := by
 have hm := fun d => ml_align (v := v) d hr
 unfold wordR at h ⊢
 by_cases h1 : (alignD v.m v.here).2.2 = 0
 case neg => rw [if_pos h1] at h; exact absurd h h1
 rw [if_neg (fun e => e h1)] at h ⊢
 generalize alignD v.m v.here = a at *
 by_cases h2 : (addD v.dict name a.2.1 fl v.cf.words).2 = 0
 case neg => rw [if_pos h2] at h; exact absurd h h2
 rw [if_neg (fun e => e h2)] at h ⊢
 have hd : addD v.dict name a.2.1 fl v.cf.words = (v.dict ++ [⟨name, a.2.1, fl⟩], 0) ∧ Dict.namedD name = 0 ∧ (0 ≤ fl ∧ fl ≤ 7) ∧ (v.dict.length : Int) < v.cf.words ∧ v.dict.length < 1024 := by
  unfold addD at h2 ⊢
  by_cases g1 : Dict.namedD name = 0
  case neg => rw [if_pos g1] at h2; exact absurd h2 g1
  rw [if_neg (fun e => e g1)] at h2 ⊢
  by_cases g2 : 0 ≤ fl ∧ fl ≤ 7
  case neg => rw [if_pos g2] at h2; exact absurd h2 (by dsimp only; omega)
  rw [if_neg (fun e => e g2)] at h2 ⊢
  by_cases g3 : v.cf.words ≤ v.dict.length ∨ 1024 ≤ v.dict.length
  ·rw [if_pos g3] at h2; exact absurd h2 (by dsimp only; omega)
  ·rw [if_neg g3]
   exact ⟨rfl, g1, g2, by omega, by omega⟩
 rw [hd.1] at h ⊢
 have hm1 := hm (v.dict ++ [⟨name, a.2.1, fl⟩])
 have hl := cellsK_lays l (hm1.rng hr)
 dsimp only at h ⊢
 generalize hx : withMHD v a.1 a.2.1 (v.dict ++ [⟨name, a.2.1, fl⟩]) = x at *
 by_cases h3 : (cellsK x l).bad = 0
 case neg => rw [if_pos h3] at h; exact absurd h h3
 rw [if_neg (fun e => e h3)]
 exact ⟨(hl.eq).trans (by rw [← hx]; rfl), hm1.trans hl.ml, rfl, hd.2.1, hd.2.2.1, hd.2.2.2.1, hd.2.2.2.2, h1, rfl, h3⟩
theorem Gd.rng {v : V} {k : Nat} (h : Gd v k) : Rng v := ⟨h.ok.h0, h.ok.h1⟩
end Go.Proofs.YtfphgelollhdhaaGreat
