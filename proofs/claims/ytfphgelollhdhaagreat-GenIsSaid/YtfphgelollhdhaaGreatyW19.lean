/- yC4, yC5, yC6, yC7, yC8. -/
import Derived.Test.YtfphgelollhdhaaGreatW1
import Derived.Test.YtfphgelollhdhaaGreatW2
import Derived.Test.YtfphgelollhdhaaGreatW3
import Derived.Test.YtfphgelollhdhaaGreatW4
import Derived.Test.YtfphgelollhdhaaGreatyW5
import Derived.Test.YtfphgelollhdhaaGreatyW6
import Derived.Test.YtfphgelollhdhaaGreatyW7
import Derived.Test.YtfphgelollhdhaaGreatyW8
import Derived.Test.YtfphgelollhdhaaGreatyW9
import Derived.Test.YtfphgelollhdhaaGreatyW10
import Derived.Test.YtfphgelollhdhaaGreatyW11
import Derived.Test.YtfphgelollhdhaaGreatyW12
import Derived.Test.YtfphgelollhdhaaGreatyW13
import Derived.Test.YtfphgelollhdhaaGreatyW14
import Derived.Test.YtfphgelollhdhaaGreatyW15
import Derived.Test.YtfphgelollhdhaaGreatyW16
import Derived.Test.YtfphgelollhdhaaGreatyW17
import Derived.Test.YtfphgelollhdhaaGreatyW18
set_option linter.unusedVariables false
set_option linter.unusedSimpArgs false
namespace Go.Proofs.YtfphgelollhdhaaGreat
open Go Go.RowKit
open Go.Proofs.YtfphgelollhdhaaGreat.Dict (St Bs bs_eq Wd encW encWs closed_ws addD flagD cutD encWE findD encFd NameIn)
open Go.Proofs.YtfphgelollhdhaaGreat.Mem (Mm encM encBs closed_bs encP encP_closed closed_m storeD fetchD commaD alignD enc3m enc2m writeD)
open Go.Proofs.YtfphgelollhdhaaGreat.Stk (encS closed_s encI_closed)
set_option maxRecDepth 100000
theorem closeC_zero {b : Int} (h : b = 0) : (b != 0) = false := by simp [h]
theorem closeC_one {b : Int} (h : b ≠ 0) : (b != 0) = true := by simp [h]
attribute [local irreducible] Decidable.decide awp ARun regK toK
end Go.Proofs.YtfphgelollhdhaaGreat
namespace Go.Proofs.YtfphgelollhdhaaGreat
open Go Go.RowKit
open Go.Proofs.YtfphgelollhdhaaGreat.Dict (St Bs bs_eq Wd encW encWs closed_ws addD flagD cutD encWE findD encFd NameIn setFl encW_closed)
open Go.Proofs.YtfphgelollhdhaaGreat.Mem (Mm encM encBs closed_bs encP encP_closed closed_m storeD fetchD commaD alignD enc3m enc2m writeD)
open Go.Proofs.YtfphgelollhdhaaGreat.Stk (encS closed_s encI_closed)
set_option maxRecDepth 100000
theorem clearH_rng {fl : Int} (h : 0 ≤ fl ∧ fl ≤ 7) : 0 ≤ clearH fl ∧ clearH fl ≤ 7 := by unfold clearH; split <;> omega
attribute [local irreducible] Decidable.decide awp ARun regK toK
end Go.Proofs.YtfphgelollhdhaaGreat
namespace Go.Proofs.YtfphgelollhdhaaGreat
open Go Go.RowKit
open Go.Proofs.YtfphgelollhdhaaGreat.Dict (St Bs bs_eq Wd encW encWs closed_ws addD flagD cutD encWE findD encFd NameIn setFl encW_closed)
open Go.Proofs.YtfphgelollhdhaaGreat.Mem (Mm encM encBs closed_bs encP encP_closed closed_m storeD fetchD commaD alignD enc3m enc2m writeD)
open Go.Proofs.YtfphgelollhdhaaGreat.Stk (encS closed_s encI_closed)
set_option maxRecDepth 100000
theorem flag_ok {l : List Wd} {i fl : Int} (h : 0 ≤ i ∧ i < l.length) (hf : 0 ≤ fl ∧ fl ≤ 7) : (flagD l i fl).2 = 0 := by
 unfold flagD
 rw [if_neg (by omega)]
theorem flAt_some {l : List Wd} {i : Int} {w : Wd} (h : l[i.toNat]? = some w) : flAt l i = w.fl := by
 unfold flAt
 rw [h]
attribute [local irreducible] Decidable.decide awp ARun regK toK
end Go.Proofs.YtfphgelollhdhaaGreat
namespace Go.Proofs.YtfphgelollhdhaaGreat
open Go Go.RowKit
open Go.Proofs.YtfphgelollhdhaaGreat.Dict (St Bs bs_eq Wd encW encWs closed_ws addD flagD cutD encWE findD encFd NameIn setFl encW_closed)
open Go.Proofs.YtfphgelollhdhaaGreat.Mem (Mm encM encBs closed_bs encP encP_closed closed_m storeD fetchD commaD alignD enc3m enc2m writeD)
open Go.Proofs.YtfphgelollhdhaaGreat.Stk (encS closed_s encI_closed)
set_option maxRecDepth 100000
attribute [local irreducible] Decidable.decide awp ARun regK toK
end Go.Proofs.YtfphgelollhdhaaGreat
namespace Go.Proofs.YtfphgelollhdhaaGreat
open Go Go.RowKit
open Go.Proofs.YtfphgelollhdhaaGreat.Dict (St Bs bs_eq Wd encW encWs closed_ws addD flagD cutD encWE findD encFd NameIn setFl encW_closed)
open Go.Proofs.YtfphgelollhdhaaGreat.Mem (Mm encM encBs closed_bs encP encP_closed closed_m storeD fetchD commaD alignD enc3m enc2m writeD)
open Go.Proofs.YtfphgelollhdhaaGreat.Stk (encS closed_s encI_closed)
set_option maxRecDepth 100000
def encV3 (r : V × Int × Int) : AV := .tup [.agg (encV r.1), .val (.int .i64 r.2.1), .val (.int .i64 r.2.2)]
attribute [local irreducible] Decidable.decide awp ARun regK toK
theorem ref_state_c (v : V) (n : Int) (hb : v.m.b.length ≤ 1000000) (ho : v.m.old.length ≤ 1000000) : FnC Tryz.prog 46 [.agg (encV v), .val (.int .i64 n)] (.agg (encV (stV v n))) := by
 have c1 := Mem.ref_store_c v.m 8 n hb ho
 simp only [enc2m] at c1
 unfold stV
 generalize storeD v.m 8 n = p at *
 refine goF Tryz.func46 (closedL_cons (closedV v) (closedL_cons (.val _) closedL_nil)) (fun w0 st0 => ?_)
 dsimp only [frOf]
 (repeat' (first | refine goA ?_ | refine cX c1 ?_ | refine goB ?_ | fail))
 exact awp_ret ⟨_, ResL.cons (ResA.agg rfl rfl rfl rfl rfl rfl rfl (RL.allClosed (encV_closed (withMH v p.1 v.here)))) .nil, rfl⟩
set_option maxHeartbeats 8000000 in
theorem ref_word_c (v : V) (name : Bs) (fl : Int) (l : List Int) (hl : l.length ≤ 1000) (h : Okk v (l.length + 1)) (hd : v.dict.length ≤ 1000000) (hn : name.length ≤ 1000000) :
  FnC Tryz.prog 109 [.agg (encV v), St name, .val (.int .i64 fl), encS l] (encV3 (wordR v name fl l)) := by
 have c1 := Mem.ref_align_c v.m v.here h.b (by have := h.o; omega) ⟨h.h0, h.h1⟩
 simp only [enc3m] at c1
 have hr : Rng v := ⟨h.h0, h.h1⟩
 have hm := fun d => ml_align (v := v) d hr
 unfold wordR
 have c3 := Dict.ref_add_c v.dict name (alignD v.m v.here).2.1 fl v.cf.words hd hn
 unfold encWE at c3
 generalize alignD v.m v.here = a at *
 generalize addD v.dict name a.2.1 fl v.cf.words = d at *
 by_cases h1 : a.2.2 = 0
 case neg =>
  have d1 : (a.2.2 != 0) = true := by simp [h1]
  rw [if_pos h1]
  unfold encV3
  refine goF Tryz.func109 (closedL_cons (closedV v) (closedL_cons (.val _) (closedL_cons (.val _) (closedL_cons (closed_s l) closedL_nil)))) (fun w0 st0 => ?_)
  dsimp only [frOf]
  (repeat' (first | refine goA ?_ | refine cX c1 ?_ | refine goB ?_ | fail))
  exact awp_ret ⟨_, ResL.cons (ResA.agg rfl rfl rfl rfl rfl rfl rfl (RL.allClosed (encV_closed _))) (ResL.cons (ResA.tmp (.val _)) (ResL.cons (ResA.tmp (.val _)) .nil)), rfl⟩
 have d1 : (a.2.2 != 0) = false := by simp [h1]
 rw [if_neg (fun e => e h1)]
 by_cases h2 : d.2 = 0
 case neg =>
  have d2 : (d.2 != 0) = true := by simp [h2]
  rw [if_pos h2]
  unfold encV3
  refine goF Tryz.func109 (closedL_cons (closedV v) (closedL_cons (.val _) (closedL_cons (.val _) (closedL_cons (closed_s l) closedL_nil)))) (fun w0 st0 => ?_)
  dsimp only [frOf]
  (repeat' (first | refine goA ?_ | refine cX c1 ?_ | refine cX c3 ?_ | refine goB ?_ | fail))
  exact awp_ret ⟨_, ResL.cons (ResA.agg rfl rfl rfl rfl rfl rfl rfl (RL.allClosed (encV_closed _))) (ResL.cons (ResA.tmp (.val _)) (ResL.cons (ResA.tmp (.val _)) .nil)), rfl⟩
 have d2 : (d.2 != 0) = false := by simp [h2]
 rw [if_neg (fun e => e h2)]
 have c5 := ref_cells_c (withMHD v a.1 a.2.1 d.1) l hl ((hm d.1).okk (h.le (by omega)))
 by_cases h3 : (cellsK (withMHD v a.1 a.2.1 d.1) l).bad = 0
 ·rw [if_neg (fun e => e h3)]
  rw [show outD (cellsK (withMHD v a.1 a.2.1 d.1) l) (withMHD v a.1 a.2.1 d.1) = ((cellsK (withMHD v a.1 a.2.1 d.1) l).v, 0) from if_pos h3] at c5
  generalize (cellsK (withMHD v a.1 a.2.1 d.1) l).v = y at *
  unfold encVE at c5
  unfold encV3
  have z : ((0 : Int) != 0) = false := by simp
  refine goF Tryz.func109 (closedL_cons (closedV v) (closedL_cons (.val _) (closedL_cons (.val _) (closedL_cons (closed_s l) closedL_nil)))) (fun w0 st0 => ?_)
  dsimp only [frOf]
  (repeat' (first | refine goA ?_ | refine cX c1 ?_ | refine cX c3 ?_ | refine cX c5 ?_ | refine goB ?_ | fail))
  exact awp_ret ⟨_, ResL.cons (ResA.agg rfl rfl rfl rfl rfl rfl rfl (RL.allClosed (encV_closed _))) (ResL.cons (ResA.tmp (.val _)) (ResL.cons (ResA.tmp (.val _)) .nil)), rfl⟩
 ·rw [if_pos h3]
  rw [show outD (cellsK (withMHD v a.1 a.2.1 d.1) l) (withMHD v a.1 a.2.1 d.1) = ((withMHD v a.1 a.2.1 d.1), (cellsK (withMHD v a.1 a.2.1 d.1) l).bad) from if_neg h3] at c5
  have d3 : ((cellsK (withMHD v a.1 a.2.1 d.1) l).bad != 0) = true := by simp [h3]
  generalize (cellsK (withMHD v a.1 a.2.1 d.1) l).bad = y at *
  unfold encVE at c5
  unfold encV3
  refine goF Tryz.func109 (closedL_cons (closedV v) (closedL_cons (.val _) (closedL_cons (.val _) (closedL_cons (closed_s l) closedL_nil)))) (fun w0 st0 => ?_)
  dsimp only [frOf]
  (repeat' (first | refine goA ?_ | refine cX c1 ?_ | refine cX c3 ?_ | refine cX c5 ?_ | refine goB ?_ | fail))
  exact awp_ret ⟨_, ResL.cons (ResA.agg rfl rfl rfl rfl rfl rfl rfl (RL.allClosed (encV_closed _))) (ResL.cons (ResA.tmp (.val _)) (ResL.cons (ResA.tmp (.val _)) .nil)), rfl⟩
set_option maxHeartbeats 8000000 in
theorem ref_begin_c (f : Fo) (name : Bs) (on : Bool) (fuel : Int) (h : Gd f.v 100) (hn : name.length ≤ 1000000) : FnC Tryz.prog 82 [.agg (encFo f), St name, .val (.bool on), .val (.int .i64 fuel)] (encFE (beginD f name on fuel)) := by
 unfold beginD
 by_cases hx : f.c.xt = 0
 case neg =>
  have d := closeC_one hx
  rw [if_pos hx]
  unfold encFE
  refine goF Tryz.func82 (closedL_cons (.agg (encFo_closed f)) (closedL_cons (.val _) (closedL_cons (.val _) (closedL_cons (.val _) closedL_nil)))) (fun w0 st0 => ?_)
  dsimp only [frOf]
  (repeat' (first | refine goA ?_ | refine goB ?_ | fail))
  exact awp_ret ⟨_, ResL.cons (ResA.agg rfl rfl rfl rfl rfl rfl rfl (RL.allClosed (encFo_closed _))) (ResL.cons (ResA.tmp (.val _)) .nil), rfl⟩
 have d := closeC_zero hx
 rw [if_neg (fun e => e hx)]
 have e1 : (((f.v.hand.map encHn).length : Nat) : Int) = f.v.hand.length := by rw [List.length_map]
 have e2 : (((f.v.dict.map encW).length : Nat) : Int) = f.v.dict.length := by rw [List.length_map]
 by_cases h1 : on = true ∧ (fuel < 0 ∨ 1048576 < fuel)
 ·rw [if_pos h1]
  obtain ⟨rfl, h1⟩ := h1
  unfold encFE
  by_cases h2 : fuel < 0
  ·have d1 : decide (fuel < 0) = true := decide_eq_true h2
   refine goF Tryz.func82 (closedL_cons (.agg (encFo_closed f)) (closedL_cons (.val _) (closedL_cons (.val _) (closedL_cons (.val _) closedL_nil)))) (fun w0 st0 => ?_)
   dsimp only [frOf]
   (repeat' (first | refine goA ?_ | refine goB ?_ | fail))
   exact awp_ret ⟨_, ResL.cons (ResA.agg rfl rfl rfl rfl rfl rfl rfl (RL.allClosed (encFo_closed _))) (ResL.cons (ResA.tmp (.val _)) .nil), rfl⟩
  ·have d1 : decide (fuel < 0) = false := decide_eq_false h2
   have d2 : decide (1048576 < fuel) = true := decide_eq_true (by omega)
   refine goF Tryz.func82 (closedL_cons (.agg (encFo_closed f)) (closedL_cons (.val _) (closedL_cons (.val _) (closedL_cons (.val _) closedL_nil)))) (fun w0 st0 => ?_)
   dsimp only [frOf]
   (repeat' (first | refine goA ?_ | refine goB ?_ | fail))
   exact awp_ret ⟨_, ResL.cons (ResA.agg rfl rfl rfl rfl rfl rfl rfl (RL.allClosed (encFo_closed _))) (ResL.cons (ResA.tmp (.val _)) .nil), rfl⟩
 rw [if_neg h1]
 by_cases h2 : on = true ∧ 64 ≤ f.v.hand.length
 ·rw [if_pos h2]
  obtain ⟨rfl, h2⟩ := h2
  have d1 : decide (fuel < 0) = false := decide_eq_false (fun e => h1 ⟨rfl, .inl e⟩)
  have d2 : decide (1048576 < fuel) = false := decide_eq_false (fun e => h1 ⟨rfl, .inr e⟩)
  have d3 : decide ((64 : Int) ≤ ((f.v.hand.map encHn).length : Nat)) = true := decide_eq_true (by omega)
  unfold encFE
  refine goF Tryz.func82 (closedL_cons (.agg (encFo_closed f)) (closedL_cons (.val _) (closedL_cons (.val _) (closedL_cons (.val _) closedL_nil)))) (fun w0 st0 => ?_)
  dsimp only [frOf]
  (repeat' (first | refine goA ?_ | refine goB ?_ | fail))
  exact awp_ret ⟨_, ResL.cons (ResA.agg rfl rfl rfl rfl rfl rfl rfl (RL.allClosed (encFo_closed _))) (ResL.cons (ResA.tmp (.val _)) .nil), rfl⟩
 rw [if_neg h2]
 have cw := ref_word_c f.v name 2 [256] (by decide) (h.ok.le (by decide)) h.dl hn
 have hbl : (wordR f.v name 2 [256]).2.2 = 0 → (wordR f.v name 2 [256]).1.m.b.length ≤ 1000000 ∧ (wordR f.v name 2 [256]).1.m.old.length ≤ 1000000 := fun e => by
  have hm := (wordR_yes e h.rng).2.1
  have ho := h.ok.o
  have hl := h.ok.b
  have h1 := hm.bl
  have h2 := hm.ol
  simp only [List.length_cons, List.length_nil] at h2
  omega
 generalize wordR f.v name 2 [256] = r at *
 unfold encV3 at cw
 by_cases h3 : r.2.2 = 0
 ·have d4 : (r.2.2 != 0) = false := by simp [h3]
  rw [if_neg (fun e => e h3), ← e2]
  obtain ⟨k1, k2⟩ := hbl h3
  have c4 := ref_state_c r.1 (-1) k1 k2
  generalize stV r.1 (-1) = v1 at *
  unfold encFE
  cases on with
  | false =>
   refine goF Tryz.func82 (closedL_cons (.agg (encFo_closed f)) (closedL_cons (.val _) (closedL_cons (.val _) (closedL_cons (.val _) closedL_nil)))) (fun w0 st0 => ?_)
   dsimp only [frOf]
   (repeat' (first | refine goA ?_ | refine callW (cw) rfl wkT rfl rfl ?_ | refine cX c4 ?_ | refine goB ?_ | fail))
   exact awp_ret ⟨_, ResL.cons (ResA.agg rfl rfl rfl rfl rfl rfl rfl reuT) (ResL.cons (ResA.tmp (.val _)) .nil), rfl⟩
  | true =>
   have d1 : decide (fuel < 0) = false := decide_eq_false (fun e => h1 ⟨rfl, .inl e⟩)
   have d2 : decide (1048576 < fuel) = false := decide_eq_false (fun e => h1 ⟨rfl, .inr e⟩)
   have d3 : decide ((64 : Int) ≤ ((f.v.hand.map encHn).length : Nat)) = false := decide_eq_false (fun e => h2 ⟨rfl, by omega⟩)
   refine goF Tryz.func82 (closedL_cons (.agg (encFo_closed f)) (closedL_cons (.val _) (closedL_cons (.val _) (closedL_cons (.val _) closedL_nil)))) (fun w0 st0 => ?_)
   dsimp only [frOf]
   (repeat' (first | refine goA ?_ | refine callW (cw) rfl wkT rfl rfl ?_ | refine cX c4 ?_ | refine goB ?_ | fail))
   exact awp_ret ⟨_, ResL.cons (ResA.agg rfl rfl rfl rfl rfl rfl rfl reuT) (ResL.cons (ResA.tmp (.val _)) .nil), rfl⟩
 ·have d4 : (r.2.2 != 0) = true := by simp [h3]
  rw [if_pos h3]
  unfold encFE
  cases on with
  | false =>
   refine goF Tryz.func82 (closedL_cons (.agg (encFo_closed f)) (closedL_cons (.val _) (closedL_cons (.val _) (closedL_cons (.val _) closedL_nil)))) (fun w0 st0 => ?_)
   dsimp only [frOf]
   (repeat' (first | refine goA ?_ | refine callW (cw) rfl wkT rfl rfl ?_ | refine goB ?_ | fail))
   exact awp_ret ⟨_, ResL.cons (ResA.agg rfl rfl rfl rfl rfl rfl rfl (RL.allClosed (encFo_closed _))) (ResL.cons (ResA.tmp (.val _)) .nil), rfl⟩
  | true =>
   have d1 : decide (fuel < 0) = false := decide_eq_false (fun e => h1 ⟨rfl, .inl e⟩)
   have d2 : decide (1048576 < fuel) = false := decide_eq_false (fun e => h1 ⟨rfl, .inr e⟩)
   have d3 : decide ((64 : Int) ≤ ((f.v.hand.map encHn).length : Nat)) = false := decide_eq_false (fun e => h2 ⟨rfl, by omega⟩)
   refine goF Tryz.func82 (closedL_cons (.agg (encFo_closed f)) (closedL_cons (.val _) (closedL_cons (.val _) (closedL_cons (.val _) closedL_nil)))) (fun w0 st0 => ?_)
   dsimp only [frOf]
   (repeat' (first | refine goA ?_ | refine callW (cw) rfl wkT rfl rfl ?_ | refine goB ?_ | fail))
   exact awp_ret ⟨_, ResL.cons (ResA.agg rfl rfl rfl rfl rfl rfl rfl (RL.allClosed (encFo_closed _))) (ResL.cons (ResA.tmp (.val _)) .nil), rfl⟩
set_option maxHeartbeats 8000000 in
theorem ref_undo_c (f : Fo) (h : Gd f.v 10) : FnC Tryz.prog 16 [.agg (encFo f)] (.agg (encFo (undoD f))) := by
 unfold undoD
 by_cases hx : f.c.xt = 0
 ·have d : (f.c.xt == 0) = true := beq_iff_eq.2 hx
  rw [if_pos hx]
  refine goF Tryz.func16 (closedL_cons (.agg (encFo_closed f)) closedL_nil) (fun w0 st0 => ?_)
  dsimp only [frOf]
  (repeat' (first | refine goA ?_ | refine goB ?_ | fail))
  exact awp_ret ⟨_, ResL.cons (ResA.agg rfl rfl rfl rfl rfl rfl rfl (RL.allClosed (encFo_closed _))) .nil, rfl⟩
 have d : (f.c.xt == 0) = false := beq_eq_false_iff_ne.2 hx
 rw [if_neg hx]
 have c4 := ref_state_c f.v 0 h.ok.b (by have := h.ok.o; omega)
 have c5 := Dict.ref_cut_c f.v.dict f.c.dict h.dl
 unfold encWE at c5
 unfold stV at c4
 generalize storeD f.v.m 8 0 = s at *
 generalize cutD f.v.dict f.c.dict = d at *
 refine goF Tryz.func16 (closedL_cons (.agg (encFo_closed f)) closedL_nil) (fun w0 st0 => ?_)
 dsimp only [frOf]
 (repeat' (first | refine goA ?_ | refine cX c4 ?_ | refine cX c5 ?_ | refine goB ?_ | fail))
 exact awp_ret ⟨_, ResL.cons (ResA.agg rfl rfl rfl rfl rfl rfl rfl reuT) .nil, rfl⟩
end Go.Proofs.YtfphgelollhdhaaGreat
