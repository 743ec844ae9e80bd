/- kC4, kC5, kC6, kC7, kC8. -/
import Derived.Test.YthlbcakjngcjbaaGreatW1
import Derived.Test.YthlbcakjngcjbaaGreatW2
import Derived.Test.YthlbcakjngcjbaaGreatW3
import Derived.Test.YthlbcakjngcjbaaGreatW4
import Derived.Test.YthlbcakjngcjbaaGreatkW5
import Derived.Test.YthlbcakjngcjbaaGreatkW6
import Derived.Test.YthlbcakjngcjbaaGreatkW7
import Derived.Test.YthlbcakjngcjbaaGreatkW8
import Derived.Test.YthlbcakjngcjbaaGreatkW9
import Derived.Test.YthlbcakjngcjbaaGreatkW10
import Derived.Test.YthlbcakjngcjbaaGreatkW11
import Derived.Test.YthlbcakjngcjbaaGreatkW12
import Derived.Test.YthlbcakjngcjbaaGreatkW13
import Derived.Test.YthlbcakjngcjbaaGreatkW14
import Derived.Test.YthlbcakjngcjbaaGreatkW15
import Derived.Test.YthlbcakjngcjbaaGreatkW16
import Derived.Test.YthlbcakjngcjbaaGreatkW17
import Derived.Test.YthlbcakjngcjbaaGreatkW18
set_option linter.unusedVariables false
set_option linter.unusedSimpArgs false
namespace Go.Proofs.YthlbcakjngcjbaaGreat
open Go Go.RowKit
open Go.Proofs.YthlbcakjngcjbaaGreat.Dict (St Bs bs_eq Wd encW encWs closed_ws addD flagD cutD encWE findD encFd NameIn)
open Go.Proofs.YthlbcakjngcjbaaGreat.Mem (Mm encM encBs closed_bs encP encP_closed closed_m storeD fetchD commaD alignD enc3m enc2m writeD)
open Go.Proofs.YthlbcakjngcjbaaGreat.Stk (encS closed_s encI_closed)
set_option maxRecDepth 100000
theorem closeC_zero {b : Int} (h : b = 0) : (b != 0) = false := by simp [h]
theorem closeC_one {b : Int} (h : b ≠ 0) : (b != 0) = true := by simp [h]
theorem doneC_bad {f g : Fo} {b : Int} (h : b ≠ 0) : doneC ⟨g, b⟩ f = (f, b) := if_pos h
theorem doneC_ok {f g : Fo} : doneC ⟨g, 0⟩ f = (g, 0) := if_neg (fun e => e rfl)
theorem ok_bad (f : Fo) {b : Int} (e : Int) (h : b ≠ 0) : okC ⟨f, b⟩ e = ⟨f, b⟩ := by unfold okC; rw [okB_1 _ h]
theorem ok_zero (f : Fo) (e : Int) : okC ⟨f, 0⟩ e = ⟨f, e⟩ := by unfold okC; rw [okB_0 _ rfl]
theorem state_ok {f : Fo} (n : Int) (h : 16 ≤ f.v.m.b.length) : stateC ⟨f, 0⟩ n = ⟨⟨stV f.v n, f.c⟩, 0⟩ := by
 unfold stateC
 rw [store8 n h, ok_zero]
 rfl
theorem state_bad {f : Fo} {b : Int} (n : Int) (h : b ≠ 0) : ∃ g, stateC ⟨f, b⟩ n = ⟨g, b⟩ := by
 unfold stateC
 exact ⟨_, ok_bad _ _ h⟩
attribute [local irreducible] Decidable.decide awp ARun regK toK
set_option maxHeartbeats 8000000 in
theorem beginBad_c (f : Fo) (name : Bs) (on : Bool) (fuel : Int) (h : f.c.xt ≠ 0) : FnC Tryz.prog 17 [.agg (encFo f), St name, .val (.bool on), .val (.int .i64 fuel)] (encFE (f, -29)) := by
 have cb := begin_n f
 rw [show beginC f = ⟨f, -29⟩ by unfold beginC; rw [if_pos h]] at cb
 have c1 := okW_l ⟨f, -29⟩ (-24)
 have c2 := okW_l ⟨f, -29⟩ (-8)
 rw [ok_bad f _ (by decide)] at c1 c2
 have c3 := doneW_l ⟨f, -29⟩ f
 rw [doneC_bad (by decide)] at c3
 unfold encFE at c3 ⊢
 have z : ((-29 : Int) != 0) = true := by simp
 cases on with
 | false =>
  refine goF Tryz.func17 (closedL_cons (.agg (encFo_closed f)) (closedL_cons (.val _) (closedL_cons (.val _) (closedL_cons (.val _) closedL_nil)))) (fun w0 st0 => ?_)
  dsimp only [frOf]
  (repeat' (first | refine goA ?_ | refine ARun.callN (n := 31) cb rfl rfl rfl rfl rfl (guardF_spec rfl) ?_ | refine ARun.nilCheckP rfl rfl (guardF_spec rfl) ?_ | refine callK 13 4 31 (encCw ⟨f, -29⟩) (encCw ⟨f, -29⟩) (c3) (encCw_closed _) (encCw_closed _) (RelL.cons (.ptr (j := 0) 0 0 rfl) (RelL.cons (.wk (by first | exact .same _ | exact .weak _ _ _ | exact .nilSl) (by first | exact .val _ | exact closed_s _ | exact .agg (encFo_closed _) | exact closedLCf _)) (RelL.nil _))) smT ?_ | refine goB ?_ | fail))
  exact awp_ret ⟨_, ResL.cons (ResA.agg rfl rfl rfl rfl rfl rfl rfl (RL.allClosed (encFo_closed _))) (ResL.cons (ResA.tmp (.val _)) .nil), rfl⟩
 | true =>
  have e1 : (((f.v.hand.map encHn).length : Nat) : Int) = f.v.hand.length := by rw [List.length_map]
  by_cases h1 : fuel < 0
  ·have d1 : decide (fuel < 0) = true := decide_eq_true h1
   refine goF Tryz.func17 (closedL_cons (.agg (encFo_closed f)) (closedL_cons (.val _) (closedL_cons (.val _) (closedL_cons (.val _) closedL_nil)))) (fun w0 st0 => ?_)
   dsimp only [frOf]
   (repeat' (first | refine goA ?_ | refine ARun.callN (n := 31) cb rfl rfl rfl rfl rfl (guardF_spec rfl) ?_ | refine ARun.nilCheckP rfl rfl (guardF_spec rfl) ?_ | refine callK 13 4 31 (encCw ⟨f, -29⟩) (encCw ⟨f, -29⟩) (c1) (encCw_closed _) (encCw_closed _) (RelL.cons (.ptr (j := 0) 0 30 rfl) (RelL.cons (.wk (.same _) (.val _)) (RelL.nil _))) smT ?_ | refine callK 13 4 31 (encCw ⟨f, -29⟩) (encCw ⟨f, -29⟩) (c3) (encCw_closed _) (encCw_closed _) (RelL.cons (.ptr (j := 0) 0 0 rfl) (RelL.cons (.wk (by first | exact .same _ | exact .weak _ _ _ | exact .nilSl) (by first | exact .val _ | exact closed_s _ | exact .agg (encFo_closed _) | exact closedLCf _)) (RelL.nil _))) smT ?_ | refine goB ?_ | fail))
   exact awp_ret ⟨_, ResL.cons (ResA.agg rfl rfl rfl rfl rfl rfl rfl (RL.allClosed (encFo_closed _))) (ResL.cons (ResA.tmp (.val _)) .nil), rfl⟩
  have d1 : decide (fuel < 0) = false := decide_eq_false h1
  by_cases h2 : 1048576 < fuel
  ·have d2 : decide (1048576 < fuel) = true := decide_eq_true h2
   refine goF Tryz.func17 (closedL_cons (.agg (encFo_closed f)) (closedL_cons (.val _) (closedL_cons (.val _) (closedL_cons (.val _) closedL_nil)))) (fun w0 st0 => ?_)
   dsimp only [frOf]
   (repeat' (first | refine goA ?_ | refine ARun.callN (n := 31) cb rfl rfl rfl rfl rfl (guardF_spec rfl) ?_ | refine ARun.nilCheckP rfl rfl (guardF_spec rfl) ?_ | refine callK 13 4 31 (encCw ⟨f, -29⟩) (encCw ⟨f, -29⟩) (c1) (encCw_closed _) (encCw_closed _) (RelL.cons (.ptr (j := 0) 0 30 rfl) (RelL.cons (.wk (.same _) (.val _)) (RelL.nil _))) smT ?_ | refine callK 13 4 31 (encCw ⟨f, -29⟩) (encCw ⟨f, -29⟩) (c3) (encCw_closed _) (encCw_closed _) (RelL.cons (.ptr (j := 0) 0 0 rfl) (RelL.cons (.wk (by first | exact .same _ | exact .weak _ _ _ | exact .nilSl) (by first | exact .val _ | exact closed_s _ | exact .agg (encFo_closed _) | exact closedLCf _)) (RelL.nil _))) smT ?_ | refine goB ?_ | fail))
   exact awp_ret ⟨_, ResL.cons (ResA.agg rfl rfl rfl rfl rfl rfl rfl (RL.allClosed (encFo_closed _))) (ResL.cons (ResA.tmp (.val _)) .nil), rfl⟩
  have d2 : decide (1048576 < fuel) = false := decide_eq_false h2
  by_cases h3 : 64 ≤ f.v.hand.length
  ·have d3 : decide ((64 : Int) ≤ ((f.v.hand.map encHn).length : Nat)) = true := decide_eq_true (by omega)
   refine goF Tryz.func17 (closedL_cons (.agg (encFo_closed f)) (closedL_cons (.val _) (closedL_cons (.val _) (closedL_cons (.val _) closedL_nil)))) (fun w0 st0 => ?_)
   dsimp only [frOf]
   (repeat' (first | refine goA ?_ | refine ARun.callN (n := 31) cb rfl rfl rfl rfl rfl (guardF_spec rfl) ?_ | refine ARun.nilCheckP rfl rfl (guardF_spec rfl) ?_ | refine callK 13 4 31 (encCw ⟨f, -29⟩) (encCw ⟨f, -29⟩) (c2) (encCw_closed _) (encCw_closed _) (RelL.cons (.ptr (j := 0) 0 30 rfl) (RelL.cons (.wk (.same _) (.val _)) (RelL.nil _))) smT ?_ | refine callK 13 4 31 (encCw ⟨f, -29⟩) (encCw ⟨f, -29⟩) (c3) (encCw_closed _) (encCw_closed _) (RelL.cons (.ptr (j := 0) 0 0 rfl) (RelL.cons (.wk (by first | exact .same _ | exact .weak _ _ _ | exact .nilSl) (by first | exact .val _ | exact closed_s _ | exact .agg (encFo_closed _) | exact closedLCf _)) (RelL.nil _))) smT ?_ | refine goB ?_ | fail))
   exact awp_ret ⟨_, ResL.cons (ResA.agg rfl rfl rfl rfl rfl rfl rfl (RL.allClosed (encFo_closed _))) (ResL.cons (ResA.tmp (.val _)) .nil), rfl⟩
  ·have d3 : decide ((64 : Int) ≤ ((f.v.hand.map encHn).length : Nat)) = false := decide_eq_false (by omega)
   refine goF Tryz.func17 (closedL_cons (.agg (encFo_closed f)) (closedL_cons (.val _) (closedL_cons (.val _) (closedL_cons (.val _) closedL_nil)))) (fun w0 st0 => ?_)
   dsimp only [frOf]
   (repeat' (first | refine goA ?_ | refine ARun.callN (n := 31) cb rfl rfl rfl rfl rfl (guardF_spec rfl) ?_ | refine ARun.nilCheckP rfl rfl (guardF_spec rfl) ?_ | refine callK 13 4 31 (encCw ⟨f, -29⟩) (encCw ⟨f, -29⟩) (c3) (encCw_closed _) (encCw_closed _) (RelL.cons (.ptr (j := 0) 0 0 rfl) (RelL.cons (.wk (by first | exact .same _ | exact .weak _ _ _ | exact .nilSl) (by first | exact .val _ | exact closed_s _ | exact .agg (encFo_closed _) | exact closedLCf _)) (RelL.nil _))) smT ?_ | refine goB ?_ | fail))
   exact awp_ret ⟨_, ResL.cons (ResA.agg rfl rfl rfl rfl rfl rfl rfl (RL.allClosed (encFo_closed _))) (ResL.cons (ResA.tmp (.val _)) .nil), rfl⟩
set_option maxHeartbeats 8000000 in
theorem beginW_c (f : Fo) (name : Bs) (on : Bool) (fuel : Int) (h : Gd f.v 100) (hn : name.length ≤ 1000000) : FnC Tryz.prog 17 [.agg (encFo f), St name, .val (.bool on), .val (.int .i64 fuel)] (encFE (beginD f name on fuel)) := by
 by_cases hx : f.c.xt = 0
 case neg =>
  rw [show beginD f name on fuel = (f, -29) from if_pos hx]
  exact beginBad_c f name on fuel hx
 unfold beginD
 rw [if_neg (fun e => e hx)]
 have cb := begin_n f
 rw [show beginC f = ⟨f, 0⟩ by unfold beginC; rw [if_neg (fun e => e hx)]] at cb
 have e1 : (((f.v.hand.map encHn).length : Nat) : Int) = f.v.hand.length := by rw [List.length_map]
 have e2 : (((f.v.dict.map encW).length : Nat) : Int) = f.v.dict.length := by rw [List.length_map]
 have z : ((0 : Int) != 0) = false := by simp
 by_cases h1 : on = true ∧ (fuel < 0 ∨ 1048576 < fuel)
 ·rw [if_pos h1]
  obtain ⟨rfl, h1⟩ := h1
  have c1 := okW_l ⟨f, 0⟩ (-24)
  rw [ok_zero] at c1
  have c3 := doneW_l ⟨f, -24⟩ f
  rw [doneC_bad (by decide)] at c3
  unfold encFE at c3 ⊢
  have z1 : ((-24 : Int) != 0) = true := by simp
  by_cases h2 : fuel < 0
  ·have d1 : decide (fuel < 0) = true := decide_eq_true h2
   refine goF Tryz.func17 (closedL_cons (.agg (encFo_closed f)) (closedL_cons (.val _) (closedL_cons (.val _) (closedL_cons (.val _) closedL_nil)))) (fun w0 st0 => ?_)
   dsimp only [frOf]
   (repeat' (first | refine goA ?_ | refine ARun.callN (n := 31) cb rfl rfl rfl rfl rfl (guardF_spec rfl) ?_ | refine ARun.nilCheckP rfl rfl (guardF_spec rfl) ?_ | refine callK 13 4 31 (encCw ⟨f, 0⟩) (encCw ⟨f, -24⟩) (c1) (encCw_closed _) (encCw_closed _) (RelL.cons (.ptr (j := 0) 0 30 rfl) (RelL.cons (.wk (.same _) (.val _)) (RelL.nil _))) smT ?_ | refine callK 13 4 31 (encCw ⟨f, -24⟩) (encCw ⟨f, -24⟩) (c3) (encCw_closed _) (encCw_closed _) (RelL.cons (.ptr (j := 0) 0 0 rfl) (RelL.cons (.wk (by first | exact .same _ | exact .weak _ _ _ | exact .nilSl) (by first | exact .val _ | exact closed_s _ | exact .agg (encFo_closed _) | exact closedLCf _)) (RelL.nil _))) smT ?_ | refine goB ?_ | fail))
   exact awp_ret ⟨_, ResL.cons (ResA.agg rfl rfl rfl rfl rfl rfl rfl (RL.allClosed (encFo_closed _))) (ResL.cons (ResA.tmp (.val _)) .nil), rfl⟩
  ·have d1 : decide (fuel < 0) = false := decide_eq_false h2
   have d2 : decide (1048576 < fuel) = true := decide_eq_true (by omega)
   refine goF Tryz.func17 (closedL_cons (.agg (encFo_closed f)) (closedL_cons (.val _) (closedL_cons (.val _) (closedL_cons (.val _) closedL_nil)))) (fun w0 st0 => ?_)
   dsimp only [frOf]
   (repeat' (first | refine goA ?_ | refine ARun.callN (n := 31) cb rfl rfl rfl rfl rfl (guardF_spec rfl) ?_ | refine ARun.nilCheckP rfl rfl (guardF_spec rfl) ?_ | refine callK 13 4 31 (encCw ⟨f, 0⟩) (encCw ⟨f, -24⟩) (c1) (encCw_closed _) (encCw_closed _) (RelL.cons (.ptr (j := 0) 0 30 rfl) (RelL.cons (.wk (.same _) (.val _)) (RelL.nil _))) smT ?_ | refine callK 13 4 31 (encCw ⟨f, -24⟩) (encCw ⟨f, -24⟩) (c3) (encCw_closed _) (encCw_closed _) (RelL.cons (.ptr (j := 0) 0 0 rfl) (RelL.cons (.wk (by first | exact .same _ | exact .weak _ _ _ | exact .nilSl) (by first | exact .val _ | exact closed_s _ | exact .agg (encFo_closed _) | exact closedLCf _)) (RelL.nil _))) smT ?_ | refine goB ?_ | fail))
   exact awp_ret ⟨_, ResL.cons (ResA.agg rfl rfl rfl rfl rfl rfl rfl (RL.allClosed (encFo_closed _))) (ResL.cons (ResA.tmp (.val _)) .nil), rfl⟩
 rw [if_neg h1]
 by_cases h2 : on = true ∧ 64 ≤ f.v.hand.length
 ·rw [if_pos h2]
  obtain ⟨rfl, h2⟩ := h2
  have d1 : decide (fuel < 0) = false := decide_eq_false (fun e => h1 ⟨rfl, .inl e⟩)
  have d2 : decide (1048576 < fuel) = false := decide_eq_false (fun e => h1 ⟨rfl, .inr e⟩)
  have d3 : decide ((64 : Int) ≤ ((f.v.hand.map encHn).length : Nat)) = true := decide_eq_true (by omega)
  have c1 := okW_l ⟨f, 0⟩ (-8)
  rw [ok_zero] at c1
  have c3 := doneW_l ⟨f, -8⟩ f
  rw [doneC_bad (by decide)] at c3
  unfold encFE at c3 ⊢
  have z1 : ((-8 : Int) != 0) = true := by simp
  refine goF Tryz.func17 (closedL_cons (.agg (encFo_closed f)) (closedL_cons (.val _) (closedL_cons (.val _) (closedL_cons (.val _) closedL_nil)))) (fun w0 st0 => ?_)
  dsimp only [frOf]
  (repeat' (first | refine goA ?_ | refine ARun.callN (n := 31) cb rfl rfl rfl rfl rfl (guardF_spec rfl) ?_ | refine ARun.nilCheckP rfl rfl (guardF_spec rfl) ?_ | refine callK 13 4 31 (encCw ⟨f, 0⟩) (encCw ⟨f, -8⟩) (c1) (encCw_closed _) (encCw_closed _) (RelL.cons (.ptr (j := 0) 0 30 rfl) (RelL.cons (.wk (.same _) (.val _)) (RelL.nil _))) smT ?_ | refine callK 13 4 31 (encCw ⟨f, -8⟩) (encCw ⟨f, -8⟩) (c3) (encCw_closed _) (encCw_closed _) (RelL.cons (.ptr (j := 0) 0 0 rfl) (RelL.cons (.wk (by first | exact .same _ | exact .weak _ _ _ | exact .nilSl) (by first | exact .val _ | exact closed_s _ | exact .agg (encFo_closed _) | exact closedLCf _)) (RelL.nil _))) smT ?_ | refine goB ?_ | fail))
  exact awp_ret ⟨_, ResL.cons (ResA.agg rfl rfl rfl rfl rfl rfl rfl (RL.allClosed (encFo_closed _))) (ResL.cons (ResA.tmp (.val _)) .nil), rfl⟩
 rw [if_neg h2]
 have hr := word_rel f name 2 [256]
 have cw := wordW_l ⟨f, 0⟩ name 2 [256] (by decide) (h.ok.le (by decide)) h.dl hn (by decide)
 have hbl : (wordR f.v name 2 [256]).2.2 = 0 → 16 ≤ (wordR f.v name 2 [256]).1.m.b.length ∧ (wordR f.v name 2 [256]).1.m.b.length ≤ 1000000 ∧ (wordR f.v name 2 [256]).1.m.old.length ≤ 1000000 := fun e => by
  have hm := (wordR_yes e h.rng).2.1
  have hb := h.big
  have ho := h.ok.o
  have hl := h.ok.b
  have h1 := hm.bl
  have h2 := hm.ol
  simp only [List.length_cons, List.length_nil] at h2
  omega
 have okw : Okk (wordC ⟨f, 0⟩ name 2 [256]).f.v 50 := okk_cells [256] (okk_lay (w := ⟨f, 0⟩) name 2 (h.ok.le (by decide)))
 dsimp only at cw
 generalize (alignD f.v.m f.v.here).2.1 = xt at *
 generalize wordR f.v name 2 [256] = r at *
 generalize wordC ⟨f, 0⟩ name 2 [256] = w at *
 by_cases h3 : r.2.2 = 0
 ·obtain ⟨k1, k2, k3⟩ := hbl h3
  obtain ⟨e3, e4⟩ := hr.2 h3
  subst e3
  subst e4
  rw [if_neg (fun e => e h3)]
  have c4 := stateW_l ⟨⟨r.1, f.c⟩, 0⟩ (-1) k2 k3
  rw [state_ok (f := ⟨r.1, f.c⟩) (-1) k1] at c4
  generalize stV r.1 (-1) = v1 at *
  have main : ∀ fu : Int, (on = true → fu = fuel) → (on = false → fu = 0) → FnC Tryz.prog 17 [.agg (encFo f), St name, .val (.bool on), .val (.int .i64 fuel)] (encFE (⟨v1, ⟨r.2.1, [], f.v.here, f.v.dict.length, f.v.last, on, fu⟩⟩, 0)) := fun fu hf1 hf2 => by
   have c3 := doneW_l ⟨⟨v1, ⟨r.2.1, [], f.v.here, f.v.dict.length, f.v.last, on, fu⟩⟩, 0⟩ f
   rw [doneC_ok, ← e2] at c3
   rw [← e2]
   have hcl := encFo_closed ⟨v1, ⟨r.2.1, [], f.v.here, (((f.v.dict.map encW).length : Nat) : Int), f.v.last, on, fu⟩⟩
   unfold encFE at c3 ⊢
   cases on with
   | false =>
    obtain rfl := hf2 rfl
    refine goF Tryz.func17 (closedL_cons (.agg (encFo_closed f)) (closedL_cons (.val _) (closedL_cons (.val _) (closedL_cons (.val _) closedL_nil)))) (fun w0 st0 => ?_)
    dsimp only [frOf]
    (repeat' (first | refine goN ?_ | refine awp_region_ne 13 rfl (fun _ => hmix) ?_ | refine ARun.o rfl ?_ | refine ARun.callN (n := 31) cb rfl rfl rfl rfl rfl (guardF_spec rfl) ?_ | refine ARun.nilCheckP rfl rfl (guardF_spec rfl) ?_ | refine callK 13 4 31 (encCw ⟨f, 0⟩) (encCw ⟨⟨r.1, f.c⟩, 0⟩) (cw) (encCw_closed _) (encCw_closed _) (RelL.cons (.ptr (j := 0) 0 0 rfl) (RelL.cons (.wk (by first | exact .same _ | exact .weak _ _ _ | exact .nilSl) (by first | exact .val _ | exact closed_s _ | exact .agg (encFo_closed _) | exact closedLCf _)) (RelL.cons (.wk (by first | exact .same _ | exact .weak _ _ _ | exact .nilSl) (by first | exact .val _ | exact closed_s _ | exact .agg (encFo_closed _) | exact closedLCf _)) (RelL.cons (.wk (by first | exact .same _ | exact .weak _ _ _ | exact .nilSl) (by first | exact .val _ | exact closed_s _ | exact .agg (encFo_closed _) | exact closedLCf _)) (RelL.nil _))))) smT ?_ | refine callK 13 4 31 (encCw ⟨⟨r.1, f.c⟩, 0⟩) (encCw ⟨⟨v1, f.c⟩, 0⟩) (c4) (encCw_closed _) (encCw_closed _) (RelL.cons (.ptr (j := 0) 0 0 rfl) (RelL.cons (.wk (.same _) (.val _)) (RelL.nil _))) smT ?_ | refine goB ?_ | ((fail_if_success refine ARun.plain rfl ?_); refine ARun.fork rfl rfl rfl (fun h => ?_) (fun h => ?_)) | refine awp_cond rfl (fun h => ?_) (fun h => ?_)))
    refine awp_wkH 13 [encCw ⟨⟨v1, ⟨r.2.1, [], f.v.here, (((f.v.dict.map encW).length : Nat) : Int), f.v.last, false, 0⟩⟩, 0⟩] rfl rfl (RelR.cons (by repeat' (first | exact RelL.nil _ | refine RelL.cons (by first | exact .same _ | exact Wk.nilSl) ?_)) (RelR.nil _)) ?_
    (repeat' (first | refine goA ?_ | refine callK 13 4 31 (encCw ⟨⟨v1, ⟨r.2.1, [], f.v.here, (((f.v.dict.map encW).length : Nat) : Int), f.v.last, false, 0⟩⟩, 0⟩) (encCw ⟨⟨v1, ⟨r.2.1, [], f.v.here, (((f.v.dict.map encW).length : Nat) : Int), f.v.last, false, 0⟩⟩, 0⟩) (c3) (encCw_closed _) (encCw_closed _) (RelL.cons (.ptr (j := 0) 0 0 rfl) (RelL.cons (.wk (by first | exact .same _ | exact .weak _ _ _ | exact .nilSl) (by first | exact .val _ | exact closed_s _ | exact .agg (encFo_closed _) | exact closedLCf _)) (RelL.nil _))) smT ?_ | refine goB ?_ | fail))
    exact awp_ret ⟨_, ResL.cons (ResA.agg rfl rfl rfl rfl rfl rfl rfl (RL.allClosed hcl)) (ResL.cons (ResA.tmp (.val _)) .nil), rfl⟩
   | true =>
    obtain rfl := hf1 rfl
    have d1 : decide (fu < 0) = false := decide_eq_false (fun e => h1 ⟨rfl, .inl e⟩)
    have d2 : decide (1048576 < fu) = false := decide_eq_false (fun e => h1 ⟨rfl, .inr e⟩)
    have d3 : decide ((64 : Int) ≤ ((f.v.hand.map encHn).length : Nat)) = false := decide_eq_false (fun e => h2 ⟨rfl, by omega⟩)
    refine goF Tryz.func17 (closedL_cons (.agg (encFo_closed f)) (closedL_cons (.val _) (closedL_cons (.val _) (closedL_cons (.val _) closedL_nil)))) (fun w0 st0 => ?_)
    dsimp only [frOf]
    (repeat' (first | refine goN ?_ | refine awp_region_ne 13 rfl (fun _ => hmix) ?_ | refine ARun.o rfl ?_ | refine ARun.callN (n := 31) cb rfl rfl rfl rfl rfl (guardF_spec rfl) ?_ | refine ARun.nilCheckP rfl rfl (guardF_spec rfl) ?_ | refine callK 13 4 31 (encCw ⟨f, 0⟩) (encCw ⟨⟨r.1, f.c⟩, 0⟩) (cw) (encCw_closed _) (encCw_closed _) (RelL.cons (.ptr (j := 0) 0 0 rfl) (RelL.cons (.wk (by first | exact .same _ | exact .weak _ _ _ | exact .nilSl) (by first | exact .val _ | exact closed_s _ | exact .agg (encFo_closed _) | exact closedLCf _)) (RelL.cons (.wk (by first | exact .same _ | exact .weak _ _ _ | exact .nilSl) (by first | exact .val _ | exact closed_s _ | exact .agg (encFo_closed _) | exact closedLCf _)) (RelL.cons (.wk (by first | exact .same _ | exact .weak _ _ _ | exact .nilSl) (by first | exact .val _ | exact closed_s _ | exact .agg (encFo_closed _) | exact closedLCf _)) (RelL.nil _))))) smT ?_ | refine callK 13 4 31 (encCw ⟨⟨r.1, f.c⟩, 0⟩) (encCw ⟨⟨v1, f.c⟩, 0⟩) (c4) (encCw_closed _) (encCw_closed _) (RelL.cons (.ptr (j := 0) 0 0 rfl) (RelL.cons (.wk (.same _) (.val _)) (RelL.nil _))) smT ?_ | refine goB ?_ | ((fail_if_success refine ARun.plain rfl ?_); refine ARun.fork rfl rfl rfl (fun h => ?_) (fun h => ?_)) | refine awp_cond rfl (fun h => ?_) (fun h => ?_)))
    refine awp_wkH 13 [encCw ⟨⟨v1, ⟨r.2.1, [], f.v.here, (((f.v.dict.map encW).length : Nat) : Int), f.v.last, true, fu⟩⟩, 0⟩] rfl rfl (RelR.cons (by repeat' (first | exact RelL.nil _ | refine RelL.cons (by first | exact .same _ | exact Wk.nilSl) ?_)) (RelR.nil _)) ?_
    (repeat' (first | refine goA ?_ | refine callK 13 4 31 (encCw ⟨⟨v1, ⟨r.2.1, [], f.v.here, (((f.v.dict.map encW).length : Nat) : Int), f.v.last, true, fu⟩⟩, 0⟩) (encCw ⟨⟨v1, ⟨r.2.1, [], f.v.here, (((f.v.dict.map encW).length : Nat) : Int), f.v.last, true, fu⟩⟩, 0⟩) (c3) (encCw_closed _) (encCw_closed _) (RelL.cons (.ptr (j := 0) 0 0 rfl) (RelL.cons (.wk (by first | exact .same _ | exact .weak _ _ _ | exact .nilSl) (by first | exact .val _ | exact closed_s _ | exact .agg (encFo_closed _) | exact closedLCf _)) (RelL.nil _))) smT ?_ | refine goB ?_ | fail))
    exact awp_ret ⟨_, ResL.cons (ResA.agg rfl rfl rfl rfl rfl rfl rfl (RL.allClosed hcl)) (ResL.cons (ResA.tmp (.val _)) .nil), rfl⟩
  cases on with
  | false => exact main 0 (fun e => by cases e) (fun _ => rfl)
  | true => exact main fuel (fun _ => rfl) (fun e => by cases e)
 ·rw [if_pos h3]
  have hwb := hr.1
  obtain ⟨wf, wb⟩ := w
  dsimp only at hwb okw
  subst hwb
  have c4 := stateW_l ⟨wf, r.2.2⟩ (-1) okw.b (by have := okw.o; dsimp only; omega)
  obtain ⟨g, hg⟩ := state_bad (f := wf) (-1) h3
  rw [hg] at c4
  have z1 := closeC_one h3
  have main : ∀ fu : Int, (on = true → fu = fuel) → (on = false → fu = 0) → FnC Tryz.prog 17 [.agg (encFo f), St name, .val (.bool on), .val (.int .i64 fuel)] (encFE (f, r.2.2)) := fun fu hf1 hf2 => by
   have c3 := doneW_l ⟨⟨g.v, ⟨xt, [], f.v.here, f.v.dict.length, f.v.last, on, fu⟩⟩, r.2.2⟩ f
   rw [doneC_bad h3, ← e2] at c3
   have hcl := encFo_closed f
   unfold encFE at c3 ⊢
   cases on with
   | false =>
    obtain rfl := hf2 rfl
    refine goF Tryz.func17 (closedL_cons (.agg (encFo_closed f)) (closedL_cons (.val _) (closedL_cons (.val _) (closedL_cons (.val _) closedL_nil)))) (fun w0 st0 => ?_)
    dsimp only [frOf]
    (repeat' (first | refine goN ?_ | refine awp_region_ne 13 rfl (fun _ => hmix) ?_ | refine ARun.o rfl ?_ | refine ARun.callN (n := 31) cb rfl rfl rfl rfl rfl (guardF_spec rfl) ?_ | refine ARun.nilCheckP rfl rfl (guardF_spec rfl) ?_ | refine callK 13 4 31 (encCw ⟨f, 0⟩) (encCw ⟨wf, r.2.2⟩) (cw) (encCw_closed _) (encCw_closed _) (RelL.cons (.ptr (j := 0) 0 0 rfl) (RelL.cons (.wk (by first | exact .same _ | exact .weak _ _ _ | exact .nilSl) (by first | exact .val _ | exact closed_s _ | exact .agg (encFo_closed _) | exact closedLCf _)) (RelL.cons (.wk (by first | exact .same _ | exact .weak _ _ _ | exact .nilSl) (by first | exact .val _ | exact closed_s _ | exact .agg (encFo_closed _) | exact closedLCf _)) (RelL.cons (.wk (by first | exact .same _ | exact .weak _ _ _ | exact .nilSl) (by first | exact .val _ | exact closed_s _ | exact .agg (encFo_closed _) | exact closedLCf _)) (RelL.nil _))))) smT ?_ | refine callK 13 4 31 (encCw ⟨wf, r.2.2⟩) (encCw ⟨g, r.2.2⟩) (c4) (encCw_closed _) (encCw_closed _) (RelL.cons (.ptr (j := 0) 0 0 rfl) (RelL.cons (.wk (.same _) (.val _)) (RelL.nil _))) smT ?_ | refine goB ?_ | ((fail_if_success refine ARun.plain rfl ?_); refine ARun.fork rfl rfl rfl (fun h => ?_) (fun h => ?_)) | refine awp_cond rfl (fun h => ?_) (fun h => ?_)))
    refine awp_wkH 13 [encCw ⟨⟨g.v, ⟨xt, [], f.v.here, (((f.v.dict.map encW).length : Nat) : Int), f.v.last, false, 0⟩⟩, r.2.2⟩] rfl rfl (RelR.cons (by repeat' (first | exact RelL.nil _ | refine RelL.cons (by first | exact .same _ | exact Wk.nilSl) ?_)) (RelR.nil _)) ?_
    (repeat' (first | refine goA ?_ | refine callK 13 4 31 (encCw ⟨⟨g.v, ⟨xt, [], f.v.here, (((f.v.dict.map encW).length : Nat) : Int), f.v.last, false, 0⟩⟩, r.2.2⟩) (encCw ⟨⟨g.v, ⟨xt, [], f.v.here, (((f.v.dict.map encW).length : Nat) : Int), f.v.last, false, 0⟩⟩, r.2.2⟩) (c3) (encCw_closed _) (encCw_closed _) (RelL.cons (.ptr (j := 0) 0 0 rfl) (RelL.cons (.wk (by first | exact .same _ | exact .weak _ _ _ | exact .nilSl) (by first | exact .val _ | exact closed_s _ | exact .agg (encFo_closed _) | exact closedLCf _)) (RelL.nil _))) smT ?_ | refine goB ?_ | fail))
    exact awp_ret ⟨_, ResL.cons (ResA.agg rfl rfl rfl rfl rfl rfl rfl (RL.allClosed hcl)) (ResL.cons (ResA.tmp (.val _)) .nil), rfl⟩
   | true =>
    obtain rfl := hf1 rfl
    have d1 : decide (fu < 0) = false := decide_eq_false (fun e => h1 ⟨rfl, .inl e⟩)
    have d2 : decide (1048576 < fu) = false := decide_eq_false (fun e => h1 ⟨rfl, .inr e⟩)
    have d3 : decide ((64 : Int) ≤ ((f.v.hand.map encHn).length : Nat)) = false := decide_eq_false (fun e => h2 ⟨rfl, by omega⟩)
    refine goF Tryz.func17 (closedL_cons (.agg (encFo_closed f)) (closedL_cons (.val _) (closedL_cons (.val _) (closedL_cons (.val _) closedL_nil)))) (fun w0 st0 => ?_)
    dsimp only [frOf]
    (repeat' (first | refine goN ?_ | refine awp_region_ne 13 rfl (fun _ => hmix) ?_ | refine ARun.o rfl ?_ | refine ARun.callN (n := 31) cb rfl rfl rfl rfl rfl (guardF_spec rfl) ?_ | refine ARun.nilCheckP rfl rfl (guardF_spec rfl) ?_ | refine callK 13 4 31 (encCw ⟨f, 0⟩) (encCw ⟨wf, r.2.2⟩) (cw) (encCw_closed _) (encCw_closed _) (RelL.cons (.ptr (j := 0) 0 0 rfl) (RelL.cons (.wk (by first | exact .same _ | exact .weak _ _ _ | exact .nilSl) (by first | exact .val _ | exact closed_s _ | exact .agg (encFo_closed _) | exact closedLCf _)) (RelL.cons (.wk (by first | exact .same _ | exact .weak _ _ _ | exact .nilSl) (by first | exact .val _ | exact closed_s _ | exact .agg (encFo_closed _) | exact closedLCf _)) (RelL.cons (.wk (by first | exact .same _ | exact .weak _ _ _ | exact .nilSl) (by first | exact .val _ | exact closed_s _ | exact .agg (encFo_closed _) | exact closedLCf _)) (RelL.nil _))))) smT ?_ | refine callK 13 4 31 (encCw ⟨wf, r.2.2⟩) (encCw ⟨g, r.2.2⟩) (c4) (encCw_closed _) (encCw_closed _) (RelL.cons (.ptr (j := 0) 0 0 rfl) (RelL.cons (.wk (.same _) (.val _)) (RelL.nil _))) smT ?_ | refine goB ?_ | ((fail_if_success refine ARun.plain rfl ?_); refine ARun.fork rfl rfl rfl (fun h => ?_) (fun h => ?_)) | refine awp_cond rfl (fun h => ?_) (fun h => ?_)))
    refine awp_wkH 13 [encCw ⟨⟨g.v, ⟨xt, [], f.v.here, (((f.v.dict.map encW).length : Nat) : Int), f.v.last, true, fu⟩⟩, r.2.2⟩] rfl rfl (RelR.cons (by repeat' (first | exact RelL.nil _ | refine RelL.cons (by first | exact .same _ | exact Wk.nilSl) ?_)) (RelR.nil _)) ?_
    (repeat' (first | refine goA ?_ | refine callK 13 4 31 (encCw ⟨⟨g.v, ⟨xt, [], f.v.here, (((f.v.dict.map encW).length : Nat) : Int), f.v.last, true, fu⟩⟩, r.2.2⟩) (encCw ⟨⟨g.v, ⟨xt, [], f.v.here, (((f.v.dict.map encW).length : Nat) : Int), f.v.last, true, fu⟩⟩, r.2.2⟩) (c3) (encCw_closed _) (encCw_closed _) (RelL.cons (.ptr (j := 0) 0 0 rfl) (RelL.cons (.wk (by first | exact .same _ | exact .weak _ _ _ | exact .nilSl) (by first | exact .val _ | exact closed_s _ | exact .agg (encFo_closed _) | exact closedLCf _)) (RelL.nil _))) smT ?_ | refine goB ?_ | fail))
    exact awp_ret ⟨_, ResL.cons (ResA.agg rfl rfl rfl rfl rfl rfl rfl (RL.allClosed hcl)) (ResL.cons (ResA.tmp (.val _)) .nil), rfl⟩
  cases on with
  | false => exact main 0 (fun e => by cases e) (fun _ => rfl)
  | true => exact main fuel (fun _ => rfl) (fun e => by cases e)
end Go.Proofs.YthlbcakjngcjbaaGreat
namespace Go.Proofs.YthlbcakjngcjbaaGreat
open Go Go.RowKit
open Go.Proofs.YthlbcakjngcjbaaGreat.Dict (St Bs bs_eq Wd encW encWs closed_ws addD flagD cutD encWE findD encFd NameIn setFl encW_closed)
open Go.Proofs.YthlbcakjngcjbaaGreat.Mem (Mm encM encBs closed_bs encP encP_closed closed_m storeD fetchD commaD alignD enc3m enc2m writeD)
open Go.Proofs.YthlbcakjngcjbaaGreat.Stk (encS closed_s encI_closed)
set_option maxRecDepth 100000
theorem bin_or1 {P : Program} {t : TypeId} {fl : Int} (h : 0 ≤ fl ∧ fl ≤ 7) : BinR P .or t (.int .i64 fl) (.int .i64 1) (.int .i64 (setI fl)) := by
 have h8 : fl = 0 ∨ fl = 1 ∨ fl = 2 ∨ fl = 3 ∨ fl = 4 ∨ fl = 5 ∨ fl = 6 ∨ fl = 7 := by omega
 rcases h8 with rfl | rfl | rfl | rfl | rfl | rfl | rfl | rfl <;> exact bin_wrap (fun w => rfl)
theorem bin_andNot2 {P : Program} {t : TypeId} {fl : Int} (h : 0 ≤ fl ∧ fl ≤ 7) : BinR P .andNot t (.int .i64 fl) (.int .i64 2) (.int .i64 (clearH fl)) := by
 have h8 : fl = 0 ∨ fl = 1 ∨ fl = 2 ∨ fl = 3 ∨ fl = 4 ∨ fl = 5 ∨ fl = 6 ∨ fl = 7 := by omega
 rcases h8 with rfl | rfl | rfl | rfl | rfl | rfl | rfl | rfl <;> exact bin_wrap (fun w => rfl)
theorem setI_rng {fl : Int} (h : 0 ≤ fl ∧ fl ≤ 7) : 0 ≤ setI fl ∧ setI fl ≤ 7 := by unfold setI; split <;> omega
theorem clearH_rng {fl : Int} (h : 0 ≤ fl ∧ fl ≤ 7) : 0 ≤ clearH fl ∧ clearH fl ≤ 7 := by unfold clearH; split <;> omega
attribute [local irreducible] Decidable.decide awp ARun regK toK
set_option maxHeartbeats 8000000 in
theorem created_c (f : Fo) (name : Bs) (last : Bool) (l : List Int) (hl : l.length ≤ 10000) (h : Gd f.v (l.length + 10)) (hn : name.length ≤ 1000000) : FnC Tryz.prog 69 [.agg (encFo f), St name, .val (.bool last), encS l] (encFE (createdD f name last l)) := by
 have cb := begin_n f
 unfold createdD
 by_cases hx : f.c.xt = 0
 case neg =>
  rw [show beginC f = ⟨f, -29⟩ by unfold beginC; rw [if_pos hx]] at cb
  rw [if_pos hx]
  have c3 := doneW_l ⟨f, -29⟩ f
  rw [doneC_bad (by decide)] at c3
  unfold encFE at c3 ⊢
  have z : ((-29 : Int) != 0) = true := by simp
  refine goF Tryz.func69 (closedL_cons (.agg (encFo_closed f)) (closedL_cons (.val _) (closedL_cons (.val _) (closedL_cons (closed_s l) closedL_nil)))) (fun w0 st0 => ?_)
  dsimp only [frOf]
  (repeat' (first | refine goA ?_ | refine ARun.callN (n := 31) cb rfl rfl rfl rfl rfl (guardF_spec rfl) ?_ | refine ARun.nilCheckP rfl rfl (guardF_spec rfl) ?_ | refine callK 13 4 31 (encCw ⟨f, -29⟩) (encCw ⟨f, -29⟩) (c3) (encCw_closed _) (encCw_closed _) (RelL.cons (.ptr (j := 0) 0 0 rfl) (RelL.cons (.wk (by first | exact .same _ | exact .weak _ _ _ | exact .nilSl) (by first | exact .val _ | exact closed_s _ | exact .agg (encFo_closed _) | exact closedLCf _)) (RelL.nil _))) smT ?_ | refine goB ?_ | fail))
  exact awp_ret ⟨_, ResL.cons (ResA.agg rfl rfl rfl rfl rfl rfl rfl (RL.allClosed (encFo_closed _))) (ResL.cons (ResA.tmp (.val _)) .nil), rfl⟩
 rw [show beginC f = ⟨f, 0⟩ by unfold beginC; rw [if_neg (fun e => e hx)]] at cb
 rw [if_neg (fun e => e hx)]
 have z : ((0 : Int) != 0) = false := by simp
 have hr := word_rel f name 0 l
 have cw := wordW_l ⟨f, 0⟩ name 0 l hl (h.ok.le (by omega)) h.dl hn (by decide)
 dsimp only at cw
 generalize (alignD f.v.m f.v.here).2.1 = xt at *
 generalize wordR f.v name 0 l = r at *
 generalize wordC ⟨f, 0⟩ name 0 l = w at *
 by_cases h3 : r.2.2 = 0
 ·obtain ⟨e3, e4⟩ := hr.2 h3
  subst e3
  subst e4
  rw [if_neg (fun e => e h3)]
  cases last with
  | false =>
   have c3 := doneW_l ⟨⟨r.1, f.c⟩, 0⟩ f
   rw [doneC_ok] at c3
   have hcl := encFo_closed ⟨r.1, f.c⟩
   unfold encFE at c3 ⊢
   refine goF Tryz.func69 (closedL_cons (.agg (encFo_closed f)) (closedL_cons (.val _) (closedL_cons (.val _) (closedL_cons (closed_s l) closedL_nil)))) (fun w0 st0 => ?_)
   dsimp only [frOf]
   (repeat' (first | refine goA ?_ | refine ARun.callN (n := 31) cb rfl rfl rfl rfl rfl (guardF_spec rfl) ?_ | refine ARun.nilCheckP rfl rfl (guardF_spec rfl) ?_ | refine callK 13 4 31 (encCw ⟨f, 0⟩) (encCw ⟨⟨r.1, f.c⟩, 0⟩) (cw) (encCw_closed _) (encCw_closed _) (RelL.cons (.ptr (j := 0) 0 0 rfl) (RelL.cons (.wk (by first | exact .same _ | exact .weak _ _ _ | exact .nilSl) (by first | exact .val _ | exact closed_s _ | exact .agg (encFo_closed _) | exact closedLCf _)) (RelL.cons (.wk (by first | exact .same _ | exact .weak _ _ _ | exact .nilSl) (by first | exact .val _ | exact closed_s _ | exact .agg (encFo_closed _) | exact closedLCf _)) (RelL.cons (.wk (by first | exact .same _ | exact .weak _ _ _ | exact .nilSl) (by first | exact .val _ | exact closed_s _ | exact .agg (encFo_closed _) | exact closedLCf _)) (RelL.nil _))))) smT ?_ | refine callK 13 4 31 (encCw ⟨⟨r.1, f.c⟩, 0⟩) (encCw ⟨⟨r.1, f.c⟩, 0⟩) (c3) (encCw_closed _) (encCw_closed _) (RelL.cons (.ptr (j := 0) 0 0 rfl) (RelL.cons (.wk (by first | exact .same _ | exact .weak _ _ _ | exact .nilSl) (by first | exact .val _ | exact closed_s _ | exact .agg (encFo_closed _) | exact closedLCf _)) (RelL.nil _))) smT ?_ | refine goB ?_ | fail))
   exact awp_ret ⟨_, ResL.cons (ResA.agg rfl rfl rfl rfl rfl rfl rfl (RL.allClosed hcl)) (ResL.cons (ResA.tmp (.val _)) .nil), rfl⟩
  | true =>
   have c3 := doneW_l ⟨⟨upV r.1 r.1.m r.1.here r.1.dict r.2.1 r.1.hand, f.c⟩, 0⟩ f
   rw [doneC_ok] at c3
   have hcl := encFo_closed ⟨upV r.1 r.1.m r.1.here r.1.dict r.2.1 r.1.hand, f.c⟩
   unfold encFE at c3 ⊢
   refine goF Tryz.func69 (closedL_cons (.agg (encFo_closed f)) (closedL_cons (.val _) (closedL_cons (.val _) (closedL_cons (closed_s l) closedL_nil)))) (fun w0 st0 => ?_)
   dsimp only [frOf]
   (repeat' (first | refine goA ?_ | refine ARun.callN (n := 31) cb rfl rfl rfl rfl rfl (guardF_spec rfl) ?_ | refine ARun.nilCheckP rfl rfl (guardF_spec rfl) ?_ | refine callK 13 4 31 (encCw ⟨f, 0⟩) (encCw ⟨⟨r.1, f.c⟩, 0⟩) (cw) (encCw_closed _) (encCw_closed _) (RelL.cons (.ptr (j := 0) 0 0 rfl) (RelL.cons (.wk (by first | exact .same _ | exact .weak _ _ _ | exact .nilSl) (by first | exact .val _ | exact closed_s _ | exact .agg (encFo_closed _) | exact closedLCf _)) (RelL.cons (.wk (by first | exact .same _ | exact .weak _ _ _ | exact .nilSl) (by first | exact .val _ | exact closed_s _ | exact .agg (encFo_closed _) | exact closedLCf _)) (RelL.cons (.wk (by first | exact .same _ | exact .weak _ _ _ | exact .nilSl) (by first | exact .val _ | exact closed_s _ | exact .agg (encFo_closed _) | exact closedLCf _)) (RelL.nil _))))) smT ?_ | refine callK 13 4 31 (encCw ⟨⟨upV r.1 r.1.m r.1.here r.1.dict r.2.1 r.1.hand, f.c⟩, 0⟩) (encCw ⟨⟨upV r.1 r.1.m r.1.here r.1.dict r.2.1 r.1.hand, f.c⟩, 0⟩) (c3) (encCw_closed _) (encCw_closed _) (RelL.cons (.ptr (j := 0) 0 0 rfl) (RelL.cons (.wk (by first | exact .same _ | exact .weak _ _ _ | exact .nilSl) (by first | exact .val _ | exact closed_s _ | exact .agg (encFo_closed _) | exact closedLCf _)) (RelL.nil _))) smT ?_ | refine goB ?_ | fail))
   exact awp_ret ⟨_, ResL.cons (ResA.agg rfl rfl rfl rfl rfl rfl rfl (RL.allClosed hcl)) (ResL.cons (ResA.tmp (.val _)) .nil), rfl⟩
 ·rw [if_pos h3]
  have hwb := hr.1
  obtain ⟨g, wb⟩ := w
  dsimp only at hwb
  subst hwb
  have z1 := closeC_one h3
  cases last with
  | false =>
   have c3 := doneW_l ⟨g, r.2.2⟩ f
   rw [doneC_bad h3] at c3
   unfold encFE at c3 ⊢
   refine goF Tryz.func69 (closedL_cons (.agg (encFo_closed f)) (closedL_cons (.val _) (closedL_cons (.val _) (closedL_cons (closed_s l) closedL_nil)))) (fun w0 st0 => ?_)
   dsimp only [frOf]
   (repeat' (first | refine goA ?_ | refine ARun.callN (n := 31) cb rfl rfl rfl rfl rfl (guardF_spec rfl) ?_ | refine ARun.nilCheckP rfl rfl (guardF_spec rfl) ?_ | refine callK 13 4 31 (encCw ⟨f, 0⟩) (encCw ⟨g, r.2.2⟩) (cw) (encCw_closed _) (encCw_closed _) (RelL.cons (.ptr (j := 0) 0 0 rfl) (RelL.cons (.wk (by first | exact .same _ | exact .weak _ _ _ | exact .nilSl) (by first | exact .val _ | exact closed_s _ | exact .agg (encFo_closed _) | exact closedLCf _)) (RelL.cons (.wk (by first | exact .same _ | exact .weak _ _ _ | exact .nilSl) (by first | exact .val _ | exact closed_s _ | exact .agg (encFo_closed _) | exact closedLCf _)) (RelL.cons (.wk (by first | exact .same _ | exact .weak _ _ _ | exact .nilSl) (by first | exact .val _ | exact closed_s _ | exact .agg (encFo_closed _) | exact closedLCf _)) (RelL.nil _))))) smT ?_ | refine callK 13 4 31 (encCw ⟨g, r.2.2⟩) (encCw ⟨g, r.2.2⟩) (c3) (encCw_closed _) (encCw_closed _) (RelL.cons (.ptr (j := 0) 0 0 rfl) (RelL.cons (.wk (by first | exact .same _ | exact .weak _ _ _ | exact .nilSl) (by first | exact .val _ | exact closed_s _ | exact .agg (encFo_closed _) | exact closedLCf _)) (RelL.nil _))) smT ?_ | refine goB ?_ | fail))
   exact awp_ret ⟨_, ResL.cons (ResA.agg rfl rfl rfl rfl rfl rfl rfl (RL.allClosed (encFo_closed _))) (ResL.cons (ResA.tmp (.val _)) .nil), rfl⟩
  | true =>
   have c3 := doneW_l ⟨⟨upV g.v g.v.m g.v.here g.v.dict xt g.v.hand, g.c⟩, r.2.2⟩ f
   rw [doneC_bad h3] at c3
   unfold encFE at c3 ⊢
   refine goF Tryz.func69 (closedL_cons (.agg (encFo_closed f)) (closedL_cons (.val _) (closedL_cons (.val _) (closedL_cons (closed_s l) closedL_nil)))) (fun w0 st0 => ?_)
   dsimp only [frOf]
   (repeat' (first | refine goA ?_ | refine ARun.callN (n := 31) cb rfl rfl rfl rfl rfl (guardF_spec rfl) ?_ | refine ARun.nilCheckP rfl rfl (guardF_spec rfl) ?_ | refine callK 13 4 31 (encCw ⟨f, 0⟩) (encCw ⟨g, r.2.2⟩) (cw) (encCw_closed _) (encCw_closed _) (RelL.cons (.ptr (j := 0) 0 0 rfl) (RelL.cons (.wk (by first | exact .same _ | exact .weak _ _ _ | exact .nilSl) (by first | exact .val _ | exact closed_s _ | exact .agg (encFo_closed _) | exact closedLCf _)) (RelL.cons (.wk (by first | exact .same _ | exact .weak _ _ _ | exact .nilSl) (by first | exact .val _ | exact closed_s _ | exact .agg (encFo_closed _) | exact closedLCf _)) (RelL.cons (.wk (by first | exact .same _ | exact .weak _ _ _ | exact .nilSl) (by first | exact .val _ | exact closed_s _ | exact .agg (encFo_closed _) | exact closedLCf _)) (RelL.nil _))))) smT ?_ | refine callK 13 4 31 (encCw ⟨⟨upV g.v g.v.m g.v.here g.v.dict xt g.v.hand, g.c⟩, r.2.2⟩) (encCw ⟨⟨upV g.v g.v.m g.v.here g.v.dict xt g.v.hand, g.c⟩, r.2.2⟩) (c3) (encCw_closed _) (encCw_closed _) (RelL.cons (.ptr (j := 0) 0 0 rfl) (RelL.cons (.wk (by first | exact .same _ | exact .weak _ _ _ | exact .nilSl) (by first | exact .val _ | exact closed_s _ | exact .agg (encFo_closed _) | exact closedLCf _)) (RelL.nil _))) smT ?_ | refine goB ?_ | fail))
   exact awp_ret ⟨_, ResL.cons (ResA.agg rfl rfl rfl rfl rfl rfl rfl (RL.allClosed (encFo_closed _))) (ResL.cons (ResA.tmp (.val _)) .nil), rfl⟩
set_option maxHeartbeats 4000000 in
theorem create_c (f : Fo) (name : Bs) (h : Gd f.v 100) (hn : name.length ≤ 1000000) : FnC Tryz.prog 23 [.agg (encFo f), St name] (encFE (createdD f name true [257, 0])) := by
 have c1 := created_c f name true [257, 0] (by decide) (h.le (by decide)) hn
 generalize createdD f name true [257, 0] = r at *
 unfold encFE at c1 ⊢
 refine goF Tryz.func23 (closedL_cons (.agg (encFo_closed f)) (closedL_cons (.val _) closedL_nil)) (fun w0 st0 => ?_)
 dsimp only [frOf]
 (repeat' (first | refine goA ?_ | refine callW (c1) rfl wkT rfl rfl ?_ | refine goB ?_ | fail))
 exact awp_ret ⟨_, ResL.cons (ResA.agg rfl rfl rfl rfl rfl rfl rfl (RL.allClosed (encFo_closed _))) (ResL.cons (ResA.tmp (.val _)) .nil), rfl⟩
set_option maxHeartbeats 4000000 in
theorem variable_c (f : Fo) (name : Bs) (h : Gd f.v 100) (hn : name.length ≤ 1000000) : FnC Tryz.prog 25 [.agg (encFo f), St name] (encFE (createdD f name true [257, 0, 0])) := by
 have c1 := created_c f name true [257, 0, 0] (by decide) (h.le (by decide)) hn
 generalize createdD f name true [257, 0, 0] = r at *
 unfold encFE at c1 ⊢
 refine goF Tryz.func25 (closedL_cons (.agg (encFo_closed f)) (closedL_cons (.val _) closedL_nil)) (fun w0 st0 => ?_)
 dsimp only [frOf]
 (repeat' (first | refine goA ?_ | refine callW (c1) rfl wkT rfl rfl ?_ | refine goB ?_ | fail))
 exact awp_ret ⟨_, ResL.cons (ResA.agg rfl rfl rfl rfl rfl rfl rfl (RL.allClosed (encFo_closed _))) (ResL.cons (ResA.tmp (.val _)) .nil), rfl⟩
set_option maxHeartbeats 4000000 in
theorem constant_c (f : Fo) (name : Bs) (n : Int) (h : Gd f.v 100) (hn : name.length ≤ 1000000) : FnC Tryz.prog 27 [.agg (encFo f), St name, .val (.int .i64 n)] (encFE (createdD f name false [258, 0, n])) := by
 have c1 := created_c f name false [258, 0, n] (by show 3 ≤ 10000; decide) (h.le (by show 3 + 10 ≤ 100; decide)) hn
 generalize createdD f name false [258, 0, n] = r at *
 unfold encFE at c1 ⊢
 refine goF Tryz.func27 (closedL_cons (.agg (encFo_closed f)) (closedL_cons (.val _) (closedL_cons (.val _) closedL_nil))) (fun w0 st0 => ?_)
 dsimp only [frOf]
 (repeat' (first | refine goA ?_ | refine callW (c1) rfl wkT rfl rfl ?_ | refine goB ?_ | fail))
 exact awp_ret ⟨_, ResL.cons (ResA.agg rfl rfl rfl rfl rfl rfl rfl (RL.allClosed (encFo_closed _))) (ResL.cons (ResA.tmp (.val _)) .nil), rfl⟩
set_option maxHeartbeats 8000000 in
theorem undo_c (f : Fo) (h : Gd f.v 10) : FnC Tryz.prog 21 [.agg (encFo f)] (.agg (encFo (undoD f))) := by
 have cm := made_c f
 unfold undoD
 by_cases hx : f.c.xt = 0
 ·rw [closeC_zero hx] at cm
  rw [if_pos hx]
  have nt : (!false) = true := rfl
  refine goF Tryz.func21 (closedL_cons (.agg (encFo_closed f)) closedL_nil) (fun w0 st0 => ?_)
  dsimp only [frOf]
  (repeat' (first | refine goA ?_ | refine cX cm ?_ | refine goB ?_ | fail))
  exact awp_ret ⟨_, ResL.cons (ResA.agg rfl rfl rfl rfl rfl rfl rfl (RL.allClosed (encFo_closed _))) .nil, rfl⟩
 rw [closeC_one hx] at cm
 rw [if_neg hx]
 have c4 := stateW_l ⟨f, 0⟩ 0 h.ok.b (by have := h.ok.o; dsimp only; omega)
 rw [state_ok 0 h.big] at c4
 have c5 := Dict.cut_c f.v.dict f.c.dict h.dl
 unfold encWE at c5
 have hcl := encFo_closed ⟨upV f.v (storeD f.v.m 8 0).1 f.c.here (cutD f.v.dict f.c.dict).1 f.c.last f.v.hand, cp0⟩
 unfold stV at c4
 generalize storeD f.v.m 8 0 = s at *
 generalize cutD f.v.dict f.c.dict = d at *
 refine goF Tryz.func21 (closedL_cons (.agg (encFo_closed f)) closedL_nil) (fun w0 st0 => ?_)
 dsimp only [frOf]
 (repeat' (first | refine goN ?_ | refine awp_region_ne 8 rfl (fun _ => hmix) ?_ | refine ARun.o rfl ?_ | refine cX cm ?_ | refine ARun.nilCheckP rfl rfl (guardF_spec rfl) ?_ | refine callK 10 7 31 (encCw ⟨f, 0⟩) (encCw ⟨⟨withMH f.v s.1 f.v.here, f.c⟩, 0⟩) (c4) (encCw_closed _) (encCw_closed _) (RelL.cons (.ptr (j := 0) 0 0 rfl) (RelL.cons (.wk (.same _) (.val _)) (RelL.nil _))) smT ?_ | refine cX c5 ?_ | refine goB ?_ | ((fail_if_success refine ARun.plain rfl ?_); refine ARun.fork rfl rfl rfl (fun h => ?_) (fun h => ?_)) | refine awp_cond rfl (fun h => ?_) (fun h => ?_)))
 refine awp_wkH 10 [encCw ⟨⟨upV f.v s.1 f.c.here d.1 f.c.last f.v.hand, cp0⟩, 0⟩] rfl rfl (RelR.cons (by repeat' (first | exact RelL.nil _ | refine RelL.cons (by first | exact .same _ | exact Wk.nilSl) ?_)) (RelR.nil _)) ?_
 (repeat' (first | refine goA ?_ | refine ARun.nilCheckP rfl rfl (guardF_spec rfl) ?_ | refine goB ?_ | fail))
 exact awp_ret ⟨_, ResL.cons (ResA.agg rfl rfl rfl rfl rfl rfl rfl (RL.allClosed hcl)) .nil, rfl⟩
end Go.Proofs.YthlbcakjngcjbaaGreat
namespace Go.Proofs.YthlbcakjngcjbaaGreat
open Go Go.RowKit
open Go.Proofs.YthlbcakjngcjbaaGreat.Dict (St Bs bs_eq Wd encW encWs closed_ws addD flagD cutD encWE findD encFd NameIn setFl encW_closed)
open Go.Proofs.YthlbcakjngcjbaaGreat.Mem (Mm encM encBs closed_bs encP encP_closed closed_m storeD fetchD commaD alignD enc3m enc2m writeD)
open Go.Proofs.YthlbcakjngcjbaaGreat.Stk (encS closed_s encI_closed)
set_option maxRecDepth 100000
theorem flag_ok {l : List Wd} {i fl : Int} (h : 0 ≤ i ∧ i < l.length) (hf : 0 ≤ fl ∧ fl ≤ 7) : (flagD l i fl).2 = 0 := by
 unfold flagD
 rw [if_neg (by omega)]
theorem flAt_some {l : List Wd} {i : Int} {w : Wd} (h : l[i.toNat]? = some w) : flAt l i = w.fl := by
 unfold flAt
 rw [h]
theorem xtAt_some {l : List Wd} {i : Nat} {w : Wd} (h : l[i]? = some w) : xtAt l i = w.xt := by
 unfold xtAt
 rw [h]
attribute [local irreducible] Decidable.decide awp ARun regK toK
set_option maxHeartbeats 8000000 in
theorem imm_c (f : Fo) (h : Gd f.v 10) : FnC Tryz.prog 31 [.agg (encFo f)] (encFE (immD f)) := by
 have cs := start_c
 have e2 : (((f.v.dict.map encW).length : Nat) : Int) = f.v.dict.length := by rw [List.length_map]
 have hdl := h.dl
 have key : ∀ b : Int, FnN Tryz.prog 56 [.agg (encFo f)] (encCw ⟨f, b⟩) → (f.c.xt ≠ 0 → b = -29) → (f.c.xt = 0 → b = 0) → FnC Tryz.prog 31 [.agg (encFo f)] (encFE (immD f)) := fun b cb hb1 hb2 => by
  have c1 := okW_l ⟨f, b⟩ (-13)
  unfold okC at c1
  dsimp only at c1
  have hne : okB b (-13) ≠ 0 := by
   unfold okB
   split
   ·decide
   ·assumption
  have c3 := doneW_l ⟨f, okB b (-13)⟩ f
  rw [doneC_bad hne] at c3
  have bad : (f.v.dict.length = 0 ∨ xtAt f.v.dict (f.v.dict.length - 1) < 1368) → immD f = (f, okB b (-13)) := fun e => by
   unfold immD
   by_cases hx : f.c.xt = 0
   ·rw [if_neg (fun e => e hx), if_pos e, hb2 hx, okB_0 _ rfl]
   ·rw [if_pos hx, hb1 hx, okB_1 _ (by decide)]
  by_cases h0 : f.v.dict.length = 0
  ·have d1 : decide ((((f.v.dict.map encW).length : Nat) : Int) - 1 < 0) = true := decide_eq_true (by omega)
   rw [bad (.inl h0)]
   unfold encFE at c3 ⊢
   generalize okB b (-13) = b2 at *
   refine goF Tryz.func31 (closedL_cons (.agg (encFo_closed f)) closedL_nil) (fun w0 st0 => ?_)
   dsimp only [frOf]
   (repeat' (first | refine goA ?_ | refine ARun.callN (n := 31) cb rfl rfl rfl rfl rfl (guardF_spec rfl) ?_ | refine cX cs ?_ | refine ARun.nilCheckP rfl rfl (guardF_spec rfl) ?_ | refine callK 9 4 31 (encCw ⟨f, b⟩) (encCw ⟨f, b2⟩) (c1) (encCw_closed _) (encCw_closed _) (RelL.cons (.ptr (j := 0) 0 30 rfl) (RelL.cons (.wk (.same _) (.val _)) (RelL.nil _))) smT ?_ | refine callK 9 4 31 (encCw ⟨f, b2⟩) (encCw ⟨f, b2⟩) (c3) (encCw_closed _) (encCw_closed _) (RelL.cons (.ptr (j := 0) 0 0 rfl) (RelL.cons (.wk (by first | exact .same _ | exact .weak _ _ _ | exact .nilSl) (by first | exact .val _ | exact closed_s _ | exact .agg (encFo_closed _) | exact closedLCf _)) (RelL.nil _))) smT ?_ | refine goB ?_ | fail))
   exact awp_ret ⟨_, ResL.cons (ResA.agg rfl rfl rfl rfl rfl rfl rfl (RL.allClosed (encFo_closed _))) (ResL.cons (ResA.tmp (.val _)) .nil), rfl⟩
  have d1 : decide ((((f.v.dict.map encW).length : Nat) : Int) - 1 < 0) = false := decide_eq_false (by omega)
  obtain ⟨w, hw⟩ : ∃ w, f.v.dict[f.v.dict.length - 1]? = some w := ⟨_, List.getElem?_eq_getElem (by omega)⟩
  have hp : (f.v.dict.map encW)[((((f.v.dict.map encW).length : Nat) : Int) - 1).toNat]? = some (encW w) := by
   rw [e2, show ((f.v.dict.length : Int) - 1).toNat = f.v.dict.length - 1 by omega, List.getElem?_map, hw]
   rfl
  have hx2 := xtAt_some hw
  by_cases h1 : w.xt < 1368
  ·have d2 : decide (w.xt < 1368) = true := decide_eq_true h1
   rw [bad (.inr (by rw [hx2]; exact h1))]
   unfold encFE at c3 ⊢
   generalize okB b (-13) = b2 at *
   refine goF Tryz.func31 (closedL_cons (.agg (encFo_closed f)) closedL_nil) (fun w0 st0 => ?_)
   dsimp only [frOf]
   (repeat' (first | refine goA ?_ | refine ARun.callN (n := 31) cb rfl rfl rfl rfl rfl (guardF_spec rfl) ?_ | refine cX cs ?_ | refine ARun.nilCheckP rfl rfl (guardF_spec rfl) ?_ | refine ARun.indexAddr rfl rfl (by omega) (by with_reducible assumption) rfl rfl rfl rfl rfl (guardF_spec rfl) ?_ | refine callK 9 4 31 (encCw ⟨f, b⟩) (encCw ⟨f, b2⟩) (c1) (encCw_closed _) (encCw_closed _) (RelL.cons (.ptr (j := 0) 0 30 rfl) (RelL.cons (.wk (.same _) (.val _)) (RelL.nil _))) smT ?_ | refine callK 9 4 31 (encCw ⟨f, b2⟩) (encCw ⟨f, b2⟩) (c3) (encCw_closed _) (encCw_closed _) (RelL.cons (.ptr (j := 0) 0 0 rfl) (RelL.cons (.wk (by first | exact .same _ | exact .weak _ _ _ | exact .nilSl) (by first | exact .val _ | exact closed_s _ | exact .agg (encFo_closed _) | exact closedLCf _)) (RelL.nil _))) smT ?_ | refine goB ?_ | fail))
   exact awp_ret ⟨_, ResL.cons (ResA.agg rfl rfl rfl rfl rfl rfl rfl (RL.allClosed (encFo_closed _))) (ResL.cons (ResA.tmp (.val _)) .nil), rfl⟩
  have d2 : decide (w.xt < 1368) = false := decide_eq_false h1
  have hfl := (h.ni w (List.mem_of_getElem? hw)).2
  have hfl2 := setI_rng hfl
  have hat : flAt f.v.dict ((f.v.dict.length : Int) - 1) = w.fl := flAt_some (by rw [show ((f.v.dict.length : Int) - 1).toNat = f.v.dict.length - 1 by omega]; exact hw)
  have c5 := Dict.flag_c f.v.dict ((((f.v.dict.map encW).length : Nat) : Int) - 1) (setI w.fl) hdl (by omega)
  have hfo := flag_ok (l := f.v.dict) (i := (((f.v.dict.map encW).length : Nat) : Int) - 1) (by rw [e2]; omega) hfl2
  unfold encWE at c5
  rw [hfo] at c5
  have c6 := okW_l ⟨f, b⟩ 0
  rw [show okC ⟨f, b⟩ 0 = ⟨f, b⟩ by unfold okC okB; dsimp only; split <;> simp_all] at c6
  have hbin := bin_or1 (P := Tryz.prog) (t := 3) hfl
  have er : immD f = if b ≠ 0 then (f, b) else (⟨setD f.v (flagD f.v.dict ((((f.v.dict.map encW).length : Nat) : Int) - 1) (setI w.fl)).1, f.c⟩, 0) := by
   unfold immD
   by_cases hx : f.c.xt = 0
   ·rw [if_neg (fun e => e hx), if_neg (by rw [hx2]; omega), hat, if_neg (fun e => e (hb2 hx)), e2]
   ·rw [if_pos hx, if_pos (by rw [hb1 hx]; decide), hb1 hx]
  rw [er]
  generalize (flagD f.v.dict ((((f.v.dict.map encW).length : Nat) : Int) - 1) (setI w.fl)).1 = l2 at *
  generalize setI w.fl = fl2 at *
  have c7 := doneW_l ⟨⟨setD f.v l2, f.c⟩, b⟩ f
  have hd : doneC ⟨⟨setD f.v l2, f.c⟩, b⟩ f = if b ≠ 0 then (f, b) else (⟨setD f.v l2, f.c⟩, 0) := rfl
  rw [← hd]
  generalize doneC ⟨⟨setD f.v l2, f.c⟩, b⟩ f = r at *
  unfold encFE at c7 ⊢
  refine goF Tryz.func31 (closedL_cons (.agg (encFo_closed f)) closedL_nil) (fun w0 st0 => ?_)
  dsimp only [frOf]
  (repeat' (first | refine ARun.bin rfl rfl hbin rfl (guardF_spec rfl) ?_ | refine goA ?_ | refine ARun.callN (n := 31) cb rfl rfl rfl rfl rfl (guardF_spec rfl) ?_ | refine cX cs ?_ | refine ARun.nilCheckP rfl rfl (guardF_spec rfl) ?_ | refine ARun.indexAddr rfl rfl (by omega) (by with_reducible assumption) rfl rfl rfl rfl rfl (guardF_spec rfl) ?_ | refine cX c5 ?_ | refine callK 9 4 31 (encCw ⟨f, b⟩) (encCw ⟨f, b⟩) (c6) (encCw_closed _) (encCw_closed _) (RelL.cons (.ptr (j := 0) 0 30 rfl) (RelL.cons (.wk (.same _) (.val _)) (RelL.nil _))) smT ?_ | refine callK 9 4 31 (encCw ⟨⟨setD f.v l2, f.c⟩, b⟩) (encCw ⟨⟨setD f.v l2, f.c⟩, b⟩) (c7) (encCw_closed _) (encCw_closed _) (RelL.cons (.ptr (j := 0) 0 0 rfl) (RelL.cons (.wk (by first | exact .same _ | exact .weak _ _ _ | exact .nilSl) (by first | exact .val _ | exact closed_s _ | exact .agg (encFo_closed _) | exact closedLCf _)) (RelL.nil _))) smT ?_ | refine goB ?_ | fail))
  exact awp_ret ⟨_, ResL.cons (ResA.agg rfl rfl rfl rfl rfl rfl rfl (RL.allClosed (encFo_closed _))) (ResL.cons (ResA.tmp (.val _)) .nil), rfl⟩
 have cb := begin_n f
 unfold beginC at cb
 by_cases hx : f.c.xt = 0
 ·rw [if_neg (fun e => e hx)] at cb
  exact key 0 cb (fun e => absurd hx e) (fun _ => rfl)
 ·rw [if_pos hx] at cb
  exact key (-29) cb (fun _ => rfl) (fun e => absurd e hx)
set_option maxHeartbeats 8000000 in
theorem forget_c (f : Fo) (name : Bs) (h : Gd f.v 10) (hn : name.length ≤ 1000000) : FnC Tryz.prog 33 [.agg (encFo f), St name] (encFE (forgetD f name)) := by
 have cs := start_c
 have cf := Dict.find_c f.v.dict name h.dl hn h.ni
 have key : ∀ b : Int, FnN Tryz.prog 56 [.agg (encFo f)] (encCw ⟨f, b⟩) → (f.c.xt ≠ 0 → b = -29) → (f.c.xt = 0 → b = 0) → FnC Tryz.prog 33 [.agg (encFo f), St name] (encFE (forgetD f name)) := fun b cb hb1 hb2 => by
  have c5 := Dict.cut_c f.v.dict (findD f.v.dict name).2.1 h.dl
  unfold encWE at c5
  unfold encFd at cf
  unfold forgetD
  generalize findD f.v.dict name = p at *
  obtain ⟨w, at', is⟩ := p
  dsimp only at c5 cf ⊢
  generalize cutD f.v.dict at' = d at *
  have bad : ∀ e : Int, e ≠ 0 → okB b e ≠ 0 := fun e he => by
   unfold okB
   split
   ·exact he
   ·assumption
  have fin : ∀ b2 : Int, doneC ⟨⟨upV f.v f.v.m w.xt d.1 0 f.v.hand, f.c⟩, b2⟩ f = if b2 ≠ 0 then (f, b2) else (⟨upV f.v f.v.m w.xt d.1 0 f.v.hand, f.c⟩, 0) := fun b2 => rfl
  cases is with
  | false =>
   have c1 := okW_l ⟨f, b⟩ (-13)
   unfold okC at c1
   dsimp only at c1
   have c7 := doneW_l ⟨⟨upV f.v f.v.m w.xt d.1 0 f.v.hand, f.c⟩, okB b (-13)⟩ f
   rw [doneC_bad (bad _ (by decide))] at c7
   have er : (if f.c.xt ≠ 0 then (f, (-29 : Int)) else if false = false then (f, -13) else if w.xt < 1368 ∨ f.v.here < w.xt then (f, -32) else (⟨upV f.v f.v.m w.xt d.1 0 f.v.hand, f.c⟩, 0)) = (f, okB b (-13)) := by
    by_cases hx : f.c.xt = 0
    ·rw [if_neg (fun e => e hx), if_pos rfl, hb2 hx, okB_0 _ rfl]
    ·rw [if_pos hx, hb1 hx, okB_1 _ (by decide)]
   rw [er]
   generalize okB b (-13) = b2 at *
   unfold encFE at c7 ⊢
   refine goF Tryz.func33 (closedL_cons (.agg (encFo_closed f)) (closedL_cons (.val _) closedL_nil)) (fun w0 st0 => ?_)
   dsimp only [frOf]
   (repeat' (first | refine goA ?_ | refine ARun.callN (n := 31) cb rfl rfl rfl rfl rfl (guardF_spec rfl) ?_ | refine cX cs ?_ | refine cX cf ?_ | refine ARun.nilCheckP rfl rfl (guardF_spec rfl) ?_ | refine cX c5 ?_ | refine callK 13 4 31 (encCw ⟨f, b⟩) (encCw ⟨f, b2⟩) (c1) (encCw_closed _) (encCw_closed _) (RelL.cons (.ptr (j := 0) 0 30 rfl) (RelL.cons (.wk (.same _) (.val _)) (RelL.nil _))) smT ?_ | refine callK 13 4 31 (encCw ⟨⟨upV f.v f.v.m w.xt d.1 0 f.v.hand, f.c⟩, b2⟩) (encCw ⟨⟨upV f.v f.v.m w.xt d.1 0 f.v.hand, f.c⟩, b2⟩) (c7) (encCw_closed _) (encCw_closed _) (RelL.cons (.ptr (j := 0) 0 0 rfl) (RelL.cons (.wk (by first | exact .same _ | exact .weak _ _ _ | exact .nilSl) (by first | exact .val _ | exact closed_s _ | exact .agg (encFo_closed _) | exact closedLCf _)) (RelL.nil _))) smT ?_ | refine goB ?_ | fail))
   exact awp_ret ⟨_, ResL.cons (ResA.agg rfl rfl rfl rfl rfl rfl rfl (RL.allClosed (encFo_closed _))) (ResL.cons (ResA.tmp (.val _)) .nil), rfl⟩
  | true =>
   by_cases h1 : w.xt < 1368 ∨ f.v.here < w.xt
   ·have c1 := okW_l ⟨f, b⟩ (-32)
    unfold okC at c1
    dsimp only at c1
    have c7 := doneW_l ⟨⟨upV f.v f.v.m w.xt d.1 0 f.v.hand, f.c⟩, okB b (-32)⟩ f
    rw [doneC_bad (bad _ (by decide))] at c7
    have er : (if f.c.xt ≠ 0 then (f, (-29 : Int)) else if true = false then (f, -13) else if w.xt < 1368 ∨ f.v.here < w.xt then (f, -32) else (⟨upV f.v f.v.m w.xt d.1 0 f.v.hand, f.c⟩, 0)) = (f, okB b (-32)) := by
     by_cases hx : f.c.xt = 0
     ·rw [if_neg (fun e => e hx), if_neg (by decide), if_pos h1, hb2 hx, okB_0 _ rfl]
     ·rw [if_pos hx, hb1 hx, okB_1 _ (by decide)]
    rw [er]
    generalize okB b (-32) = b2 at *
    unfold encFE at c7 ⊢
    by_cases h2 : w.xt < 1368
    ·have d1 : decide (w.xt < 1368) = true := decide_eq_true h2
     refine goF Tryz.func33 (closedL_cons (.agg (encFo_closed f)) (closedL_cons (.val _) closedL_nil)) (fun w0 st0 => ?_)
     dsimp only [frOf]
     (repeat' (first | refine goA ?_ | refine ARun.callN (n := 31) cb rfl rfl rfl rfl rfl (guardF_spec rfl) ?_ | refine cX cs ?_ | refine cX cf ?_ | refine ARun.nilCheckP rfl rfl (guardF_spec rfl) ?_ | refine cX c5 ?_ | refine callK 13 4 31 (encCw ⟨f, b⟩) (encCw ⟨f, b2⟩) (c1) (encCw_closed _) (encCw_closed _) (RelL.cons (.ptr (j := 0) 0 30 rfl) (RelL.cons (.wk (.same _) (.val _)) (RelL.nil _))) smT ?_ | refine callK 13 4 31 (encCw ⟨⟨upV f.v f.v.m w.xt d.1 0 f.v.hand, f.c⟩, b2⟩) (encCw ⟨⟨upV f.v f.v.m w.xt d.1 0 f.v.hand, f.c⟩, b2⟩) (c7) (encCw_closed _) (encCw_closed _) (RelL.cons (.ptr (j := 0) 0 0 rfl) (RelL.cons (.wk (by first | exact .same _ | exact .weak _ _ _ | exact .nilSl) (by first | exact .val _ | exact closed_s _ | exact .agg (encFo_closed _) | exact closedLCf _)) (RelL.nil _))) smT ?_ | refine goB ?_ | fail))
     exact awp_ret ⟨_, ResL.cons (ResA.agg rfl rfl rfl rfl rfl rfl rfl (RL.allClosed (encFo_closed _))) (ResL.cons (ResA.tmp (.val _)) .nil), rfl⟩
    ·have d1 : decide (w.xt < 1368) = false := decide_eq_false h2
     have d2 : decide (f.v.here < w.xt) = true := decide_eq_true (h1.resolve_left h2)
     refine goF Tryz.func33 (closedL_cons (.agg (encFo_closed f)) (closedL_cons (.val _) closedL_nil)) (fun w0 st0 => ?_)
     dsimp only [frOf]
     (repeat' (first | refine goA ?_ | refine ARun.callN (n := 31) cb rfl rfl rfl rfl rfl (guardF_spec rfl) ?_ | refine cX cs ?_ | refine cX cf ?_ | refine ARun.nilCheckP rfl rfl (guardF_spec rfl) ?_ | refine cX c5 ?_ | refine callK 13 4 31 (encCw ⟨f, b⟩) (encCw ⟨f, b2⟩) (c1) (encCw_closed _) (encCw_closed _) (RelL.cons (.ptr (j := 0) 0 30 rfl) (RelL.cons (.wk (.same _) (.val _)) (RelL.nil _))) smT ?_ | refine callK 13 4 31 (encCw ⟨⟨upV f.v f.v.m w.xt d.1 0 f.v.hand, f.c⟩, b2⟩) (encCw ⟨⟨upV f.v f.v.m w.xt d.1 0 f.v.hand, f.c⟩, b2⟩) (c7) (encCw_closed _) (encCw_closed _) (RelL.cons (.ptr (j := 0) 0 0 rfl) (RelL.cons (.wk (by first | exact .same _ | exact .weak _ _ _ | exact .nilSl) (by first | exact .val _ | exact closed_s _ | exact .agg (encFo_closed _) | exact closedLCf _)) (RelL.nil _))) smT ?_ | refine goB ?_ | fail))
     exact awp_ret ⟨_, ResL.cons (ResA.agg rfl rfl rfl rfl rfl rfl rfl (RL.allClosed (encFo_closed _))) (ResL.cons (ResA.tmp (.val _)) .nil), rfl⟩
   ·have d1 : decide (w.xt < 1368) = false := decide_eq_false (by omega)
    have d2 : decide (f.v.here < w.xt) = false := decide_eq_false (by omega)
    have c7 := doneW_l ⟨⟨upV f.v f.v.m w.xt d.1 0 f.v.hand, f.c⟩, b⟩ f
    rw [fin] at c7
    have er : (if f.c.xt ≠ 0 then (f, (-29 : Int)) else if true = false then (f, -13) else if w.xt < 1368 ∨ f.v.here < w.xt then (f, -32) else (⟨upV f.v f.v.m w.xt d.1 0 f.v.hand, f.c⟩, 0)) = if b ≠ 0 then (f, b) else (⟨upV f.v f.v.m w.xt d.1 0 f.v.hand, f.c⟩, 0) := by
     by_cases hx : f.c.xt = 0
     ·rw [if_neg (fun e => e hx), if_neg (by decide), if_neg h1, if_neg (fun e => e (hb2 hx))]
     ·rw [if_pos hx, if_pos (by rw [hb1 hx]; decide), hb1 hx]
    rw [er]
    generalize (if b ≠ 0 then (f, b) else (⟨upV f.v f.v.m w.xt d.1 0 f.v.hand, f.c⟩, 0) : Fo × Int) = r at *
    unfold encFE at c7 ⊢
    refine goF Tryz.func33 (closedL_cons (.agg (encFo_closed f)) (closedL_cons (.val _) closedL_nil)) (fun w0 st0 => ?_)
    dsimp only [frOf]
    (repeat' (first | refine goA ?_ | refine ARun.callN (n := 31) cb rfl rfl rfl rfl rfl (guardF_spec rfl) ?_ | refine cX cs ?_ | refine cX cf ?_ | refine ARun.nilCheckP rfl rfl (guardF_spec rfl) ?_ | refine cX c5 ?_ | refine callK 13 4 31 (encCw ⟨⟨upV f.v f.v.m w.xt d.1 0 f.v.hand, f.c⟩, b⟩) (encCw ⟨⟨upV f.v f.v.m w.xt d.1 0 f.v.hand, f.c⟩, b⟩) (c7) (encCw_closed _) (encCw_closed _) (RelL.cons (.ptr (j := 0) 0 0 rfl) (RelL.cons (.wk (by first | exact .same _ | exact .weak _ _ _ | exact .nilSl) (by first | exact .val _ | exact closed_s _ | exact .agg (encFo_closed _) | exact closedLCf _)) (RelL.nil _))) smT ?_ | refine goB ?_ | fail))
    exact awp_ret ⟨_, ResL.cons (ResA.agg rfl rfl rfl rfl rfl rfl rfl (RL.allClosed (encFo_closed _))) (ResL.cons (ResA.tmp (.val _)) .nil), rfl⟩
 have cb := begin_n f
 unfold beginC at cb
 by_cases hx : f.c.xt = 0
 ·rw [if_neg (fun e => e hx)] at cb
  exact key 0 cb (fun e => absurd hx e) (fun _ => rfl)
 ·rw [if_pos hx] at cb
  exact key (-29) cb (fun _ => rfl) (fun e => absurd e hx)
end Go.Proofs.YthlbcakjngcjbaaGreat
namespace Go.Proofs.YthlbcakjngcjbaaGreat
open Go Go.RowKit
open Go.Proofs.YthlbcakjngcjbaaGreat.Dict (St Bs bs_eq Wd encW encWs closed_ws addD flagD cutD encWE findD encFd NameIn setFl encW_closed)
open Go.Proofs.YthlbcakjngcjbaaGreat.Mem (Mm encM encBs closed_bs encP encP_closed closed_m storeD fetchD commaD alignD enc3m enc2m writeD)
open Go.Proofs.YthlbcakjngcjbaaGreat.Stk (encS closed_s encI_closed)
set_option maxRecDepth 100000
theorem state_any {f : Fo} {b : Int} (n : Int) (h : 16 ≤ f.v.m.b.length) : stateC ⟨f, b⟩ n = ⟨⟨stV f.v n, f.c⟩, b⟩ := by
 unfold stateC
 rw [store8 n h]
 unfold okC okB
 dsimp only
 split
 ·rename_i e
  rw [e]
  rfl
 ·rfl
theorem okC_any (f : Fo) (b : Int) : okC ⟨f, b⟩ 0 = ⟨f, b⟩ := by
 unfold okC okB
 dsimp only
 split
 ·rename_i e
  rw [e]
 ·rfl
attribute [local irreducible] Decidable.decide awp ARun regK toK
theorem hclip_c (l : List Hn) (hl : l.length ≤ 1000000) : FnC Tryz.prog 65 [encLHn l] (.sl 4 true (l.map encHn)) := by
 refine goF Tryz.func65 (closedL_cons (closedHn l) closedL_nil) (fun w0 st0 => ?_)
 dsimp only [frOf]
 (repeat' (first | refine goA ?_ | refine ARun.sliceClip rfl rfl rfl rfl rfl rfl (by first | exact .inr rfl | exact .inl rfl | (right; simp; done)) rfl (guardF_spec rfl) ?_ | refine goB ?_ | ((fail_if_success refine ARun.plain rfl ?_); refine ARun.fork rfl rfl rfl (fun h => ?_) (fun h => ?_)) | refine awp_cond rfl (fun h => ?_) (fun h => ?_)))
 exact awp_ret ⟨_, ResL.cons (ResA.tmp (.closed _ (.sl (own_closed_map encHn_closed)))) .nil, rfl⟩
set_option maxHeartbeats 16000000 in
theorem end_c (f : Fo) (h : Gd f.v 100) (hin : f.c.xt ≠ 0 → 0 ≤ f.c.dict ∧ f.c.dict < f.v.dict.length) : FnC Tryz.prog 19 [.agg (encFo f)] (encFE (endD' f)) := by
 have cm := made_c f
 have e1 : (((f.v.hand.map encHn).length : Nat) : Int) = f.v.hand.length := by rw [List.length_map]
 have e3 : (((f.c.cf.map encCf).length : Nat) : Int) = f.c.cf.length := by rw [List.length_map]
 have z : ((0 : Int) != 0) = false := by simp
 have early : ∀ e : Int, e ≠ 0 → FnL Tryz.prog 58 [.ptr 1000 0 0 0, .agg (encFo f)] [(31, [encCw ⟨f, e⟩])] (.tup [.agg (encFo f), .val (.int .i64 e)]) [[encCw ⟨f, e⟩]] := fun e he => by
  have := doneW_l ⟨f, e⟩ f
  rw [doneC_bad he] at this
  exact this
 unfold endD'
 by_cases hx : f.c.xt = 0
 ·rw [closeC_zero hx] at cm
  rw [if_pos hx]
  have c1 := okW_l ⟨f, 0⟩ (-14)
  rw [ok_zero] at c1
  have c3 := early (-14) (by decide)
  have z1 : ((-14 : Int) != 0) = true := by simp
  unfold encFE
  have nt : (!false) = true := rfl
  refine goF Tryz.func19 (closedL_cons (.agg (encFo_closed f)) closedL_nil) (fun w0 st0 => ?_)
  dsimp only [frOf]
  (repeat' (first | refine goA ?_ | refine cX cm ?_ | refine ARun.nilCheckP rfl rfl (guardF_spec rfl) ?_ | refine callK 10 5 31 (encCw ⟨f, 0⟩) (encCw ⟨f, -14⟩) (c1) (encCw_closed _) (encCw_closed _) (RelL.cons (.ptr (j := 0) 0 30 rfl) (RelL.cons (.wk (.same _) (.val _)) (RelL.nil _))) smT ?_ | refine callK 10 5 31 (encCw ⟨f, -14⟩) (encCw ⟨f, -14⟩) (c3) (encCw_closed _) (encCw_closed _) (RelL.cons (.ptr (j := 0) 0 0 rfl) (RelL.cons (.wk (by first | exact .same _ | exact .weak _ _ _ | exact .nilSl) (by first | exact .val _ | exact closed_s _ | exact .agg (encFo_closed _) | exact closedLCf _)) (RelL.nil _))) smT ?_ | refine goB ?_ | fail))
  exact awp_ret ⟨_, ResL.cons (ResA.agg rfl rfl rfl rfl rfl rfl rfl (RL.allClosed (encFo_closed _))) (ResL.cons (ResA.tmp (.val _)) .nil), rfl⟩
 rw [closeC_one hx] at cm
 rw [if_neg hx]
 have nt : (!true) = false := rfl
 by_cases h1 : 0 < f.c.cf.length
 ·rw [if_pos h1]
  have d1 : decide ((0 : Int) < ((f.c.cf.map encCf).length : Nat)) = true := decide_eq_true (by omega)
  have c1 := okW_l ⟨f, 0⟩ (-22)
  rw [ok_zero] at c1
  have c3 := early (-22) (by decide)
  have z1 : ((-22 : Int) != 0) = true := by simp
  unfold encFE
  refine goF Tryz.func19 (closedL_cons (.agg (encFo_closed f)) closedL_nil) (fun w0 st0 => ?_)
  dsimp only [frOf]
  (repeat' (first | refine goA ?_ | refine cX cm ?_ | refine ARun.nilCheckP rfl rfl (guardF_spec rfl) ?_ | refine callK 10 5 31 (encCw ⟨f, 0⟩) (encCw ⟨f, -22⟩) (c1) (encCw_closed _) (encCw_closed _) (RelL.cons (.ptr (j := 0) 0 30 rfl) (RelL.cons (.wk (.same _) (.val _)) (RelL.nil _))) smT ?_ | refine callK 10 5 31 (encCw ⟨f, -22⟩) (encCw ⟨f, -22⟩) (c3) (encCw_closed _) (encCw_closed _) (RelL.cons (.ptr (j := 0) 0 0 rfl) (RelL.cons (.wk (by first | exact .same _ | exact .weak _ _ _ | exact .nilSl) (by first | exact .val _ | exact closed_s _ | exact .agg (encFo_closed _) | exact closedLCf _)) (RelL.nil _))) smT ?_ | refine goB ?_ | fail))
  exact awp_ret ⟨_, ResL.cons (ResA.agg rfl rfl rfl rfl rfl rfl rfl (RL.allClosed (encFo_closed _))) (ResL.cons (ResA.tmp (.val _)) .nil), rfl⟩
 rw [if_neg h1]
 have d1 : decide ((0 : Int) < ((f.c.cf.map encCf).length : Nat)) = false := decide_eq_false (by omega)
 by_cases h2 : f.c.on = true ∧ 64 ≤ f.v.hand.length
 ·rw [if_pos h2]
  have d2 : decide ((64 : Int) ≤ ((f.v.hand.map encHn).length : Nat)) = true := decide_eq_true (by omega)
  have d3 := h2.1
  have c1 := okW_l ⟨f, 0⟩ (-8)
  rw [ok_zero] at c1
  have c3 := early (-8) (by decide)
  have z1 : ((-8 : Int) != 0) = true := by simp
  unfold encFE
  refine goF Tryz.func19 (closedL_cons (.agg (encFo_closed f)) closedL_nil) (fun w0 st0 => ?_)
  dsimp only [frOf]
  (repeat' (first | refine goA ?_ | refine cX cm ?_ | refine ARun.nilCheckP rfl rfl (guardF_spec rfl) ?_ | refine callK 10 5 31 (encCw ⟨f, 0⟩) (encCw ⟨f, -8⟩) (c1) (encCw_closed _) (encCw_closed _) (RelL.cons (.ptr (j := 0) 0 30 rfl) (RelL.cons (.wk (.same _) (.val _)) (RelL.nil _))) smT ?_ | refine callK 10 5 31 (encCw ⟨f, -8⟩) (encCw ⟨f, -8⟩) (c3) (encCw_closed _) (encCw_closed _) (RelL.cons (.ptr (j := 0) 0 0 rfl) (RelL.cons (.wk (by first | exact .same _ | exact .weak _ _ _ | exact .nilSl) (by first | exact .val _ | exact closed_s _ | exact .agg (encFo_closed _) | exact closedLCf _)) (RelL.nil _))) smT ?_ | refine goB ?_ | fail))
  exact awp_ret ⟨_, ResL.cons (ResA.agg rfl rfl rfl rfl rfl rfl rfl (RL.allClosed (encFo_closed _))) (ResL.cons (ResA.tmp (.val _)) .nil), rfl⟩
 rw [if_neg h2]
 have cw := cellsW_l ⟨f, 0⟩ [32] (by decide) (h.ok.le (by decide))
 have hly := cellsK_lays (v := f.v) [32] h.rng
 have ew : cellsC' ⟨f, 0⟩ [32] = ⟨⟨(cellsK f.v [32]).v, f.c⟩, (cellsK f.v [32]).bad⟩ := rfl
 rw [ew] at cw
 have hkeq := hly.eq
 have hbl := hly.bl
 have hol := hly.ol
 simp only [List.length_cons, List.length_nil] at hol
 generalize cellsK f.v [32] = k at *
 obtain ⟨kv, kl, kb⟩ := k
 dsimp only at cw hkeq hbl hol ⊢
 generalize kv.m = m at *
 generalize kv.here = hh at *
 subst hkeq
 obtain ⟨hi0, hi1⟩ := hin hx
 obtain ⟨w, hw⟩ : ∃ w, f.v.dict[f.c.dict.toNat]? = some w := ⟨_, List.getElem?_eq_getElem (by omega)⟩
 have hp : (f.v.dict.map encW)[f.c.dict.toNat]? = some (encW w) := by rw [List.getElem?_map, hw]; rfl
 have hfl := (h.ni w (List.mem_of_getElem? hw)).2
 have hfl2 := clearH_rng hfl
 have hdl := h.dl
 have c5 := Dict.flag_c f.v.dict f.c.dict (clearH w.fl) hdl (by omega)
 have hfo := flag_ok (l := f.v.dict) (i := f.c.dict) ⟨hi0, hi1⟩ hfl2
 unfold encWE at c5
 rw [hfo] at c5
 have hbin := bin_andNot2 (P := Tryz.prog) (t := 3) hfl
 rw [flAt_some hw]
 have c6 := okW_l ⟨⟨withMH f.v m hh, f.c⟩, kb⟩ 0
 rw [okC_any] at c6
 generalize (flagD f.v.dict f.c.dict (clearH w.fl)).1 = l2 at *
 generalize clearH w.fl = fl2 at *
 have hb := h.ok.b
 have ho := h.ok.o
 have hbig := h.big
 have hhl := h.hl
 have c8 := stateW_l ⟨⟨withMHD f.v m hh l2, f.c⟩, kb⟩ 0 (by show m.b.length ≤ 1000000; omega) (by show m.old.length ≤ 1000000; omega)
 rw [state_any (f := ⟨withMHD f.v m hh l2, f.c⟩) 0 (by show 16 ≤ m.b.length; omega)] at c8
 unfold stV at c8 ⊢
 rw [show (withMHD f.v m hh l2).m = m from rfl] at c8
 have ev : ∀ hd, (upV (withMH f.v m hh) m hh l2 f.v.last hd).m = m := fun hd => rfl
 simp only [ev]
 generalize (storeD m 8 0).1 = m2 at *
 cases hon : f.c.on with
 | false =>
  have c7 := doneW_l ⟨⟨upV f.v m2 hh l2 f.v.last f.v.hand, cp0⟩, kb⟩ f
  have hd : doneC ⟨⟨upV f.v m2 hh l2 f.v.last f.v.hand, cp0⟩, kb⟩ f = if kb ≠ 0 then (f, kb) else (⟨upV f.v m2 hh l2 f.v.last f.v.hand, cp0⟩, 0) := rfl
  have er : (if kb ≠ 0 then (f, kb) else (⟨withMH (upV (withMH f.v m hh) m hh l2 f.v.last (if false = true then f.v.hand ++ [⟨f.c.xt, f.c.fuel, 0, false⟩] else f.v.hand)) m2 (upV (withMH f.v m hh) m hh l2 f.v.last (if false = true then f.v.hand ++ [⟨f.c.xt, f.c.fuel, 0, false⟩] else f.v.hand)).here, cp0⟩, 0) : Fo × Int) = doneC ⟨⟨upV f.v m2 hh l2 f.v.last f.v.hand, cp0⟩, kb⟩ f := by
   rw [hd]
   rfl
  rw [er]
  generalize doneC ⟨⟨upV f.v m2 hh l2 f.v.last f.v.hand, cp0⟩, kb⟩ f = r at *
  unfold encFE at c7 ⊢
  refine goF Tryz.func19 (closedL_cons (.agg (encFo_closed f)) closedL_nil) (fun w0 st0 => ?_)
  dsimp only [frOf]
  (repeat' (first | refine goN ?_ | refine awp_region_ne 19 rfl (fun _ => hmix) ?_ | refine ARun.bin rfl rfl hbin rfl (guardF_spec rfl) ?_ | refine ARun.o rfl ?_ | refine cX cm ?_ | refine ARun.nilCheckP rfl rfl (guardF_spec rfl) ?_ | refine callK 10 5 31 (encCw ⟨f, 0⟩) (encCw ⟨⟨withMH f.v m hh, f.c⟩, kb⟩) (cw) (encCw_closed _) (encCw_closed _) (RelL.cons (.ptr (j := 0) 0 0 rfl) (RelL.cons (.wk (by first | exact .same _ | exact .weak _ _ _ | exact .nilSl) (by first | exact .val _ | exact closed_s _ | exact .agg (encFo_closed _) | exact closedLCf _)) (RelL.nil _))) smT ?_ | refine ARun.indexAddr rfl rfl (by omega) (by exact hp) rfl rfl rfl rfl rfl (guardF_spec rfl) ?_ | refine cX c5 ?_ | refine callK 10 5 31 (encCw ⟨⟨withMH f.v m hh, f.c⟩, kb⟩) (encCw ⟨⟨withMH f.v m hh, f.c⟩, kb⟩) (c6) (encCw_closed _) (encCw_closed _) (RelL.cons (.ptr (j := 0) 0 30 rfl) (RelL.cons (.wk (.same _) (.val _)) (RelL.nil _))) smT ?_ | refine callK 10 5 31 (encCw ⟨⟨withMHD f.v m hh l2, f.c⟩, kb⟩) (encCw ⟨⟨withMH (withMHD f.v m hh l2) m2 hh, f.c⟩, kb⟩) (c8) (encCw_closed _) (encCw_closed _) (RelL.cons (.ptr (j := 0) 0 0 rfl) (RelL.cons (.wk (.same _) (.val _)) (RelL.nil _))) smT ?_ | refine goB ?_ | ((fail_if_success refine ARun.plain rfl ?_); refine ARun.fork rfl rfl rfl (fun h => ?_) (fun h => ?_)) | refine awp_cond rfl (fun h => ?_) (fun h => ?_)))
  refine awp_wkH 10 [encCw ⟨⟨upV f.v m2 hh l2 f.v.last f.v.hand, cp0⟩, kb⟩] rfl rfl (RelR.cons (by repeat' (first | exact RelL.nil _ | refine RelL.cons (by first | exact .same _ | exact Wk.nilSl | (show Wk _ (.sl 4 false ((f.v.hand ++ [(⟨f.c.xt, f.c.fuel, 0, false⟩ : Hn)]).map encHn)); rw [List.map_append]; exact .same _)) ?_)) (RelR.nil _)) ?_
  (repeat' (first | refine goA ?_ | refine callK 10 5 31 (encCw ⟨⟨upV f.v m2 hh l2 f.v.last f.v.hand, cp0⟩, kb⟩) (encCw ⟨⟨upV f.v m2 hh l2 f.v.last f.v.hand, cp0⟩, kb⟩) (c7) (encCw_closed _) (encCw_closed _) (RelL.cons (.ptr (j := 0) 0 0 rfl) (RelL.cons (.wk (by first | exact .same _ | exact .weak _ _ _ | exact .nilSl) (by first | exact .val _ | exact closed_s _ | exact .agg (encFo_closed _) | exact closedLCf _)) (RelL.nil _))) smT ?_ | refine goB ?_ | fail))
  exact awp_ret ⟨_, ResL.cons (ResA.agg rfl rfl rfl rfl rfl rfl rfl (RL.allClosed (encFo_closed _))) (ResL.cons (ResA.tmp (.val _)) .nil), rfl⟩
 | true =>
  have d2 : decide ((64 : Int) ≤ ((f.v.hand.map encHn).length : Nat)) = false := decide_eq_false (fun e => h2 ⟨hon, by omega⟩)
  have ch := hclip_c f.v.hand hhl
  have c7 := doneW_l ⟨⟨upV f.v m2 hh l2 f.v.last (f.v.hand ++ [⟨f.c.xt, f.c.fuel, 0, false⟩]), cp0⟩, kb⟩ f
  have hd : doneC ⟨⟨upV f.v m2 hh l2 f.v.last (f.v.hand ++ [⟨f.c.xt, f.c.fuel, 0, false⟩]), cp0⟩, kb⟩ f = if kb ≠ 0 then (f, kb) else (⟨upV f.v m2 hh l2 f.v.last (f.v.hand ++ [⟨f.c.xt, f.c.fuel, 0, false⟩]), cp0⟩, 0) := rfl
  have er : (if kb ≠ 0 then (f, kb) else (⟨withMH (upV (withMH f.v m hh) m hh l2 f.v.last (if true = true then f.v.hand ++ [⟨f.c.xt, f.c.fuel, 0, false⟩] else f.v.hand)) m2 (upV (withMH f.v m hh) m hh l2 f.v.last (if true = true then f.v.hand ++ [⟨f.c.xt, f.c.fuel, 0, false⟩] else f.v.hand)).here, cp0⟩, 0) : Fo × Int) = doneC ⟨⟨upV f.v m2 hh l2 f.v.last (f.v.hand ++ [⟨f.c.xt, f.c.fuel, 0, false⟩]), cp0⟩, kb⟩ f := by
   rw [hd]
   rfl
  rw [er]
  generalize doneC ⟨⟨upV f.v m2 hh l2 f.v.last (f.v.hand ++ [⟨f.c.xt, f.c.fuel, 0, false⟩]), cp0⟩, kb⟩ f = r at *
  unfold encFE at c7 ⊢
  refine goF Tryz.func19 (closedL_cons (.agg (encFo_closed f)) closedL_nil) (fun w0 st0 => ?_)
  dsimp only [frOf]
  (repeat' (first | refine goN ?_ | refine awp_region_ne 19 rfl (fun _ => hmix) ?_ | refine ARun.bin rfl rfl hbin rfl (guardF_spec rfl) ?_ | refine ARun.o rfl ?_ | refine cX cm ?_ | refine cX ch ?_ | refine ARun.appendZ rfl (by first | exact SrcA.sl rfl (.inr rfl) | exact SrcA.sl rfl (.inl rfl) | exact SrcA.ownW rfl rfl rfl rfl) rfl rfl rfl (by first | exact .inr rfl | exact .inl rfl | (right; simp; done)) (by first | exact .inr rfl | exact .inl rfl | (right; simp; done)) rfl rfl lensT lensT (own_closed_app encHn_closed (encHn_closed ⟨f.c.xt, f.c.fuel, 0, false⟩)) rfl (guardF_spec rfl) ?_ | refine ARun.nilCheckP rfl rfl (guardF_spec rfl) ?_ | refine callK 10 5 31 (encCw ⟨f, 0⟩) (encCw ⟨⟨withMH f.v m hh, f.c⟩, kb⟩) (cw) (encCw_closed _) (encCw_closed _) (RelL.cons (.ptr (j := 0) 0 0 rfl) (RelL.cons (.wk (by first | exact .same _ | exact .weak _ _ _ | exact .nilSl) (by first | exact .val _ | exact closed_s _ | exact .agg (encFo_closed _) | exact closedLCf _)) (RelL.nil _))) smT ?_ | refine ARun.indexAddr rfl rfl (by omega) (by exact hp) rfl rfl rfl rfl rfl (guardF_spec rfl) ?_ | refine cX c5 ?_ | refine callK 10 5 31 (encCw ⟨⟨withMH f.v m hh, f.c⟩, kb⟩) (encCw ⟨⟨withMH f.v m hh, f.c⟩, kb⟩) (c6) (encCw_closed _) (encCw_closed _) (RelL.cons (.ptr (j := 0) 0 30 rfl) (RelL.cons (.wk (.same _) (.val _)) (RelL.nil _))) smT ?_ | refine callK 10 5 31 (encCw ⟨⟨withMHD f.v m hh l2, f.c⟩, kb⟩) (encCw ⟨⟨withMH (withMHD f.v m hh l2) m2 hh, f.c⟩, kb⟩) (c8) (encCw_closed _) (encCw_closed _) (RelL.cons (.ptr (j := 0) 0 0 rfl) (RelL.cons (.wk (.same _) (.val _)) (RelL.nil _))) smT ?_ | refine goB ?_ | ((fail_if_success refine ARun.plain rfl ?_); refine ARun.fork rfl rfl rfl (fun h => ?_) (fun h => ?_)) | refine awp_cond rfl (fun h => ?_) (fun h => ?_)))
  refine awp_wkH 10 [encCw ⟨⟨upV f.v m2 hh l2 f.v.last (f.v.hand ++ [⟨f.c.xt, f.c.fuel, 0, false⟩]), cp0⟩, kb⟩] rfl rfl (RelR.cons (by repeat' (first | exact RelL.nil _ | refine RelL.cons (by first | exact .same _ | exact Wk.nilSl | (show Wk _ (.sl 4 false ((f.v.hand ++ [(⟨f.c.xt, f.c.fuel, 0, false⟩ : Hn)]).map encHn)); rw [List.map_append]; exact .same _)) ?_)) (RelR.nil _)) ?_
  (repeat' (first | refine goA ?_ | refine callK 10 5 31 (encCw ⟨⟨upV f.v m2 hh l2 f.v.last (f.v.hand ++ [⟨f.c.xt, f.c.fuel, 0, false⟩]), cp0⟩, kb⟩) (encCw ⟨⟨upV f.v m2 hh l2 f.v.last (f.v.hand ++ [⟨f.c.xt, f.c.fuel, 0, false⟩]), cp0⟩, kb⟩) (c7) (encCw_closed _) (encCw_closed _) (RelL.cons (.ptr (j := 0) 0 0 rfl) (RelL.cons (.wk (by first | exact .same _ | exact .weak _ _ _ | exact .nilSl) (by first | exact .val _ | exact closed_s _ | exact .agg (encFo_closed _) | exact closedLCf _)) (RelL.nil _))) smT ?_ | refine goB ?_ | fail))
  exact awp_ret ⟨_, ResL.cons (ResA.agg rfl rfl rfl rfl rfl rfl rfl (RL.allClosed (encFo_closed _))) (ResL.cons (ResA.tmp (.val _)) .nil), rfl⟩
end Go.Proofs.YthlbcakjngcjbaaGreat
namespace Go.Proofs.YthlbcakjngcjbaaGreat
open Go Go.RowKit
open Go.Proofs.YthlbcakjngcjbaaGreat.Dict (St Bs bs_eq Wd encW encWs closed_ws addD flagD cutD encWE findD encFd NameIn setFl encW_closed)
open Go.Proofs.YthlbcakjngcjbaaGreat.Mem (Mm encM encBs closed_bs encP encP_closed closed_m storeD fetchD commaD alignD enc3m enc2m writeD)
open Go.Proofs.YthlbcakjngcjbaaGreat.Stk (encS closed_s encI_closed)
set_option maxRecDepth 100000
def encV3 (r : V × Int × Int) : AV := .tup [.agg (encV r.1), .val (.int .i64 r.2.1), .val (.int .i64 r.2.2)]
attribute [local irreducible] Decidable.decide awp ARun regK toK
theorem ref_state_c (v : V) (n : Int) (hb : v.m.b.length ≤ 1000000) (ho : v.m.old.length ≤ 1000000) : FnC Tryz.prog 62 [.agg (encV v), .val (.int .i64 n)] (.agg (encV (stV v n))) := by
 have c1 := Mem.ref_store_c v.m 8 n hb ho
 simp only [enc2m] at c1
 unfold stV
 generalize storeD v.m 8 n = p at *
 refine goF Tryz.func62 (closedL_cons (closedV v) (closedL_cons (.val _) closedL_nil)) (fun w0 st0 => ?_)
 dsimp only [frOf]
 (repeat' (first | refine goA ?_ | refine cX c1 ?_ | refine goB ?_ | fail))
 exact awp_ret ⟨_, ResL.cons (ResA.agg rfl rfl rfl rfl rfl rfl rfl (RL.allClosed (encV_closed (withMH v p.1 v.here)))) .nil, rfl⟩
set_option maxHeartbeats 8000000 in
theorem ref_word_c (v : V) (name : Bs) (fl : Int) (l : List Int) (hl : l.length ≤ 1000) (h : Okk v (l.length + 1)) (hd : v.dict.length ≤ 1000000) (hn : name.length ≤ 1000000) :
  FnC Tryz.prog 61 [.agg (encV v), St name, .val (.int .i64 fl), encS l] (encV3 (wordR v name fl l)) := by
 have c1 := Mem.ref_align_c v.m v.here h.b (by have := h.o; omega) ⟨h.h0, h.h1⟩
 simp only [enc3m] at c1
 have hr : Rng v := ⟨h.h0, h.h1⟩
 have hm := fun d => ml_align (v := v) d hr
 unfold wordR
 have c3 := Dict.ref_add_c v.dict name (alignD v.m v.here).2.1 fl v.cf.words hd hn
 unfold encWE at c3
 generalize alignD v.m v.here = a at *
 generalize addD v.dict name a.2.1 fl v.cf.words = d at *
 by_cases h1 : a.2.2 = 0
 case neg =>
  have d1 : (a.2.2 != 0) = true := by simp [h1]
  rw [if_pos h1]
  unfold encV3
  refine goF Tryz.func61 (closedL_cons (closedV v) (closedL_cons (.val _) (closedL_cons (.val _) (closedL_cons (closed_s l) closedL_nil)))) (fun w0 st0 => ?_)
  dsimp only [frOf]
  (repeat' (first | refine goA ?_ | refine cX c1 ?_ | refine goB ?_ | fail))
  exact awp_ret ⟨_, ResL.cons (ResA.agg rfl rfl rfl rfl rfl rfl rfl (RL.allClosed (encV_closed _))) (ResL.cons (ResA.tmp (.val _)) (ResL.cons (ResA.tmp (.val _)) .nil)), rfl⟩
 have d1 : (a.2.2 != 0) = false := by simp [h1]
 rw [if_neg (fun e => e h1)]
 by_cases h2 : d.2 = 0
 case neg =>
  have d2 : (d.2 != 0) = true := by simp [h2]
  rw [if_pos h2]
  unfold encV3
  refine goF Tryz.func61 (closedL_cons (closedV v) (closedL_cons (.val _) (closedL_cons (.val _) (closedL_cons (closed_s l) closedL_nil)))) (fun w0 st0 => ?_)
  dsimp only [frOf]
  (repeat' (first | refine goA ?_ | refine cX c1 ?_ | refine cX c3 ?_ | refine goB ?_ | fail))
  exact awp_ret ⟨_, ResL.cons (ResA.agg rfl rfl rfl rfl rfl rfl rfl (RL.allClosed (encV_closed _))) (ResL.cons (ResA.tmp (.val _)) (ResL.cons (ResA.tmp (.val _)) .nil)), rfl⟩
 have d2 : (d.2 != 0) = false := by simp [h2]
 rw [if_neg (fun e => e h2)]
 have c5 := ref_cells_c (withMHD v a.1 a.2.1 d.1) l hl ((hm d.1).okk (h.le (by omega)))
 by_cases h3 : (cellsK (withMHD v a.1 a.2.1 d.1) l).bad = 0
 ·rw [if_neg (fun e => e h3)]
  rw [show outD (cellsK (withMHD v a.1 a.2.1 d.1) l) (withMHD v a.1 a.2.1 d.1) = ((cellsK (withMHD v a.1 a.2.1 d.1) l).v, 0) from if_pos h3] at c5
  generalize (cellsK (withMHD v a.1 a.2.1 d.1) l).v = y at *
  unfold encVE at c5
  unfold encV3
  have z : ((0 : Int) != 0) = false := by simp
  refine goF Tryz.func61 (closedL_cons (closedV v) (closedL_cons (.val _) (closedL_cons (.val _) (closedL_cons (closed_s l) closedL_nil)))) (fun w0 st0 => ?_)
  dsimp only [frOf]
  (repeat' (first | refine goA ?_ | refine cX c1 ?_ | refine cX c3 ?_ | refine cX c5 ?_ | refine goB ?_ | fail))
  exact awp_ret ⟨_, ResL.cons (ResA.agg rfl rfl rfl rfl rfl rfl rfl (RL.allClosed (encV_closed _))) (ResL.cons (ResA.tmp (.val _)) (ResL.cons (ResA.tmp (.val _)) .nil)), rfl⟩
 ·rw [if_pos h3]
  rw [show outD (cellsK (withMHD v a.1 a.2.1 d.1) l) (withMHD v a.1 a.2.1 d.1) = ((withMHD v a.1 a.2.1 d.1), (cellsK (withMHD v a.1 a.2.1 d.1) l).bad) from if_neg h3] at c5
  have d3 : ((cellsK (withMHD v a.1 a.2.1 d.1) l).bad != 0) = true := by simp [h3]
  generalize (cellsK (withMHD v a.1 a.2.1 d.1) l).bad = y at *
  unfold encVE at c5
  unfold encV3
  refine goF Tryz.func61 (closedL_cons (closedV v) (closedL_cons (.val _) (closedL_cons (.val _) (closedL_cons (closed_s l) closedL_nil)))) (fun w0 st0 => ?_)
  dsimp only [frOf]
  (repeat' (first | refine goA ?_ | refine cX c1 ?_ | refine cX c3 ?_ | refine cX c5 ?_ | refine goB ?_ | fail))
  exact awp_ret ⟨_, ResL.cons (ResA.agg rfl rfl rfl rfl rfl rfl rfl (RL.allClosed (encV_closed _))) (ResL.cons (ResA.tmp (.val _)) (ResL.cons (ResA.tmp (.val _)) .nil)), rfl⟩
set_option maxHeartbeats 8000000 in
theorem ref_begin_c (f : Fo) (name : Bs) (on : Bool) (fuel : Int) (h : Gd f.v 100) (hn : name.length ≤ 1000000) : FnC Tryz.prog 18 [.agg (encFo f), St name, .val (.bool on), .val (.int .i64 fuel)] (encFE (beginD f name on fuel)) := by
 unfold beginD
 by_cases hx : f.c.xt = 0
 case neg =>
  have d := closeC_one hx
  rw [if_pos hx]
  unfold encFE
  refine goF Tryz.func18 (closedL_cons (.agg (encFo_closed f)) (closedL_cons (.val _) (closedL_cons (.val _) (closedL_cons (.val _) closedL_nil)))) (fun w0 st0 => ?_)
  dsimp only [frOf]
  (repeat' (first | refine goA ?_ | refine goB ?_ | fail))
  exact awp_ret ⟨_, ResL.cons (ResA.agg rfl rfl rfl rfl rfl rfl rfl (RL.allClosed (encFo_closed _))) (ResL.cons (ResA.tmp (.val _)) .nil), rfl⟩
 have d := closeC_zero hx
 rw [if_neg (fun e => e hx)]
 have e1 : (((f.v.hand.map encHn).length : Nat) : Int) = f.v.hand.length := by rw [List.length_map]
 have e2 : (((f.v.dict.map encW).length : Nat) : Int) = f.v.dict.length := by rw [List.length_map]
 by_cases h1 : on = true ∧ (fuel < 0 ∨ 1048576 < fuel)
 ·rw [if_pos h1]
  obtain ⟨rfl, h1⟩ := h1
  unfold encFE
  by_cases h2 : fuel < 0
  ·have d1 : decide (fuel < 0) = true := decide_eq_true h2
   refine goF Tryz.func18 (closedL_cons (.agg (encFo_closed f)) (closedL_cons (.val _) (closedL_cons (.val _) (closedL_cons (.val _) closedL_nil)))) (fun w0 st0 => ?_)
   dsimp only [frOf]
   (repeat' (first | refine goA ?_ | refine goB ?_ | fail))
   exact awp_ret ⟨_, ResL.cons (ResA.agg rfl rfl rfl rfl rfl rfl rfl (RL.allClosed (encFo_closed _))) (ResL.cons (ResA.tmp (.val _)) .nil), rfl⟩
  ·have d1 : decide (fuel < 0) = false := decide_eq_false h2
   have d2 : decide (1048576 < fuel) = true := decide_eq_true (by omega)
   refine goF Tryz.func18 (closedL_cons (.agg (encFo_closed f)) (closedL_cons (.val _) (closedL_cons (.val _) (closedL_cons (.val _) closedL_nil)))) (fun w0 st0 => ?_)
   dsimp only [frOf]
   (repeat' (first | refine goA ?_ | refine goB ?_ | fail))
   exact awp_ret ⟨_, ResL.cons (ResA.agg rfl rfl rfl rfl rfl rfl rfl (RL.allClosed (encFo_closed _))) (ResL.cons (ResA.tmp (.val _)) .nil), rfl⟩
 rw [if_neg h1]
 by_cases h2 : on = true ∧ 64 ≤ f.v.hand.length
 ·rw [if_pos h2]
  obtain ⟨rfl, h2⟩ := h2
  have d1 : decide (fuel < 0) = false := decide_eq_false (fun e => h1 ⟨rfl, .inl e⟩)
  have d2 : decide (1048576 < fuel) = false := decide_eq_false (fun e => h1 ⟨rfl, .inr e⟩)
  have d3 : decide ((64 : Int) ≤ ((f.v.hand.map encHn).length : Nat)) = true := decide_eq_true (by omega)
  unfold encFE
  refine goF Tryz.func18 (closedL_cons (.agg (encFo_closed f)) (closedL_cons (.val _) (closedL_cons (.val _) (closedL_cons (.val _) closedL_nil)))) (fun w0 st0 => ?_)
  dsimp only [frOf]
  (repeat' (first | refine goA ?_ | refine goB ?_ | fail))
  exact awp_ret ⟨_, ResL.cons (ResA.agg rfl rfl rfl rfl rfl rfl rfl (RL.allClosed (encFo_closed _))) (ResL.cons (ResA.tmp (.val _)) .nil), rfl⟩
 rw [if_neg h2]
 have cw := ref_word_c f.v name 2 [256] (by decide) (h.ok.le (by decide)) h.dl hn
 have hbl : (wordR f.v name 2 [256]).2.2 = 0 → (wordR f.v name 2 [256]).1.m.b.length ≤ 1000000 ∧ (wordR f.v name 2 [256]).1.m.old.length ≤ 1000000 := fun e => by
  have hm := (wordR_yes e h.rng).2.1
  have ho := h.ok.o
  have hl := h.ok.b
  have h1 := hm.bl
  have h2 := hm.ol
  simp only [List.length_cons, List.length_nil] at h2
  omega
 generalize wordR f.v name 2 [256] = r at *
 unfold encV3 at cw
 by_cases h3 : r.2.2 = 0
 ·have d4 : (r.2.2 != 0) = false := by simp [h3]
  rw [if_neg (fun e => e h3), ← e2]
  obtain ⟨k1, k2⟩ := hbl h3
  have c4 := ref_state_c r.1 (-1) k1 k2
  generalize stV r.1 (-1) = v1 at *
  unfold encFE
  cases on with
  | false =>
   refine goF Tryz.func18 (closedL_cons (.agg (encFo_closed f)) (closedL_cons (.val _) (closedL_cons (.val _) (closedL_cons (.val _) closedL_nil)))) (fun w0 st0 => ?_)
   dsimp only [frOf]
   (repeat' (first | refine goA ?_ | refine callW (cw) rfl wkT rfl rfl ?_ | refine cX c4 ?_ | refine goB ?_ | fail))
   exact awp_ret ⟨_, ResL.cons (ResA.agg rfl rfl rfl rfl rfl rfl rfl (by repeat' (first | exact RL.nil _ | refine RL.cons (by first | exact Reif.val _ | exact Reif.nilSl | exact .closed _ (by first | exact closed_bs _ | exact closed_s _ | exact closed_ws _ | exact closedFr _ | exact closedRq _ | exact closedHn _ | exact closedLCf _ | exact closed_map encP_closed)) ?_))) (ResL.cons (ResA.tmp (.val _)) .nil), rfl⟩
  | true =>
   have d1 : decide (fuel < 0) = false := decide_eq_false (fun e => h1 ⟨rfl, .inl e⟩)
   have d2 : decide (1048576 < fuel) = false := decide_eq_false (fun e => h1 ⟨rfl, .inr e⟩)
   have d3 : decide ((64 : Int) ≤ ((f.v.hand.map encHn).length : Nat)) = false := decide_eq_false (fun e => h2 ⟨rfl, by omega⟩)
   refine goF Tryz.func18 (closedL_cons (.agg (encFo_closed f)) (closedL_cons (.val _) (closedL_cons (.val _) (closedL_cons (.val _) closedL_nil)))) (fun w0 st0 => ?_)
   dsimp only [frOf]
   (repeat' (first | refine goA ?_ | refine callW (cw) rfl wkT rfl rfl ?_ | refine cX c4 ?_ | refine goB ?_ | fail))
   exact awp_ret ⟨_, ResL.cons (ResA.agg rfl rfl rfl rfl rfl rfl rfl (by repeat' (first | exact RL.nil _ | refine RL.cons (by first | exact Reif.val _ | exact Reif.nilSl | exact .closed _ (by first | exact closed_bs _ | exact closed_s _ | exact closed_ws _ | exact closedFr _ | exact closedRq _ | exact closedHn _ | exact closedLCf _ | exact closed_map encP_closed)) ?_))) (ResL.cons (ResA.tmp (.val _)) .nil), rfl⟩
 ·have d4 : (r.2.2 != 0) = true := by simp [h3]
  rw [if_pos h3]
  unfold encFE
  cases on with
  | false =>
   refine goF Tryz.func18 (closedL_cons (.agg (encFo_closed f)) (closedL_cons (.val _) (closedL_cons (.val _) (closedL_cons (.val _) closedL_nil)))) (fun w0 st0 => ?_)
   dsimp only [frOf]
   (repeat' (first | refine goA ?_ | refine callW (cw) rfl wkT rfl rfl ?_ | refine goB ?_ | fail))
   exact awp_ret ⟨_, ResL.cons (ResA.agg rfl rfl rfl rfl rfl rfl rfl (RL.allClosed (encFo_closed _))) (ResL.cons (ResA.tmp (.val _)) .nil), rfl⟩
  | true =>
   have d1 : decide (fuel < 0) = false := decide_eq_false (fun e => h1 ⟨rfl, .inl e⟩)
   have d2 : decide (1048576 < fuel) = false := decide_eq_false (fun e => h1 ⟨rfl, .inr e⟩)
   have d3 : decide ((64 : Int) ≤ ((f.v.hand.map encHn).length : Nat)) = false := decide_eq_false (fun e => h2 ⟨rfl, by omega⟩)
   refine goF Tryz.func18 (closedL_cons (.agg (encFo_closed f)) (closedL_cons (.val _) (closedL_cons (.val _) (closedL_cons (.val _) closedL_nil)))) (fun w0 st0 => ?_)
   dsimp only [frOf]
   (repeat' (first | refine goA ?_ | refine callW (cw) rfl wkT rfl rfl ?_ | refine goB ?_ | fail))
   exact awp_ret ⟨_, ResL.cons (ResA.agg rfl rfl rfl rfl rfl rfl rfl (RL.allClosed (encFo_closed _))) (ResL.cons (ResA.tmp (.val _)) .nil), rfl⟩
set_option maxHeartbeats 8000000 in
theorem ref_undo_c (f : Fo) (h : Gd f.v 10) : FnC Tryz.prog 22 [.agg (encFo f)] (.agg (encFo (undoD f))) := by
 unfold undoD
 by_cases hx : f.c.xt = 0
 ·have d : (f.c.xt == 0) = true := beq_iff_eq.2 hx
  rw [if_pos hx]
  refine goF Tryz.func22 (closedL_cons (.agg (encFo_closed f)) closedL_nil) (fun w0 st0 => ?_)
  dsimp only [frOf]
  (repeat' (first | refine goA ?_ | refine goB ?_ | fail))
  exact awp_ret ⟨_, ResL.cons (ResA.agg rfl rfl rfl rfl rfl rfl rfl (RL.allClosed (encFo_closed _))) .nil, rfl⟩
 have d : (f.c.xt == 0) = false := beq_eq_false_iff_ne.2 hx
 rw [if_neg hx]
 have c4 := ref_state_c f.v 0 h.ok.b (by have := h.ok.o; omega)
 have c5 := Dict.ref_cut_c f.v.dict f.c.dict h.dl
 unfold encWE at c5
 unfold stV at c4
 generalize storeD f.v.m 8 0 = s at *
 generalize cutD f.v.dict f.c.dict = d at *
 refine goF Tryz.func22 (closedL_cons (.agg (encFo_closed f)) closedL_nil) (fun w0 st0 => ?_)
 dsimp only [frOf]
 (repeat' (first | refine goA ?_ | refine cX c4 ?_ | refine cX c5 ?_ | refine goB ?_ | fail))
 exact awp_ret ⟨_, ResL.cons (ResA.agg rfl rfl rfl rfl rfl rfl rfl (by repeat' (first | exact RL.nil _ | refine RL.cons (by first | exact Reif.val _ | exact Reif.nilSl | exact .closed _ (by first | exact closed_bs _ | exact closed_s _ | exact closed_ws _ | exact closedFr _ | exact closedRq _ | exact closedHn _ | exact closedLCf _ | exact closed_map encP_closed)) ?_))) .nil, rfl⟩
end Go.Proofs.YthlbcakjngcjbaaGreat
