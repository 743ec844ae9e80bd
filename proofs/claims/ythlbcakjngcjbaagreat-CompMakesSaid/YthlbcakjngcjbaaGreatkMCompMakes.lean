/- CompMakes' walk. -/
import Derived.Test.YthlbcakjngcjbaaGreatW1
import Derived.Test.YthlbcakjngcjbaaGreatW2
import Derived.Test.YthlbcakjngcjbaaGreatW3
import Derived.Test.YthlbcakjngcjbaaGreatW4
import Derived.Test.YthlbcakjngcjbaaGreatkW5
import Derived.Test.YthlbcakjngcjbaaGreatkW6
import Derived.Test.YthlbcakjngcjbaaGreatkW7
import Derived.Test.YthlbcakjngcjbaaGreatkW8
import Derived.Test.YthlbcakjngcjbaaGreatkW9
import Derived.Test.YthlbcakjngcjbaaGreatkW10
import Derived.Test.YthlbcakjngcjbaaGreatkW11
import Derived.Test.YthlbcakjngcjbaaGreatkW12
import Derived.Test.YthlbcakjngcjbaaGreatkW13
import Derived.Test.YthlbcakjngcjbaaGreatkW14
import Derived.Test.YthlbcakjngcjbaaGreatkW15
import Derived.Test.YthlbcakjngcjbaaGreatkW16
import Derived.Test.YthlbcakjngcjbaaGreatkW17
import Derived.Test.YthlbcakjngcjbaaGreatkW18
import Derived.Test.YthlbcakjngcjbaaGreatkW19
import Derived.Test.YthlbcakjngcjbaaGreatkW20
import Derived.Test.YthlbcakjngcjbaaGreatkW21
import Derived.Test.YthlbcakjngcjbaaGreatkW22
import Derived.Test.YthlbcakjngcjbaaGreatkW23
set_option linter.unusedVariables false
set_option linter.unusedSimpArgs false
namespace Go.Proofs.YthlbcakjngcjbaaGreat
open Go Go.RowKit
open Go.Proofs.YthlbcakjngcjbaaGreat.Dict (St Bs bs_eq Wd encW encWs closed_ws addD flagD cutD encWE findD encFd NameIn setFl encW_closed)
open Go.Proofs.YthlbcakjngcjbaaGreat.Mem (Mm encM encBs closed_bs encP encP_closed closed_m storeD fetchD commaD alignD enc3m enc2m writeD)
open Go.Proofs.YthlbcakjngcjbaaGreat.Stk (encS closed_s encI_closed)
set_option maxRecDepth 100000
theorem bin_quo2 {P : Program} {t : TypeId} {fl : Int} (h : 0 ≤ fl ∧ fl ≤ 7) : BinR P .quo t (.int .i64 fl) (.int .i64 2) (.int .i64 (fl / 2)) := by
 have h8 : fl = 0 ∨ fl = 1 ∨ fl = 2 ∨ fl = 3 ∨ fl = 4 ∨ fl = 5 ∨ fl = 6 ∨ fl = 7 := by omega
 rcases h8 with rfl | rfl | rfl | rfl | rfl | rfl | rfl | rfl <;> exact bin_wrap (fun w => rfl)
theorem bin_rem2 {P : Program} {t : TypeId} {fl : Int} (h : 0 ≤ fl ∧ fl ≤ 7) : BinR P .rem t (.int .i64 (fl / 2)) (.int .i64 2) (.int .i64 (fl / 2 % 2)) := by
 have h8 : fl = 0 ∨ fl = 1 ∨ fl = 2 ∨ fl = 3 ∨ fl = 4 ∨ fl = 5 ∨ fl = 6 ∨ fl = 7 := by omega
 rcases h8 with rfl | rfl | rfl | rfl | rfl | rfl | rfl | rfl <;> exact bin_wrap (fun w => rfl)
theorem relR_hn (l : List Hn) (x : Hn) : RelR Wk (l.map encHn ++ [encHn x]) ((l ++ [x]).map encHn) := by
 rw [List.map_append]
 exact relR_same
attribute [local irreducible] Decidable.decide awp ARun regK toK
set_option maxHeartbeats 16000000 in
theorem ref_end_c (f : Fo) (h : Gd f.v 100) (hin : f.c.xt ≠ 0 → 0 ≤ f.c.dict ∧ f.c.dict < f.v.dict.length) : FnC Tryz.prog 20 [.agg (encFo f)] (encFE (endD' f)) := by
 have e1 : (((f.v.hand.map encHn).length : Nat) : Int) = f.v.hand.length := by rw [List.length_map]
 have e3 : (((f.c.cf.map encCf).length : Nat) : Int) = f.c.cf.length := by rw [List.length_map]
 have z : ((0 : Int) != 0) = false := by simp
 unfold endD'
 by_cases hx : f.c.xt = 0
 ·have dx : (f.c.xt == 0) = true := beq_iff_eq.2 hx
  rw [if_pos hx]
  unfold encFE
  refine goF Tryz.func20 (closedL_cons (.agg (encFo_closed f)) closedL_nil) (fun w0 st0 => ?_)
  dsimp only [frOf]
  (repeat' (first | refine goA ?_ | refine goB ?_ | fail))
  exact awp_ret ⟨_, ResL.cons (ResA.agg rfl rfl rfl rfl rfl rfl rfl (RL.allClosed (encFo_closed _))) (ResL.cons (ResA.tmp (.val _)) .nil), rfl⟩
 have dx : (f.c.xt == 0) = false := beq_eq_false_iff_ne.2 hx
 rw [if_neg hx]
 by_cases h1 : 0 < f.c.cf.length
 ·rw [if_pos h1]
  have d1 : decide ((0 : Int) < ((f.c.cf.map encCf).length : Nat)) = true := decide_eq_true (by omega)
  unfold encFE
  refine goF Tryz.func20 (closedL_cons (.agg (encFo_closed f)) closedL_nil) (fun w0 st0 => ?_)
  dsimp only [frOf]
  (repeat' (first | refine goA ?_ | refine goB ?_ | fail))
  exact awp_ret ⟨_, ResL.cons (ResA.agg rfl rfl rfl rfl rfl rfl rfl (RL.allClosed (encFo_closed _))) (ResL.cons (ResA.tmp (.val _)) .nil), rfl⟩
 rw [if_neg h1]
 have d1 : decide ((0 : Int) < ((f.c.cf.map encCf).length : Nat)) = false := decide_eq_false (by omega)
 by_cases h2 : f.c.on = true ∧ 64 ≤ f.v.hand.length
 ·rw [if_pos h2]
  have d2 : decide ((64 : Int) ≤ ((f.v.hand.map encHn).length : Nat)) = true := decide_eq_true (by omega)
  have d3 := h2.1
  unfold encFE
  refine goF Tryz.func20 (closedL_cons (.agg (encFo_closed f)) closedL_nil) (fun w0 st0 => ?_)
  dsimp only [frOf]
  (repeat' (first | refine goA ?_ | refine goB ?_ | fail))
  exact awp_ret ⟨_, ResL.cons (ResA.agg rfl rfl rfl rfl rfl rfl rfl (RL.allClosed (encFo_closed _))) (ResL.cons (ResA.tmp (.val _)) .nil), rfl⟩
 rw [if_neg h2]
 have c5 := ref_cells_c f.v [32] (by decide) (h.ok.le (by decide))
 have hly := cellsK_lays (v := f.v) [32] h.rng
 have hkeq := hly.eq
 have hbl := hly.bl
 have hol := hly.ol
 simp only [List.length_cons, List.length_nil] at hol
 have c5n : (cellsK f.v [32]).bad = 0 → outD (cellsK f.v [32]) f.v = ((cellsK f.v [32]).v, 0) := fun e => if_pos e
 have c5y : (cellsK f.v [32]).bad ≠ 0 → outD (cellsK f.v [32]) f.v = (f.v, (cellsK f.v [32]).bad) := fun e => if_neg e
 generalize cellsK f.v [32] = k at *
 obtain ⟨kv, kl, kb⟩ := k
 dsimp only at c5 c5n c5y hkeq hbl hol ⊢
 by_cases hk : kb = 0
 case neg =>
  rw [c5y hk] at c5
  rw [if_pos hk]
  have d4 : (kb != 0) = true := by simp [hk]
  unfold encVE at c5
  unfold encFE
  cases hon : f.c.on with
  | false =>
   refine goF Tryz.func20 (closedL_cons (.agg (encFo_closed f)) closedL_nil) (fun w0 st0 => ?_)
   dsimp only [frOf]
   (repeat' (first | refine goA ?_ | refine callW (c5) rfl (by (repeat (refine WkL.cons (by first | exact Wk.same _ | exact Wk.nilSl | exact Wk.weak _ _ _ | exact Wk.aggL (by (repeat (refine WkL.cons (by first | exact Wk.same _ | exact Wk.nilSl | exact Wk.weak _ _ _) ?_)); exact WkL.nil)) ?_)); exact WkL.nil) rfl rfl ?_ | refine goB ?_ | fail))
   exact awp_ret ⟨_, ResL.cons (ResA.agg rfl rfl rfl rfl rfl rfl rfl (RL.allClosed (encFo_closed _))) (ResL.cons (ResA.tmp (.val _)) .nil), rfl⟩
  | true =>
   have d2 : decide ((64 : Int) ≤ ((f.v.hand.map encHn).length : Nat)) = false := decide_eq_false (fun e => h2 ⟨hon, by omega⟩)
   refine goF Tryz.func20 (closedL_cons (.agg (encFo_closed f)) closedL_nil) (fun w0 st0 => ?_)
   dsimp only [frOf]
   (repeat' (first | refine goA ?_ | refine callW (c5) rfl (by (repeat (refine WkL.cons (by first | exact Wk.same _ | exact Wk.nilSl | exact Wk.weak _ _ _ | exact Wk.aggL (by (repeat (refine WkL.cons (by first | exact Wk.same _ | exact Wk.nilSl | exact Wk.weak _ _ _) ?_)); exact WkL.nil)) ?_)); exact WkL.nil) rfl rfl ?_ | refine goB ?_ | fail))
   exact awp_ret ⟨_, ResL.cons (ResA.agg rfl rfl rfl rfl rfl rfl rfl (RL.allClosed (encFo_closed _))) (ResL.cons (ResA.tmp (.val _)) .nil), rfl⟩
 rw [c5n hk] at c5
 rw [if_neg (fun e => e hk)]
 clear c5n c5y hk
 generalize kv.m = m at *
 generalize kv.here = hh at *
 subst hkeq
 obtain ⟨hi0, hi1⟩ := hin hx
 obtain ⟨w, hw⟩ : ∃ w, f.v.dict[f.c.dict.toNat]? = some w := ⟨_, List.getElem?_eq_getElem (by omega)⟩
 have hp : (f.v.dict.map encW)[f.c.dict.toNat]? = some (encW w) := by rw [List.getElem?_map, hw]; rfl
 have hfl := (h.ni w (List.mem_of_getElem? hw)).2
 have hfl2 := clearH_rng hfl
 have hdl := h.dl
 have c6 := Dict.ref_flag_c f.v.dict f.c.dict (clearH w.fl) hdl
 have hfo := flag_ok (l := f.v.dict) (i := f.c.dict) ⟨hi0, hi1⟩ hfl2
 unfold encWE at c6
 rw [hfo] at c6
 have hb1 := bin_quo2 (P := Tryz.prog) (t := 3) hfl
 have hb2 := bin_rem2 (P := Tryz.prog) (t := 3) hfl
 rw [flAt_some hw]
 generalize hl2 : (flagD f.v.dict f.c.dict (clearH w.fl)).1 = l2 at *
 have hb := h.ok.b
 have ho := h.ok.o
 have hbig := h.big
 have hhl := h.hl
 have hhl2 : (withMH f.v m hh).hand.length ≤ 1000000 := hhl
 unfold encVE at c5
 have hcl : w.fl / 2 % 2 = 1 → clearH w.fl = w.fl - 2 := fun e => if_pos e
 have hcl2 : w.fl / 2 % 2 ≠ 1 → clearH w.fl = w.fl := fun e => if_neg e
 by_cases hbit : w.fl / 2 % 2 = 1
 ·have d8 : (w.fl / 2 % 2 == 1) = true := beq_iff_eq.2 hbit
  rw [hcl hbit] at c6
  cases hon : f.c.on with
  | false =>
   have c7 := ref_state_c (upV (withMH f.v m hh) m hh l2 f.v.last f.v.hand) 0 (by show m.b.length ≤ 1000000; omega) (by show m.old.length ≤ 1000000; omega)
   rw [if_neg (by decide)]
   generalize hst : stV (upV (withMH f.v m hh) m hh l2 f.v.last f.v.hand) 0 = x at *
   unfold encFE
   refine goF Tryz.func20 (closedL_cons (.agg (encFo_closed f)) closedL_nil) (fun w0 st0 => ?_)
   dsimp only [frOf]
   (repeat' (first | refine ARun.bin rfl rfl hb2 rfl (guardF_spec rfl) ?_ | refine ARun.bin rfl rfl hb1 rfl (guardF_spec rfl) ?_ | refine goA ?_ | refine callW (c5) rfl (by (repeat (refine WkL.cons (by first | exact Wk.same _ | exact Wk.nilSl | exact Wk.weak _ _ _ | exact Wk.aggL (by (repeat (refine WkL.cons (by first | exact Wk.same _ | exact Wk.nilSl | exact Wk.weak _ _ _) ?_)); exact WkL.nil)) ?_)); exact WkL.nil) rfl rfl ?_ | refine cX c6 ?_ | refine cX c7 ?_ | refine ARun.indexAddr rfl rfl (by omega) (by exact hp) rfl rfl rfl rfl rfl (guardF_spec rfl) ?_ | refine goB ?_ | fail))
   exact awp_ret ⟨_, ResL.cons (ResA.agg rfl rfl rfl rfl rfl rfl rfl (by repeat' (first | exact RL.nil _ | refine RL.cons (by first | exact Reif.val _ | exact Reif.nilSl | exact .closed _ (by first | exact closed_bs _ | exact closed_s _ | exact closed_ws _ | exact closedFr _ | exact closedRq _ | exact closedHn _ | exact closedLCf _ | exact closed_map encP_closed)) ?_))) (ResL.cons (ResA.tmp (.val _)) .nil), rfl⟩
  | true =>
   have d2 : decide ((64 : Int) ≤ ((f.v.hand.map encHn).length : Nat)) = false := decide_eq_false (fun e => h2 ⟨hon, by omega⟩)
   have c7 := ref_state_c (upV (withMH f.v m hh) m hh l2 f.v.last (f.v.hand ++ [⟨f.c.xt, f.c.fuel, 0, false⟩])) 0 (by show m.b.length ≤ 1000000; omega) (by show m.old.length ≤ 1000000; omega)
   rw [if_pos rfl]
   generalize hst : stV (upV (withMH f.v m hh) m hh l2 f.v.last (f.v.hand ++ [⟨f.c.xt, f.c.fuel, 0, false⟩])) 0 = x at *
   unfold encFE
   refine goF Tryz.func20 (closedL_cons (.agg (encFo_closed f)) closedL_nil) (fun w0 st0 => ?_)
   dsimp only [frOf]
   (repeat' (first | refine goN ?_ | refine awp_region_ne 19 rfl (fun _ => hmix) ?_ | refine ARun.bin rfl rfl hb2 rfl (guardF_spec rfl) ?_ | refine ARun.bin rfl rfl hb1 rfl (guardF_spec rfl) ?_ | refine ARun.o rfl ?_ | refine callW (c5) rfl (by (repeat (refine WkL.cons (by first | exact Wk.same _ | exact Wk.nilSl | exact Wk.weak _ _ _ | exact Wk.aggL (by (repeat (refine WkL.cons (by first | exact Wk.same _ | exact Wk.nilSl | exact Wk.weak _ _ _) ?_)); exact WkL.nil)) ?_)); exact WkL.nil) rfl rfl ?_ | refine cX c6 ?_ | refine ARun.indexAddr rfl rfl (by omega) (by exact hp) rfl rfl rfl rfl rfl (guardF_spec rfl) ?_ | refine appF rfl ?_ | refine appO rfl ?_ | refine goB ?_ | ((fail_if_success refine ARun.plain rfl ?_); refine ARun.fork rfl rfl rfl (fun h => ?_) (fun h => ?_)) | refine awp_cond rfl (fun h => ?_) (fun h => ?_)))
   refine awp_wkH 73 ((f.v.hand ++ [(⟨f.c.xt, f.c.fuel, 0, false⟩ : Hn)]).map encHn) rfl rfl (relR_hn f.v.hand ⟨f.c.xt, f.c.fuel, 0, false⟩) ?_
   (repeat' (first | refine goA ?_ | refine callGX [(73, _)] (c7) (BsOk.cons rfl (own_closed_map encHn_closed) (BsOk.nil _)) rfl (by refine FzL.cons (Fz.aggL ?_) (FzL.cons (Fz.same _) (FzL.nil _)); (repeat (refine FzL.cons (by first | exact Fz.same _ | exact Fz.own1 (.head _) rfl (by show (List.map encHn (f.v.hand ++ [_])).length = _; first | (simp; done) | (simp; rfl))) ?_)); exact FzL.nil _) rfl rfl ?_ | refine goB ?_ | fail))
   exact awp_ret ⟨_, ResL.cons (ResA.agg rfl rfl rfl rfl rfl rfl rfl (by repeat' (first | exact RL.nil _ | refine RL.cons (by first | exact Reif.val _ | exact Reif.nilSl | exact .closed _ (by first | exact closed_bs _ | exact closed_s _ | exact closed_ws _ | exact closedFr _ | exact closedRq _ | exact closedHn _ | exact closedLCf _ | exact closed_map encP_closed)) ?_))) (ResL.cons (ResA.tmp (.val _)) .nil), rfl⟩
 ·have d8 : (w.fl / 2 % 2 == 1) = false := beq_eq_false_iff_ne.2 hbit
  rw [hcl2 hbit] at c6
  cases hon : f.c.on with
  | false =>
   have c7 := ref_state_c (upV (withMH f.v m hh) m hh l2 f.v.last f.v.hand) 0 (by show m.b.length ≤ 1000000; omega) (by show m.old.length ≤ 1000000; omega)
   rw [if_neg (by decide)]
   generalize hst : stV (upV (withMH f.v m hh) m hh l2 f.v.last f.v.hand) 0 = x at *
   unfold encFE
   refine goF Tryz.func20 (closedL_cons (.agg (encFo_closed f)) closedL_nil) (fun w0 st0 => ?_)
   dsimp only [frOf]
   (repeat' (first | refine ARun.bin rfl rfl hb2 rfl (guardF_spec rfl) ?_ | refine ARun.bin rfl rfl hb1 rfl (guardF_spec rfl) ?_ | refine goA ?_ | refine callW (c5) rfl (by (repeat (refine WkL.cons (by first | exact Wk.same _ | exact Wk.nilSl | exact Wk.weak _ _ _ | exact Wk.aggL (by (repeat (refine WkL.cons (by first | exact Wk.same _ | exact Wk.nilSl | exact Wk.weak _ _ _) ?_)); exact WkL.nil)) ?_)); exact WkL.nil) rfl rfl ?_ | refine cX c6 ?_ | refine cX c7 ?_ | refine ARun.indexAddr rfl rfl (by omega) (by exact hp) rfl rfl rfl rfl rfl (guardF_spec rfl) ?_ | refine goB ?_ | fail))
   exact awp_ret ⟨_, ResL.cons (ResA.agg rfl rfl rfl rfl rfl rfl rfl (by repeat' (first | exact RL.nil _ | refine RL.cons (by first | exact Reif.val _ | exact Reif.nilSl | exact .closed _ (by first | exact closed_bs _ | exact closed_s _ | exact closed_ws _ | exact closedFr _ | exact closedRq _ | exact closedHn _ | exact closedLCf _ | exact closed_map encP_closed)) ?_))) (ResL.cons (ResA.tmp (.val _)) .nil), rfl⟩
  | true =>
   have d2 : decide ((64 : Int) ≤ ((f.v.hand.map encHn).length : Nat)) = false := decide_eq_false (fun e => h2 ⟨hon, by omega⟩)
   have c7 := ref_state_c (upV (withMH f.v m hh) m hh l2 f.v.last (f.v.hand ++ [⟨f.c.xt, f.c.fuel, 0, false⟩])) 0 (by show m.b.length ≤ 1000000; omega) (by show m.old.length ≤ 1000000; omega)
   rw [if_pos rfl]
   generalize hst : stV (upV (withMH f.v m hh) m hh l2 f.v.last (f.v.hand ++ [⟨f.c.xt, f.c.fuel, 0, false⟩])) 0 = x at *
   unfold encFE
   refine goF Tryz.func20 (closedL_cons (.agg (encFo_closed f)) closedL_nil) (fun w0 st0 => ?_)
   dsimp only [frOf]
   (repeat' (first | refine goN ?_ | refine awp_region_ne 19 rfl (fun _ => hmix) ?_ | refine ARun.bin rfl rfl hb2 rfl (guardF_spec rfl) ?_ | refine ARun.bin rfl rfl hb1 rfl (guardF_spec rfl) ?_ | refine ARun.o rfl ?_ | refine callW (c5) rfl (by (repeat (refine WkL.cons (by first | exact Wk.same _ | exact Wk.nilSl | exact Wk.weak _ _ _ | exact Wk.aggL (by (repeat (refine WkL.cons (by first | exact Wk.same _ | exact Wk.nilSl | exact Wk.weak _ _ _) ?_)); exact WkL.nil)) ?_)); exact WkL.nil) rfl rfl ?_ | refine cX c6 ?_ | refine ARun.indexAddr rfl rfl (by omega) (by exact hp) rfl rfl rfl rfl rfl (guardF_spec rfl) ?_ | refine appF rfl ?_ | refine appO rfl ?_ | refine goB ?_ | ((fail_if_success refine ARun.plain rfl ?_); refine ARun.fork rfl rfl rfl (fun h => ?_) (fun h => ?_)) | refine awp_cond rfl (fun h => ?_) (fun h => ?_)))
   refine awp_wkH 73 ((f.v.hand ++ [(⟨f.c.xt, f.c.fuel, 0, false⟩ : Hn)]).map encHn) rfl rfl (relR_hn f.v.hand ⟨f.c.xt, f.c.fuel, 0, false⟩) ?_
   (repeat' (first | refine goA ?_ | refine callGX [(73, _)] (c7) (BsOk.cons rfl (own_closed_map encHn_closed) (BsOk.nil _)) rfl (by refine FzL.cons (Fz.aggL ?_) (FzL.cons (Fz.same _) (FzL.nil _)); (repeat (refine FzL.cons (by first | exact Fz.same _ | exact Fz.own1 (.head _) rfl (by show (List.map encHn (f.v.hand ++ [_])).length = _; first | (simp; done) | (simp; rfl))) ?_)); exact FzL.nil _) rfl rfl ?_ | refine goB ?_ | fail))
   exact awp_ret ⟨_, ResL.cons (ResA.agg rfl rfl rfl rfl rfl rfl rfl (by repeat' (first | exact RL.nil _ | refine RL.cons (by first | exact Reif.val _ | exact Reif.nilSl | exact .closed _ (by first | exact closed_bs _ | exact closed_s _ | exact closed_ws _ | exact closedFr _ | exact closedRq _ | exact closedHn _ | exact closedLCf _ | exact closed_map encP_closed)) ?_))) (ResL.cons (ResA.tmp (.val _)) .nil), rfl⟩
end Go.Proofs.YthlbcakjngcjbaaGreat
namespace Go.Proofs.YthlbcakjngcjbaaGreat
open Go Go.RowKit
open Go.Proofs.YthlbcakjngcjbaaGreat.Dict (St Bs bs_eq Wd encW encWs closed_ws)
open Go.Proofs.YthlbcakjngcjbaaGreat.Mem (Mm encM encBs closed_bs encP encP_closed closed_m)
open Go.Proofs.YthlbcakjngcjbaaGreat.Stk (encS closed_s)
set_option maxRecDepth 100000
structure Mi where
 f : Fo
 s : Bs
 on : Bool
 n : Int
def encMi (w : Mi) : List AV := [.val (.int .i64 w.f.v.cf.mem), .val (.int .i64 w.f.v.cf.data), .val (.int .i64 w.f.v.cf.ret), .val (.int .i64 w.f.v.cf.words), .val (.int .i64 w.f.v.cf.out), encBs w.f.v.m.b, .sl 2 false (w.f.v.m.old.map encP), .val (.int .i64 w.f.v.here), encS w.f.v.d, encS w.f.v.r, encLFr w.f.v.f, encWs w.f.v.dict, .val (.int .i64 w.f.v.last), encBs w.f.v.out, encBs w.f.v.pb, .val (.bool w.f.v.po), encLRq w.f.v.req, .val (.int .i64 w.f.v.free), .val (.int .i64 w.f.v.next), .val (.int .i64 w.f.v.arg), .val (.int .i64 w.f.v.self), .val (.int .i64 w.f.v.now), encLHn w.f.v.hand, .val (.int .i64 w.f.c.xt), encLCf w.f.c.cf, .val (.int .i64 w.f.c.here), .val (.int .i64 w.f.c.dict), .val (.int .i64 w.f.c.last), .val (.bool w.f.c.on), .val (.int .i64 w.f.c.fuel), St w.s, .val (.bool w.on), .val (.int .i64 w.n)]
theorem encMi_eq (w : Mi) : encMi w = encFo w.f ++ [St w.s, .val (.bool w.on), .val (.int .i64 w.n)] := rfl
theorem encMi_closed (w : Mi) : ∀ x, x ∈ encMi w → Closed x := fun x hx => by
 rw [encMi_eq] at hx
 rcases List.mem_append.1 hx with hx | hx
 ·exact encFo_closed w.f x hx
 ·exact (closedL_cons (.val _) (closedL_cons (.val _) (closedL_cons (.val _) closedL_nil))) x hx
theorem sameF_self {f x : Fo} (h : Keeps f x) (ho : f.v.m.old.length ≤ 1000) : FnC Tryz.prog 15 [.agg (encFo x), .agg (encFo x)] (.val (.bool true)) := by
 have := ref_sameF_c x x (h.held ho) (h.held ho) h.r.lv.2 h.r.lv.1 h.r.lv.1
 rw [pD_yes rfl] at this
 exact this
theorem may_parts {f : Fo} (h : FewF f ∧ RightF f) : f.v.m.old.length ≤ 1000 ∧ Gd f.v 900 ∧ (f.c.xt ≠ 0 → 0 ≤ f.c.dict ∧ f.c.dict < f.v.dict.length) := by
 have h1 := h.1.1.f1.2.1
 exact ⟨by omega, h.2.1.gd (by omega) _ (by omega), fun e => ⟨(h.2.2.2 e).2.1.2.2.1, (h.2.2.2 e).2.1.2.2.2⟩⟩
theorem selfb14 (x : Int) : (x == x) = true := by simp
attribute [local irreducible] Decidable.decide awp ARun regK toK
set_option maxHeartbeats 16000000 in
theorem makes14_c (w : Mi) (hi : FlIn w.f.v.dict) : FnC Tryz.prog 4 [.agg (encMi w)] (.val (.bool true)) := by
 have c0 := shown14_c
 have cm := mayF_c w.f hi
 have nt : (!true) = false := rfl
 have nf : (!false) = true := rfl
 by_cases hm : FewF w.f ∧ RightF w.f
 case neg =>
  rw [pD_no hm] at cm
  refine goF Tryz.func4 (closedL_cons (.agg (encMi_closed w)) closedL_nil) (fun w0 st0 => ?_)
  dsimp only [frOf]
  (repeat' (first | refine goA ?_ | refine cX c0 ?_ | refine cX cm ?_ | refine goB ?_ | fail))
  exact awp_ret ⟨_, ResL.cons (ResA.tmp (.val _)) .nil, rfl⟩
 rw [pD_yes hm] at cm
 have hz : (ByteArray.mk w.s.toArray).size = w.s.length := rfl
 by_cases hs : 60 < w.s.length
 ·have d : decide ((60 : Int) < ((ByteArray.mk w.s.toArray).size : Nat)) = true := decide_eq_true (by omega)
  refine goF Tryz.func4 (closedL_cons (.agg (encMi_closed w)) closedL_nil) (fun w0 st0 => ?_)
  dsimp only [frOf]
  (repeat' (first | refine goA ?_ | refine cX c0 ?_ | refine cX cm ?_ | refine goB ?_ | fail))
  exact awp_ret ⟨_, ResL.cons (ResA.tmp (.val _)) .nil, rfl⟩
 have d : decide ((60 : Int) < ((ByteArray.mk w.s.toArray).size : Nat)) = false := decide_eq_false (by omega)
 obtain ⟨ho, hg, hin⟩ := may_parts hm
 have k1 := beginW_c w.f w.s w.on w.n (hg.le (by omega)) (by omega)
 have k2 := ref_begin_c w.f w.s w.on w.n (hg.le (by omega)) (by omega)
 have k3 := end_c w.f (hg.le (by omega)) hin
 have k4 := ref_end_c w.f (hg.le (by omega)) hin
 have k5 := undo_c w.f (hg.le (by omega))
 have k6 := ref_undo_c w.f (hg.le (by omega))
 have s1 := sameF_self (begin_keeps hm.2 w.s w.on w.n) ho
 have s2 := sameF_self (end_keeps hm.2) ho
 have s3 := sameF_self (undo_keeps hm.2) ho
 clear ho hg hin hm hz hi
 generalize beginD w.f w.s w.on w.n = p1 at *
 generalize endD' w.f = p2 at *
 generalize undoD w.f = p3 at *
 unfold encFE at k1 k2 k3 k4
 have e1 := selfb14 p1.2
 have e2 := selfb14 p2.2
 refine goF Tryz.func4 (closedL_cons (.agg (encMi_closed w)) closedL_nil) (fun w0 st0 => ?_)
 dsimp only [frOf]
 (repeat' (first | refine goA ?_ | refine cX c0 ?_ | refine cX cm ?_ | refine cX k1 ?_ | refine cX k2 ?_ | refine cX k3 ?_ | refine cX k4 ?_ | refine cX k5 ?_ | refine cX k6 ?_ | refine cX s1 ?_ | refine cX s2 ?_ | refine cX s3 ?_ | refine goB ?_ | fail))
 (refine awp_ret ⟨_, ResL.cons (ResA.tmp (.val _)) .nil, congrArg (fun b => AV.val (.bool b)) ?_⟩; first | rfl | (symm; assumption) | assumption)
end Go.Proofs.YthlbcakjngcjbaaGreat
