/- yC9, yC11, yC12, yJ1, yJ2. -/
import Derived.Test.YtfphgelollhdhaaGreatW1
import Derived.Test.YtfphgelollhdhaaGreatW2
import Derived.Test.YtfphgelollhdhaaGreatW3
import Derived.Test.YtfphgelollhdhaaGreatW4
import Derived.Test.YtfphgelollhdhaaGreatyW5
import Derived.Test.YtfphgelollhdhaaGreatyW6
import Derived.Test.YtfphgelollhdhaaGreatyW7
import Derived.Test.YtfphgelollhdhaaGreatyW8
import Derived.Test.YtfphgelollhdhaaGreatyW9
import Derived.Test.YtfphgelollhdhaaGreatyW10
import Derived.Test.YtfphgelollhdhaaGreatyW11
import Derived.Test.YtfphgelollhdhaaGreatyW12
import Derived.Test.YtfphgelollhdhaaGreatyW13
import Derived.Test.YtfphgelollhdhaaGreatyW14
import Derived.Test.YtfphgelollhdhaaGreatyW15
import Derived.Test.YtfphgelollhdhaaGreatyW16
import Derived.Test.YtfphgelollhdhaaGreatyW17
import Derived.Test.YtfphgelollhdhaaGreatyW18
import Derived.Test.YtfphgelollhdhaaGreatyW19
import Derived.Laws.Strings
set_option linter.unusedVariables false
set_option linter.unusedSimpArgs false
namespace Go.Proofs.YtfphgelollhdhaaGreat
open Go Go.RowKit
open Go.Proofs.YtfphgelollhdhaaGreat.Dict (St Bs bs_eq Wd encW encWs closed_ws addD flagD cutD encWE findD encFd NameIn setFl encW_closed)
open Go.Proofs.YtfphgelollhdhaaGreat.Mem (Mm encM encBs closed_bs encP encP_closed closed_m storeD fetchD commaD alignD enc3m enc2m writeD)
open Go.Proofs.YtfphgelollhdhaaGreat.Stk (encS closed_s encI_closed)
set_option maxRecDepth 100000
attribute [local irreducible] Decidable.decide awp ARun regK toK
end Go.Proofs.YtfphgelollhdhaaGreat
namespace Go.Proofs.YtfphgelollhdhaaGreat
open Go Go.RowKit
open Go.Proofs.YtfphgelollhdhaaGreat.Dict (St Bs bs_eq Wd encW encWs closed_ws addD flagD cutD encWE findD encFd NameIn setFl encW_closed)
open Go.Proofs.YtfphgelollhdhaaGreat.Mem (Mm encM encBs closed_bs encP encP_closed closed_m storeD fetchD commaD alignD enc3m enc2m writeD)
open Go.Proofs.YtfphgelollhdhaaGreat.Stk (encS closed_s encI_closed)
set_option maxRecDepth 100000
theorem machL_len (q : Nat) : (machL q).length = 4 + q := by
 unfold machL
 rw [List.length_append, List.length_replicate]
 rfl
@[local simp] theorem machL_lenS (q : Nat) : (machL q).length = q + 1 + 1 + 1 + 1 := by
 rw [machL_len]
 omega
theorem relR_same {l : List (List AV)} : RelR Wk l l := by
 induction l with
 | nil => exact RelR.nil _
 | cons x l ih =>
  refine RelR.cons ?_ ih
  clear ih
  induction x with
  | nil => exact RelL.nil _
  | cons y x ih => exact RelL.cons (.same _) ih
attribute [local irreducible] Decidable.decide awp ARun regK toK machL
end Go.Proofs.YtfphgelollhdhaaGreat
namespace Go.Proofs.YtfphgelollhdhaaGreat
open Go Go.RowKit
open Go.Proofs.YtfphgelollhdhaaGreat.Dict (St Bs bs_eq Wd encW encWs closed_ws addD flagD cutD encWE findD encFd NameIn setFl encW_closed)
open Go.Proofs.YtfphgelollhdhaaGreat.Mem (Mm encM encBs closed_bs encP encP_closed closed_m storeD fetchD commaD alignD enc3m enc2m writeD)
open Go.Proofs.YtfphgelollhdhaaGreat.Stk (encS closed_s encI_closed)
set_option maxRecDepth 100000
theorem bin_quo2 {P : Program} {t : TypeId} {fl : Int} (h : 0 ≤ fl ∧ fl ≤ 7) : BinR P .quo t (.int .i64 fl) (.int .i64 2) (.int .i64 (fl / 2)) := by
 have h8 : fl = 0 ∨ fl = 1 ∨ fl = 2 ∨ fl = 3 ∨ fl = 4 ∨ fl = 5 ∨ fl = 6 ∨ fl = 7 := by omega
 rcases h8 with rfl | rfl | rfl | rfl | rfl | rfl | rfl | rfl <;> exact bin_wrap (fun w => rfl)
theorem bin_rem2 {P : Program} {t : TypeId} {fl : Int} (h : 0 ≤ fl ∧ fl ≤ 7) : BinR P .rem t (.int .i64 (fl / 2)) (.int .i64 2) (.int .i64 (fl / 2 % 2)) := by
 have h8 : fl = 0 ∨ fl = 1 ∨ fl = 2 ∨ fl = 3 ∨ fl = 4 ∨ fl = 5 ∨ fl = 6 ∨ fl = 7 := by omega
 rcases h8 with rfl | rfl | rfl | rfl | rfl | rfl | rfl | rfl <;> exact bin_wrap (fun w => rfl)
theorem relR_hn (l : List Hn) (x : Hn) : RelR Wk (l.map encHn ++ [encHn x]) ((l ++ [x]).map encHn) := by
 rw [List.map_append]
 exact relR_same
attribute [local irreducible] Decidable.decide awp ARun regK toK
set_option maxHeartbeats 16000000 in
theorem ref_end_c (f : Fo) (h : Gd f.v 100) (hin : f.c.xt ≠ 0 → 0 ≤ f.c.dict ∧ f.c.dict < f.v.dict.length) : FnC Tryz.prog 85 [.agg (encFo f)] (encFE (endD' f)) := by
 have e1 : (((f.v.hand.map encHn).length : Nat) : Int) = f.v.hand.length := by rw [List.length_map]
 have e3 : (((f.c.cf.map encCf).length : Nat) : Int) = f.c.cf.length := by rw [List.length_map]
 have z : ((0 : Int) != 0) = false := by simp
 unfold endD'
 by_cases hx : f.c.xt = 0
 ·have dx : (f.c.xt == 0) = true := beq_iff_eq.2 hx
  rw [if_pos hx]
  unfold encFE
  refine goF Tryz.func85 (closedL_cons (.agg (encFo_closed f)) closedL_nil) (fun w0 st0 => ?_)
  dsimp only [frOf]
  (repeat' (first | refine goA ?_ | refine goB ?_ | fail))
  exact awp_ret ⟨_, ResL.cons (ResA.agg rfl rfl rfl rfl rfl rfl rfl (RL.allClosed (encFo_closed _))) (ResL.cons (ResA.tmp (.val _)) .nil), rfl⟩
 have dx : (f.c.xt == 0) = false := beq_eq_false_iff_ne.2 hx
 rw [if_neg hx]
 by_cases h1 : 0 < f.c.cf.length
 ·rw [if_pos h1]
  have d1 : decide ((0 : Int) < ((f.c.cf.map encCf).length : Nat)) = true := decide_eq_true (by omega)
  unfold encFE
  refine goF Tryz.func85 (closedL_cons (.agg (encFo_closed f)) closedL_nil) (fun w0 st0 => ?_)
  dsimp only [frOf]
  (repeat' (first | refine goA ?_ | refine goB ?_ | fail))
  exact awp_ret ⟨_, ResL.cons (ResA.agg rfl rfl rfl rfl rfl rfl rfl (RL.allClosed (encFo_closed _))) (ResL.cons (ResA.tmp (.val _)) .nil), rfl⟩
 rw [if_neg h1]
 have d1 : decide ((0 : Int) < ((f.c.cf.map encCf).length : Nat)) = false := decide_eq_false (by omega)
 by_cases h2 : f.c.on = true ∧ 64 ≤ f.v.hand.length
 ·rw [if_pos h2]
  have d2 : decide ((64 : Int) ≤ ((f.v.hand.map encHn).length : Nat)) = true := decide_eq_true (by omega)
  have d3 := h2.1
  unfold encFE
  refine goF Tryz.func85 (closedL_cons (.agg (encFo_closed f)) closedL_nil) (fun w0 st0 => ?_)
  dsimp only [frOf]
  (repeat' (first | refine goA ?_ | refine goB ?_ | fail))
  exact awp_ret ⟨_, ResL.cons (ResA.agg rfl rfl rfl rfl rfl rfl rfl (RL.allClosed (encFo_closed _))) (ResL.cons (ResA.tmp (.val _)) .nil), rfl⟩
 rw [if_neg h2]
 have c5 := ref_cells_c f.v [32] (by decide) (h.ok.le (by decide))
 have hly := cellsK_lays (v := f.v) [32] h.rng
 have hkeq := hly.eq
 have hbl := hly.bl
 have hol := hly.ol
 simp only [List.length_cons, List.length_nil] at hol
 have c5n : (cellsK f.v [32]).bad = 0 → outD (cellsK f.v [32]) f.v = ((cellsK f.v [32]).v, 0) := fun e => if_pos e
 have c5y : (cellsK f.v [32]).bad ≠ 0 → outD (cellsK f.v [32]) f.v = (f.v, (cellsK f.v [32]).bad) := fun e => if_neg e
 generalize cellsK f.v [32] = k at *
 obtain ⟨kv, kl, kb⟩ := k
 dsimp only at c5 c5n c5y hkeq hbl hol ⊢
 by_cases hk : kb = 0
 case neg =>
  rw [c5y hk] at c5
  rw [if_pos hk]
  have d4 : (kb != 0) = true := by simp [hk]
  unfold encVE at c5
  unfold encFE
  cases hon : f.c.on with
  | false =>
   refine goF Tryz.func85 (closedL_cons (.agg (encFo_closed f)) closedL_nil) (fun w0 st0 => ?_)
   dsimp only [frOf]
   (repeat' (first | refine goA ?_ | refine callW (c5) rfl wkT rfl rfl ?_ | refine goB ?_ | fail))
   exact awp_ret ⟨_, ResL.cons (ResA.agg rfl rfl rfl rfl rfl rfl rfl (RL.allClosed (encFo_closed _))) (ResL.cons (ResA.tmp (.val _)) .nil), rfl⟩
  | true =>
   have d2 : decide ((64 : Int) ≤ ((f.v.hand.map encHn).length : Nat)) = false := decide_eq_false (fun e => h2 ⟨hon, by omega⟩)
   refine goF Tryz.func85 (closedL_cons (.agg (encFo_closed f)) closedL_nil) (fun w0 st0 => ?_)
   dsimp only [frOf]
   (repeat' (first | refine goA ?_ | refine callW (c5) rfl wkT rfl rfl ?_ | refine goB ?_ | fail))
   exact awp_ret ⟨_, ResL.cons (ResA.agg rfl rfl rfl rfl rfl rfl rfl (RL.allClosed (encFo_closed _))) (ResL.cons (ResA.tmp (.val _)) .nil), rfl⟩
 rw [c5n hk] at c5
 rw [if_neg (fun e => e hk)]
 clear c5n c5y hk
 generalize kv.m = m at *
 generalize kv.here = hh at *
 subst hkeq
 obtain ⟨hi0, hi1⟩ := hin hx
 obtain ⟨w, hw⟩ : ∃ w, f.v.dict[f.c.dict.toNat]? = some w := ⟨_, List.getElem?_eq_getElem (by omega)⟩
 have hp : (f.v.dict.map encW)[f.c.dict.toNat]? = some (encW w) := by rw [List.getElem?_map, hw]; rfl
 have hfl := (h.ni w (List.mem_of_getElem? hw)).2
 have hfl2 := clearH_rng hfl
 have hdl := h.dl
 have c6 := Dict.ref_flag_c f.v.dict f.c.dict (clearH w.fl) hdl
 have hfo := flag_ok (l := f.v.dict) (i := f.c.dict) ⟨hi0, hi1⟩ hfl2
 unfold encWE at c6
 rw [hfo] at c6
 have hb1 := bin_quo2 (P := Tryz.prog) (t := 3) hfl
 have hb2 := bin_rem2 (P := Tryz.prog) (t := 3) hfl
 rw [flAt_some hw]
 generalize hl2 : (flagD f.v.dict f.c.dict (clearH w.fl)).1 = l2 at *
 have hb := h.ok.b
 have ho := h.ok.o
 have hbig := h.big
 have hhl := h.hl
 have hhl2 : (withMH f.v m hh).hand.length ≤ 1000000 := hhl
 unfold encVE at c5
 have hcl : w.fl / 2 % 2 = 1 → clearH w.fl = w.fl - 2 := fun e => if_pos e
 have hcl2 : w.fl / 2 % 2 ≠ 1 → clearH w.fl = w.fl := fun e => if_neg e
 by_cases hbit : w.fl / 2 % 2 = 1
 ·have d8 : (w.fl / 2 % 2 == 1) = true := beq_iff_eq.2 hbit
  rw [hcl hbit] at c6
  cases hon : f.c.on with
  | false =>
   have c7 := ref_state_c (upV (withMH f.v m hh) m hh l2 f.v.last f.v.hand) 0 (by show m.b.length ≤ 1000000; omega) (by show m.old.length ≤ 1000000; omega)
   rw [if_neg (by decide)]
   generalize hst : stV (upV (withMH f.v m hh) m hh l2 f.v.last f.v.hand) 0 = x at *
   unfold encFE
   refine goF Tryz.func85 (closedL_cons (.agg (encFo_closed f)) closedL_nil) (fun w0 st0 => ?_)
   dsimp only [frOf]
   (repeat' (first | refine ARun.bin rfl rfl hb2 rfl (guardF_spec rfl) ?_ | refine ARun.bin rfl rfl hb1 rfl (guardF_spec rfl) ?_ | refine goA ?_ | refine callW (c5) rfl wkT rfl rfl ?_ | refine cX c6 ?_ | refine cX c7 ?_ | refine ARun.indexAddr rfl rfl (by omega) (by exact hp) rfl rfl rfl rfl rfl (guardF_spec rfl) ?_ | refine goB ?_ | fail))
   exact awp_ret ⟨_, ResL.cons (ResA.agg rfl rfl rfl rfl rfl rfl rfl reuT) (ResL.cons (ResA.tmp (.val _)) .nil), rfl⟩
  | true =>
   have d2 : decide ((64 : Int) ≤ ((f.v.hand.map encHn).length : Nat)) = false := decide_eq_false (fun e => h2 ⟨hon, by omega⟩)
   have c7 := ref_state_c (upV (withMH f.v m hh) m hh l2 f.v.last (f.v.hand ++ [⟨f.c.xt, f.c.fuel, 0, false⟩])) 0 (by show m.b.length ≤ 1000000; omega) (by show m.old.length ≤ 1000000; omega)
   rw [if_pos rfl]
   generalize hst : stV (upV (withMH f.v m hh) m hh l2 f.v.last (f.v.hand ++ [⟨f.c.xt, f.c.fuel, 0, false⟩])) 0 = x at *
   unfold encFE
   refine goF Tryz.func85 (closedL_cons (.agg (encFo_closed f)) closedL_nil) (fun w0 st0 => ?_)
   dsimp only [frOf]
   (repeat' (first | refine goN ?_ | refine awp_region_ne 19 rfl (fun _ => hmix) ?_ | refine ARun.bin rfl rfl hb2 rfl (guardF_spec rfl) ?_ | refine ARun.bin rfl rfl hb1 rfl (guardF_spec rfl) ?_ | refine ARun.o rfl ?_ | refine callW (c5) rfl wkT rfl rfl ?_ | refine cX c6 ?_ | refine ARun.indexAddr rfl rfl (by omega) (by exact hp) rfl rfl rfl rfl rfl (guardF_spec rfl) ?_ | refine appF rfl ?_ | refine appO rfl ?_ | refine goB ?_ | ((fail_if_success refine ARun.plain rfl ?_); refine ARun.fork rfl rfl rfl (fun h => ?_) (fun h => ?_)) | refine awp_cond rfl (fun h => ?_) (fun h => ?_)))
   refine awp_wkH 73 ((f.v.hand ++ [(⟨f.c.xt, f.c.fuel, 0, false⟩ : Hn)]).map encHn) rfl rfl (relR_hn f.v.hand ⟨f.c.xt, f.c.fuel, 0, false⟩) ?_
   (repeat' (first | refine goA ?_ | refine callGX [(73, _)] (c7) (BsOk.cons rfl (own_closed_map encHn_closed) (BsOk.nil _)) rfl (by refine FzL.cons (Fz.aggL ?_) (FzL.cons (Fz.same _) (FzL.nil _)); (repeat (refine FzL.cons (by first | exact Fz.same _ | exact Fz.own1 (.head _) rfl (by show (List.map encHn (f.v.hand ++ [_])).length = _; first | (simp; done) | (simp; rfl))) ?_)); exact FzL.nil _) rfl rfl ?_ | refine goB ?_ | fail))
   exact awp_ret ⟨_, ResL.cons (ResA.agg rfl rfl rfl rfl rfl rfl rfl reuT) (ResL.cons (ResA.tmp (.val _)) .nil), rfl⟩
 ·have d8 : (w.fl / 2 % 2 == 1) = false := beq_eq_false_iff_ne.2 hbit
  rw [hcl2 hbit] at c6
  cases hon : f.c.on with
  | false =>
   have c7 := ref_state_c (upV (withMH f.v m hh) m hh l2 f.v.last f.v.hand) 0 (by show m.b.length ≤ 1000000; omega) (by show m.old.length ≤ 1000000; omega)
   rw [if_neg (by decide)]
   generalize hst : stV (upV (withMH f.v m hh) m hh l2 f.v.last f.v.hand) 0 = x at *
   unfold encFE
   refine goF Tryz.func85 (closedL_cons (.agg (encFo_closed f)) closedL_nil) (fun w0 st0 => ?_)
   dsimp only [frOf]
   (repeat' (first | refine ARun.bin rfl rfl hb2 rfl (guardF_spec rfl) ?_ | refine ARun.bin rfl rfl hb1 rfl (guardF_spec rfl) ?_ | refine goA ?_ | refine callW (c5) rfl wkT rfl rfl ?_ | refine cX c6 ?_ | refine cX c7 ?_ | refine ARun.indexAddr rfl rfl (by omega) (by exact hp) rfl rfl rfl rfl rfl (guardF_spec rfl) ?_ | refine goB ?_ | fail))
   exact awp_ret ⟨_, ResL.cons (ResA.agg rfl rfl rfl rfl rfl rfl rfl reuT) (ResL.cons (ResA.tmp (.val _)) .nil), rfl⟩
  | true =>
   have d2 : decide ((64 : Int) ≤ ((f.v.hand.map encHn).length : Nat)) = false := decide_eq_false (fun e => h2 ⟨hon, by omega⟩)
   have c7 := ref_state_c (upV (withMH f.v m hh) m hh l2 f.v.last (f.v.hand ++ [⟨f.c.xt, f.c.fuel, 0, false⟩])) 0 (by show m.b.length ≤ 1000000; omega) (by show m.old.length ≤ 1000000; omega)
   rw [if_pos rfl]
   generalize hst : stV (upV (withMH f.v m hh) m hh l2 f.v.last (f.v.hand ++ [⟨f.c.xt, f.c.fuel, 0, false⟩])) 0 = x at *
   unfold encFE
   refine goF Tryz.func85 (closedL_cons (.agg (encFo_closed f)) closedL_nil) (fun w0 st0 => ?_)
   dsimp only [frOf]
   (repeat' (first | refine goN ?_ | refine awp_region_ne 19 rfl (fun _ => hmix) ?_ | refine ARun.bin rfl rfl hb2 rfl (guardF_spec rfl) ?_ | refine ARun.bin rfl rfl hb1 rfl (guardF_spec rfl) ?_ | refine ARun.o rfl ?_ | refine callW (c5) rfl wkT rfl rfl ?_ | refine cX c6 ?_ | refine ARun.indexAddr rfl rfl (by omega) (by exact hp) rfl rfl rfl rfl rfl (guardF_spec rfl) ?_ | refine appF rfl ?_ | refine appO rfl ?_ | refine goB ?_ | ((fail_if_success refine ARun.plain rfl ?_); refine ARun.fork rfl rfl rfl (fun h => ?_) (fun h => ?_)) | refine awp_cond rfl (fun h => ?_) (fun h => ?_)))
   refine awp_wkH 73 ((f.v.hand ++ [(⟨f.c.xt, f.c.fuel, 0, false⟩ : Hn)]).map encHn) rfl rfl (relR_hn f.v.hand ⟨f.c.xt, f.c.fuel, 0, false⟩) ?_
   (repeat' (first | refine goA ?_ | refine callGX [(73, _)] (c7) (BsOk.cons rfl (own_closed_map encHn_closed) (BsOk.nil _)) rfl (by refine FzL.cons (Fz.aggL ?_) (FzL.cons (Fz.same _) (FzL.nil _)); (repeat (refine FzL.cons (by first | exact Fz.same _ | exact Fz.own1 (.head _) rfl (by show (List.map encHn (f.v.hand ++ [_])).length = _; first | (simp; done) | (simp; rfl))) ?_)); exact FzL.nil _) rfl rfl ?_ | refine goB ?_ | fail))
   exact awp_ret ⟨_, ResL.cons (ResA.agg rfl rfl rfl rfl rfl rfl rfl reuT) (ResL.cons (ResA.tmp (.val _)) .nil), rfl⟩
end Go.Proofs.YtfphgelollhdhaaGreat
namespace Go.Proofs.YtfphgelollhdhaaGreat.Gen
open Go Go.RowKit
set_option maxRecDepth 100000
inductive Nod where
 | mk (k n : Int) (a b : List Nod)
def Nod.k : Nod → Int | .mk k _ _ _ => k
def Nod.n : Nod → Int | .mk _ n _ _ => n
def Nod.a : Nod → List Nod | .mk _ _ a _ => a
def Nod.b : Nod → List Nod | .mk _ _ _ b => b
abbrev wr (n : Int) : Int := IntKind.i64.wrap n
theorem wr_eq (n : Int) : wr n = (n + 9223372036854775808) % 18446744073709551616 - 9223372036854775808 := by
 show IntKind.i64.wrap n = _
 rw [IntKind.wrap_i64]
theorem wr_in {n : Int} (h : -9223372036854775808 ≤ n ∧ n ≤ 9223372036854775807) : wr n = n := by rw [wr_eq]; omega
theorem wr_wr (a b : Int) : wr (wr a + b) = wr (a + b) := by simp only [wr_eq]; omega
theorem wr_range (n : Int) : -9223372036854775808 ≤ wr n ∧ wr n ≤ 9223372036854775807 := by rw [wr_eq]; omega
mutual
def cntN : Nod → Nat
 | .mk _ _ a b => 1 + cntL a + cntL b
def cntL : List Nod → Nat
 | [] => 0
 | x :: l => cntN x + cntL l
end
mutual
def encD : Nod → List AV
 | .mk k n a b => [.val (.int .i64 k), .val (.int .i64 n), .sl 4 false (encDs a), .sl 4 false (encDs b)]
def encDs : List Nod → List (List AV)
 | [] => []
 | x :: l => encD x :: encDs l
end
theorem encDs_map : ∀ l : List Nod, encDs l = l.map encD
 | [] => rfl
 | x :: l => by rw [encDs, encDs_map l]; rfl
def encTr (l : List Nod) : AV := .sl 4 false (l.map encD)
theorem encD_eq (x : Nod) : encD x = [.val (.int .i64 x.k), .val (.int .i64 x.n), encTr x.a, encTr x.b] := by
 obtain ⟨k, n, a, b⟩ := x
 rw [encD, encDs_map, encDs_map]
 rfl
mutual
theorem encD_closed : ∀ (x : Nod), ∀ v, v ∈ encD x → Closed v
 | .mk k n a b, v, h => by
  rw [encD] at h
  simp only [List.mem_cons, List.not_mem_nil, or_false] at h
  rcases h with rfl | rfl | rfl | rfl
  ·exact .val _
  ·exact .val _
  ·exact .sl (encDs_closed a)
  ·exact .sl (encDs_closed b)
theorem encDs_closed : ∀ (l : List Nod), ∀ el v, el ∈ encDs l → v ∈ el → Closed v
 | [], el, v, h, _ => by cases h
 | x :: l, el, v, h, hv => by
  rw [encDs] at h
  rcases List.mem_cons.1 h with rfl | h
  ·exact encD_closed x v hv
  ·exact encDs_closed l el v h hv
end
theorem closed_tr (l : List Nod) : Closed (encTr l) := by
 unfold encTr
 rw [← encDs_map]
 exact .sl (encDs_closed l)
theorem get_nd {l : List Nod} {i : Nat} {x : Nod} (h : l[i]? = some x) : (l.map encD)[((i : Nat) : Int).toNat]? = some [.val (.int .i64 x.k), .val (.int .i64 x.n), encTr x.a, encTr x.b] := by
 rw [Int.toNat_natCast, List.getElem?_map, h, ← encD_eq]
 rfl
mutual
def okD : Nod → Bool
 | .mk k n a b =>
  if k = 1 ∨ k = 2 ∨ k = 9 ∨ k = 10 ∨ k = 11 then a.isEmpty && b.isEmpty
  else if k = 3 then (decide (n = 1) || (decide (n = 0) && b.isEmpty)) && okDs a && okDs b
  else if k = 4 ∨ k = 5 then b.isEmpty && okDs a
  else if k = 6 then okDs a && okDs b
  else if k = 7 ∨ k = 8 then (decide (n = 0) || decide (n = 1)) && b.isEmpty && okDs a
  else false
def okDs : List Nod → Bool
 | [] => true
 | x :: l => okD x && okDs l
end
theorem okDs_mem : ∀ {l : List Nod}, okDs l = true → ∀ x, x ∈ l → okD x = true
 | y :: l, h, x, hx => by
  rw [okDs, Bool.and_eq_true] at h
  rcases List.mem_cons.1 hx with rfl | hx
  ·exact h.1
  ·exact okDs_mem h.2 x hx
mutual
def oneS : Nod → Int
 | .mk k n a b =>
  if k = 1 then 2
  else if k = 3 then (if n = 1 then 4 + sizS a + sizS b else 2 + sizS a)
  else if k = 4 ∨ k = 5 then sizS a + 2
  else if k = 6 then sizS a + 2 + sizS b + 2
  else if k = 7 ∨ k = 8 then (if n = 1 then 2 + sizS a + 2 else 1 + sizS a + 2)
  else if k = 9 then 3
  else 1
def sizS : List Nod → Int
 | [] => 0
 | x :: l => oneS x + sizS l
end
mutual
theorem oneS_bound : ∀ x : Nod, 1 ≤ oneS x ∧ oneS x ≤ 4 * (cntN x : Int)
 | .mk k n a b => by
  have h1 := sizS_bound a
  have h2 := sizS_bound b
  rw [oneS, cntN]
  (repeat' split) <;> omega
theorem sizS_bound : ∀ l : List Nod, 0 ≤ sizS l ∧ sizS l ≤ 4 * (cntL l : Int)
 | [] => by rw [sizS, cntL]; omega
 | x :: l => by
  have h1 := oneS_bound x
  have h2 := sizS_bound l
  rw [sizS, cntL]
  omega
end
theorem sizS_append (l1 l2 : List Nod) : sizS (l1 ++ l2) = sizS l1 + sizS l2 := by
 induction l1 with
 | nil => rw [List.nil_append, sizS]; omega
 | cons x l ih => rw [List.cons_append, sizS, sizS, ih]; omega
theorem cntL_append (l1 l2 : List Nod) : cntL (l1 ++ l2) = cntL l1 + cntL l2 := by
 induction l1 with
 | nil => rw [List.nil_append, cntL]; omega
 | cons x l ih => rw [List.cons_append, cntL, cntL, ih]; omega
theorem cnt_mem {l : List Nod} {i : Nat} {x : Nod} (h : l[i]? = some x) : cntN x ≤ cntL l := by
 induction l generalizing i with
 | nil => simp at h
 | cons y l ih =>
  rw [cntL]
  cases i with
  | zero =>
   simp only [List.getElem?_cons_zero, Option.some.injEq] at h
   subst h
   omega
  | succ i =>
   have := ih (i := i) (by simpa using h)
   omega
theorem cnt_ab (x : Nod) : cntL x.a + cntL x.b < cntN x := by
 obtain ⟨k, n, a, b⟩ := x
 rw [cntN]
 show cntL a + cntL b < _
 omega
theorem take_one {α : Type} {l : List α} {i : Nat} {x : α} (h : l[i]? = some x) : l.take (i + 1) = l.take i ++ [x] := by
 have hi := (List.getElem?_eq_some_iff.1 h).1
 rw [List.take_add_one, h]
 rfl
theorem siz_take {l : List Nod} {i : Nat} {x : Nod} (h : l[i]? = some x) : sizS (l.take (i + 1)) = sizS (l.take i) + oneS x := by
 rw [take_one h, sizS_append, sizS, sizS]
 omega
theorem cnt_take (l : List Nod) (i : Nat) : cntL (l.take i) ≤ cntL l := by
 have := cntL_append (l.take i) (l.drop i)
 rw [List.take_append_drop] at this
 omega
theorem cnt_len : ∀ l : List Nod, l.length ≤ cntL l
 | [] => by rw [cntL]; exact Nat.le_refl _
 | .mk k n a b :: l => by
  have := cnt_len l
  rw [cntL, cntN, List.length_cons]
  omega
structure Xts where
 lit : Int
 zb : Int
 br : Int
 doo : Int
 qdo : Int
 lp : Int
 plp : Int
 unl : Int
 ex : Int
mutual
def codN (X : Xts) (self : Int) : Nod → Int → Int → List Int
  | .mk k n a b, pos, en =>
    if k = 1 then [X.lit, n]
    else if k = 2 then [n]
    else if k = 3 then
      (if n = 0 then [X.zb, wr (pos + 8 * oneS (.mk k n a b))] ++ codL X self a (wr (pos + 16)) en
       else [X.zb, wr (pos + 8 * (4 + sizS a))] ++ codL X self a (wr (pos + 16)) en ++ [X.br, wr (pos + 8 * oneS (.mk k n a b))] ++ codL X self b (wr (pos + 8 * (4 + sizS a))) en)
    else if k = 4 then codL X self a pos en ++ [X.zb, pos]
    else if k = 5 then codL X self a pos en ++ [X.br, pos]
    else if k = 6 then codL X self a pos en ++ [X.zb, wr (pos + 8 * oneS (.mk k n a b))] ++ codL X self b (wr (pos + 8 * (sizS a + 2))) en ++ [X.br, pos]
    else if k = 7 ∨ k = 8 then
      (if n = 1 then [X.qdo, wr (pos + 8 * oneS (.mk k n a b))] ++ codL X self a (wr (pos + 16)) (wr (pos + 8 * oneS (.mk k n a b))) ++ [if k = 8 then X.plp else X.lp, wr (pos + 16)]
       else [X.doo] ++ codL X self a (wr (pos + 8)) (wr (pos + 8 * oneS (.mk k n a b))) ++ [if k = 8 then X.plp else X.lp, wr (pos + 8)])
    else if k = 9 then [X.unl, X.br, en]
    else if k = 10 then [X.ex]
    else [self]
def codL (X : Xts) (self : Int) : List Nod → Int → Int → List Int
 | [], _, _ => []
 | x :: l, pos, en => codN X self x pos en ++ codL X self l (wr (pos + 8 * oneS x)) en
end
mutual
theorem codN_len (X : Xts) (self : Int) : ∀ (x : Nod) (pos en : Int), okD x = true → ((codN X self x pos en).length : Int) = oneS x
 | .mk k n a b, pos, en, h => by
  rw [okD] at h
  by_cases h1 : k = 1 ∨ k = 2 ∨ k = 9 ∨ k = 10 ∨ k = 11
  ·rw [codN, oneS]
   rcases h1 with rfl | rfl | rfl | rfl | rfl <;> simp
  rw [if_neg h1] at h
  by_cases h3 : k = 3
  ·subst h3
   rw [if_pos rfl] at h
   simp only [Bool.and_eq_true, Bool.or_eq_true, decide_eq_true_eq, List.isEmpty_iff] at h
   obtain ⟨⟨h4, h5⟩, h6⟩ := h
   have e1 := codL_len X self a (wr (pos + 16)) en h5
   have e2 := codL_len X self b (wr (pos + 8 * (4 + sizS a))) en h6
   rw [codN, oneS]
   rcases h4 with rfl | ⟨rfl, rfl⟩
   ·simp only [Int.reduceEq, if_false, if_true, reduceIte, List.length_append, List.length_cons, List.length_nil] at *
    omega
   ·simp only [Int.reduceEq, if_false, if_true, reduceIte, List.length_append, List.length_cons, List.length_nil] at *
    omega
  rw [if_neg h3] at h
  by_cases h4 : k = 4 ∨ k = 5
  ·rw [if_pos h4, Bool.and_eq_true] at h
   have e1 := codL_len X self a pos en h.2
   rw [codN, oneS]
   rcases h4 with rfl | rfl <;> simp only [Int.reduceEq, if_false, if_true, reduceIte, List.length_append, List.length_cons, List.length_nil, or_false, false_or, or_true, true_or] at * <;> omega
  rw [if_neg h4] at h
  by_cases h6 : k = 6
  ·subst h6
   rw [if_pos rfl, Bool.and_eq_true] at h
   have e1 := codL_len X self a pos en h.1
   have e2 := codL_len X self b (wr (pos + 8 * (sizS a + 2))) en h.2
   rw [codN, oneS]
   simp only [Int.reduceEq, if_false, if_true, reduceIte, List.length_append, List.length_cons, List.length_nil, or_false] at *
   omega
  rw [if_neg h6] at h
  by_cases h7 : k = 7 ∨ k = 8
  ·rw [if_pos h7] at h
   simp only [Bool.and_eq_true, Bool.or_eq_true, decide_eq_true_eq] at h
   obtain ⟨⟨h5, _⟩, h6⟩ := h
   have e1 := fun p e => codL_len X self a p e h6
   rw [codN]
   generalize wr (pos + 8 * oneS (.mk k n a b)) = E
   rw [oneS]
   have e2 := e1 (wr (pos + 16)) E
   have e3 := e1 (wr (pos + 8)) E
   rcases h7 with rfl | rfl <;> rcases h5 with rfl | rfl <;> simp only [Int.reduceEq, if_false, if_true, reduceIte, List.length_append, List.length_cons, List.length_nil, or_false, false_or, or_true, true_or] at * <;> omega
  rw [if_neg h7] at h
  cases h
theorem codL_len (X : Xts) (self : Int) : ∀ (l : List Nod) (pos en : Int), okDs l = true → ((codL X self l pos en).length : Int) = sizS l
 | [], pos, en, _ => by rw [codL, sizS]; rfl
 | x :: l, pos, en, h => by
  rw [okDs, Bool.and_eq_true] at h
  have e1 := codN_len X self x pos en h.1
  have e2 := codL_len X self l (wr (pos + 8 * oneS x)) en h.2
  rw [codL, sizS, List.length_append]
  omega
end
theorem codL_append (X : Xts) (self en : Int) : ∀ (l1 l2 : List Nod) (pos : Int), In64 pos → codL X self (l1 ++ l2) pos en = codL X self l1 pos en ++ codL X self l2 (wr (pos + 8 * sizS l1)) en
 | [], l2, pos, h => by
  rw [List.nil_append, codL, sizS, List.nil_append, show pos + 8 * 0 = pos by omega, wr_in h]
 | x :: l1, l2, pos, h => by
  rw [List.cons_append, codL, codL, codL_append X self en l1 l2 _ (wr_range _), List.append_assoc, sizS, wr_wr, show pos + 8 * (oneS x + sizS l1) = pos + 8 * oneS x + 8 * sizS l1 by omega]
theorem cod_take (X : Xts) (self en : Int) {l : List Nod} {i : Nat} {x : Nod} (h : l[i]? = some x) {pos : Int} (hp : In64 pos) : codL X self (l.take (i + 1)) pos en = codL X self (l.take i) pos en ++ codN X self x (wr (pos + 8 * sizS (l.take i))) en := by
 rw [take_one h, codL_append X self en _ _ _ hp]
 congr 1
 rw [codL, codL, List.append_nil]
theorem ok_take : ∀ {l : List Nod} (i : Nat), okDs l = true → okDs (l.take i) = true
 | [], i, _ => by rw [List.take_nil]; rfl
 | x :: l, 0, _ => rfl
 | x :: l, i + 1, h => by
  rw [okDs, Bool.and_eq_true] at h
  rw [List.take_succ_cons, okDs, h.1, ok_take i h.2]
  rfl
theorem oneS_eq (x : Nod) : oneS x =
  if x.k = 1 then 2
  else if x.k = 3 then (if x.n = 1 then 4 + sizS x.a + sizS x.b else 2 + sizS x.a)
  else if x.k = 4 ∨ x.k = 5 then sizS x.a + 2
  else if x.k = 6 then sizS x.a + 2 + sizS x.b + 2
  else if x.k = 7 ∨ x.k = 8 then (if x.n = 1 then 2 + sizS x.a + 2 else 1 + sizS x.a + 2)
  else if x.k = 9 then 3
  else 1 := by
 obtain ⟨k, n, a, b⟩ := x
 rw [oneS]
 rfl
theorem codN_eq (X : Xts) (self : Int) (x : Nod) (pos en : Int) : codN X self x pos en =
    if x.k = 1 then [X.lit, x.n]
    else if x.k = 2 then [x.n]
    else if x.k = 3 then
      (if x.n = 0 then [X.zb, wr (pos + 8 * oneS x)] ++ codL X self x.a (wr (pos + 16)) en
       else [X.zb, wr (pos + 8 * (4 + sizS x.a))] ++ codL X self x.a (wr (pos + 16)) en ++ [X.br, wr (pos + 8 * oneS x)] ++ codL X self x.b (wr (pos + 8 * (4 + sizS x.a))) en)
    else if x.k = 4 then codL X self x.a pos en ++ [X.zb, pos]
    else if x.k = 5 then codL X self x.a pos en ++ [X.br, pos]
    else if x.k = 6 then codL X self x.a pos en ++ [X.zb, wr (pos + 8 * oneS x)] ++ codL X self x.b (wr (pos + 8 * (sizS x.a + 2))) en ++ [X.br, pos]
    else if x.k = 7 ∨ x.k = 8 then
      (if x.n = 1 then [X.qdo, wr (pos + 8 * oneS x)] ++ codL X self x.a (wr (pos + 16)) (wr (pos + 8 * oneS x)) ++ [if x.k = 8 then X.plp else X.lp, wr (pos + 16)]
       else [X.doo] ++ codL X self x.a (wr (pos + 8)) (wr (pos + 8 * oneS x)) ++ [if x.k = 8 then X.plp else X.lp, wr (pos + 8)])
    else if x.k = 9 then [X.unl, X.br, en]
    else if x.k = 10 then [X.ex]
    else [self] := by
  obtain ⟨k, n, a, b⟩ := x
  rw [codN]
  rfl
theorem okD_cases {x : Nod} (h : okD x = true) : ((x.k = 1 ∨ x.k = 2 ∨ x.k = 9 ∨ x.k = 10 ∨ x.k = 11) ∧ x.a = [] ∧ x.b = []) ∨ (x.k = 3 ∧ (x.n = 1 ∨ (x.n = 0 ∧ x.b = []))) ∨ ((x.k = 4 ∨ x.k = 5) ∧ x.b = []) ∨ x.k = 6 ∨ ((x.k = 7 ∨ x.k = 8) ∧ (x.n = 0 ∨ x.n = 1) ∧ x.b = []) := by
 obtain ⟨k, n, a, b⟩ := x
 rw [okD] at h
 show ((k = 1 ∨ k = 2 ∨ k = 9 ∨ k = 10 ∨ k = 11) ∧ a = [] ∧ b = []) ∨ (k = 3 ∧ (n = 1 ∨ (n = 0 ∧ b = []))) ∨ ((k = 4 ∨ k = 5) ∧ b = []) ∨ k = 6 ∨ ((k = 7 ∨ k = 8) ∧ (n = 0 ∨ n = 1) ∧ b = [])
 split at h
 ·rename_i h1
  simp only [Bool.and_eq_true, List.isEmpty_iff] at h
  exact .inl ⟨h1, h⟩
 split at h
 ·rename_i h1
  simp only [Bool.and_eq_true, Bool.or_eq_true, decide_eq_true_eq, List.isEmpty_iff] at h
  exact .inr (.inl ⟨h1, h.1.1⟩)
 split at h
 ·rename_i h1
  simp only [Bool.and_eq_true, List.isEmpty_iff] at h
  exact .inr (.inr (.inl ⟨h1, h.1⟩))
 split at h
 ·rename_i h1
  exact .inr (.inr (.inr (.inl h1)))
 split at h
 ·rename_i h1
  simp only [Bool.and_eq_true, Bool.or_eq_true, decide_eq_true_eq, List.isEmpty_iff] at h
  exact .inr (.inr (.inr (.inr ⟨h1, h.1.1, h.1.2⟩)))
 ·cases h
theorem okD_ab {x : Nod} (h : okD x = true) : okDs x.a = true ∧ okDs x.b = true := by
 have h0 := okD_cases h
 obtain ⟨k, n, a, b⟩ := x
 rw [okD] at h
 show okDs a = true ∧ okDs b = true
 have hn : okDs [] = true := by rw [okDs]
 split at h
 ·simp only [Bool.and_eq_true, List.isEmpty_iff] at h
  rw [h.1, h.2]
  exact ⟨hn, hn⟩
 split at h
 ·simp only [Bool.and_eq_true] at h
  exact ⟨h.1.2, h.2⟩
 split at h
 ·simp only [Bool.and_eq_true, List.isEmpty_iff] at h
  rw [h.1]
  exact ⟨h.2, hn⟩
 split at h
 ·simp only [Bool.and_eq_true] at h
  exact h
 split at h
 ·simp only [Bool.and_eq_true, List.isEmpty_iff] at h
  rw [h.1.2]
  exact ⟨h.2, hn⟩
 ·cases h
end Go.Proofs.YtfphgelollhdhaaGreat.Gen
namespace Go.Proofs.YtfphgelollhdhaaGreat.Gen
open Go Go.RowKit
set_option maxRecDepth 100000
abbrev St (l : List UInt8) : AV := .val (.string ⟨l.toArray⟩)
abbrev Bs := List UInt8
theorem bs_eq (l l' : List UInt8) : ((ByteArray.mk l.toArray).toList == (ByteArray.mk l'.toArray).toList) = decide (l = l') := by
 rw [ByteArray.toList_eq, ByteArray.toList_eq]
 show (l == l') = _
 rw [Bool.eq_iff_iff, beq_iff_eq, decide_eq_true_eq]
def encS (s : List Int) : AV := .sl 1 false (s.map encI)
theorem encI_closed (n : Int) : ∀ x, x ∈ encI n → Closed x := fun x hx => by rw [List.mem_singleton.1 hx]; exact .val _
theorem closed_s (s : List Int) : Closed (encS s) := closed_map encI_closed
def nmsV : List Bs := [
 [40, 101, 120, 105, 116, 41], [40, 108, 105, 116, 41], [40, 98, 114, 97, 110, 99, 104, 41], [40, 48, 98, 114, 97, 110, 99, 104, 41],
 [40, 100, 111, 41], [40, 63, 100, 111, 41], [40, 108, 111, 111, 112, 41], [40, 43, 108, 111, 111, 112, 41], [40, 104, 97, 108, 116, 41],
 [40, 99, 97, 117, 103, 104, 116, 41], [40, 100, 111, 101, 115, 41], [40, 115, 116, 114, 41], [69, 88, 69, 67, 85, 84, 69], [67, 65, 84, 67, 72],
 [84, 72, 82, 79, 87], [73], [74], [85, 78, 76, 79, 79, 80], [62, 82], [82, 62], [82, 64], [50, 62, 82], [50, 82, 62], [68, 85, 80],
 [68, 82, 79, 80], [83, 87, 65, 80], [79, 86, 69, 82], [82, 79, 84], [45, 82, 79, 84], [78, 73, 80], [84, 85, 67, 75], [63, 68, 85, 80],
 [50, 68, 85, 80], [50, 68, 82, 79, 80], [50, 83, 87, 65, 80], [50, 79, 86, 69, 82], [80, 73, 67, 75], [82, 79, 76, 76], [68, 69, 80, 84, 72], [43],
 [45], [42], [47], [77, 79, 68], [65, 78, 68], [79, 82], [88, 79, 82], [76, 83, 72, 73, 70, 84], [82, 83, 72, 73, 70, 84], [77, 73, 78],
 [77, 65, 88], [61], [60, 62], [60], [62], [60, 61], [62, 61], [85, 60], [85, 62], [78, 69, 71, 65, 84, 69], [65, 66, 83], [73, 78, 86, 69, 82, 84],
 [49, 43], [49, 45], [50, 42], [50, 47], [48, 61], [48, 60], [48, 60, 62], [48, 62], [67, 69, 76, 76, 83], [67, 69, 76, 76, 43],
 [65, 76, 73, 71, 78, 69, 68], [47, 77, 79, 68], [42, 47], [42, 47, 77, 79, 68], [85, 77, 42], [85, 77, 47, 77, 79, 68], [77, 42],
 [83, 77, 47, 82, 69, 77], [70, 77, 47, 77, 79, 68], [83, 62, 68], [87, 73, 84, 72, 73, 78], [64], [33], [43, 33], [67, 64], [67, 33], [50, 64],
 [50, 33], [70, 73, 76, 76], [77, 79, 86, 69], [67, 79, 85, 78, 84], [72, 69, 82, 69], [65, 76, 76, 79, 84], [44], [67, 44], [65, 76, 73, 71, 78],
 [66, 65, 83, 69], [83, 84, 65, 84, 69], [84, 82, 85, 69], [70, 65, 76, 83, 69], [66, 76], [68, 69, 67, 73, 77, 65, 76], [72, 69, 88],
 [69, 77, 73, 84], [67, 82], [83, 80, 65, 67, 69], [83, 80, 65, 67, 69, 83], [84, 89, 80, 69], [46], [85, 46], [60, 35], [35], [35, 83],
 [72, 79, 76, 68], [83, 73, 71, 78], [35, 62], [62, 66, 79, 68, 89], [65, 66, 79, 82, 84], [80, 79, 83, 84], [65, 70, 84, 69, 82],
 [69, 86, 69, 82, 89], [67, 65, 78, 67, 69, 76], [65, 82, 71], [83, 69, 76, 70], [78, 79, 87], [83, 69, 84, 45, 83, 84, 65, 84, 69],
 [65, 84, 45, 83, 84, 65, 84, 69], [71, 69, 84, 45, 83, 84, 65, 84, 69]]
def encN (l : Bs) : List AV := [St l]
theorem encN_closed (l : Bs) : ∀ x, x ∈ encN l → Closed x := fun x hx => by rw [List.mem_singleton.1 hx]; exact .val _
theorem closed_ns (l : List Bs) : Closed (.sl 1 false (l.map encN)) := closed_map encN_closed
def idxFrom : List Bs → Bs → Nat → Int
 | [], _, _ => -1
 | a :: l, s, i => if s = a then (i : Int) else idxFrom l s (i + 1)
def xtD (s : Bs) : Int := 32 + 8 * idxFrom nmsV s 0
theorem idx_rng : ∀ (l : List Bs) (s : Bs) (k : Nat), -1 ≤ idxFrom l s k ∧ idxFrom l s k ≤ k + l.length
 | [], _, _ => ⟨by unfold idxFrom; omega, by unfold idxFrom; omega⟩
 | a :: l, s, k => by
  have := idx_rng l s (k + 1)
  unfold idxFrom
  split
  ·exact ⟨by omega, by omega⟩
  ·rw [List.length_cons]; exact ⟨this.1, by omega⟩
theorem idx_step {l : List Bs} {s a : Bs} {k : Nat} (h : l[k]? = some a) : idxFrom (l.drop k) s k = if s = a then (k : Int) else idxFrom (l.drop (k + 1)) s (k + 1) := by
 rw [List.drop_eq_getElem_cons (List.getElem?_eq_some_iff.1 h).1, idxFrom, (List.getElem?_eq_some_iff.1 h).2]
attribute [local irreducible] Decidable.decide awp ARun regK toK
set_option maxHeartbeats 4000000 in
theorem names_c : FnC Tryz.prog 50 [] (.sl 1 true (nmsV.map encN)) := by
 refine goF Tryz.func50 closedL_nil (fun w0 st0 => ?_)
 dsimp only [frOf]
 (repeat' (first | refine goA ?_ | refine goB ?_ | ((fail_if_success refine ARun.plain rfl ?_); refine ARun.fork rfl rfl rfl (fun h => ?_) (fun h => ?_)) | refine awp_cond rfl (fun h => ?_) (fun h => ?_)))
 refine awp_ret ⟨_, ResL.cons (ResA.tmp (.closed (.sl 1 true (nmsV.map encN)) (closed_map encN_closed))) .nil, rfl⟩
set_option maxHeartbeats 4000000 in
theorem ref_names_c : FnC Tryz.prog 26 [] (.sl 1 true (nmsV.map encN)) := by
 refine goF Tryz.func26 closedL_nil (fun w0 st0 => ?_)
 dsimp only [frOf]
 (repeat' (first | refine goA ?_ | refine goB ?_ | ((fail_if_success refine ARun.plain rfl ?_); refine ARun.fork rfl rfl rfl (fun h => ?_) (fun h => ?_)) | refine awp_cond rfl (fun h => ?_) (fun h => ?_)))
 refine awp_ret ⟨_, ResL.cons (ResA.tmp (.closed (.sl 1 true (nmsV.map encN)) (closed_map encN_closed))) .nil, rfl⟩
theorem len_nms : (nmsV.map encN).length = 130 := by rw [List.length_map]; rfl
theorem index_c (l : List Bs) (s : Bs) (hl : l.length ≤ 1000000) : FnC Tryz.prog 49 [.sl 1 false (l.map encN), St s] (.val (.int .i64 (idxFrom l s 0))) := by
 refine goF Tryz.func49 (closedL_cons (closed_ns l) (closedL_cons (.val _) closedL_nil)) (fun w0 st0 => ?_)
 dsimp only [frOf]
 (repeat' (first | refine goA ?_ | refine goB ?_ | ((fail_if_success refine ARun.plain rfl ?_); refine ARun.fork rfl rfl rfl (fun h => ?_) (fun h => ?_)) | refine awp_cond rfl (fun h => ?_) (fun h => ?_)))
 refine awp_loopT (T := Nat × Nat) (fun t => ⟨[(8, .val (.int .i64 (t.1 : Nat))), (7, .val (.int .i64 ((l.map encN).length : Nat))), (0, .sl 1 false (l.map encN)), (1, St s)], [], t.2⟩) (fun t => t.1 ≤ l.length ∧ idxFrom l s 0 = idxFrom (l.drop t.1) s t.1) (fun t => l.length - t.1) (0, _) ⟨Nat.zero_le _, rfl⟩ ⟨⟨rfl, rfl, rfl, rfl, trivial⟩, trivial, Nat.le_refl _⟩ (fun t ht => ?_)
 obtain ⟨k, gc⟩ := t
 obtain ⟨hk, hA⟩ := ht
 dsimp only at hk hA ⊢
 by_cases hlt : k < l.length
 ·have hp : l[k]? = some l[k] := List.getElem?_eq_getElem hlt
  have hc : decide (((k : Nat) : Int) < (((l.map encN).length : Nat) : Int)) = true := by simp; omega
  generalize l[k] = a at hp
  have hs := idx_step (s := s) hp
  by_cases h3 : s = a
  ·have d3 : ((ByteArray.mk s.toArray).toList == (ByteArray.mk a.toArray).toList) = true := by rw [bs_eq]; exact decide_eq_true h3
   (repeat' (first | refine goA ?_ | refine ARun.indexAddr rfl rfl (by omega) (by first | with_reducible exact get_map hp | with_reducible exact get_map hp) rfl rfl rfl rfl rfl (guardF_spec rfl) ?_ | refine goB ?_ | ((fail_if_success refine ARun.plain rfl ?_); refine ARun.fork rfl rfl rfl (fun h => ?_) (fun h => ?_)) | refine awp_cond rfl (fun h => ?_) (fun h => ?_)))
   refine awp_ret ⟨_, ResL.cons (ResA.tmp (.val _)) .nil, congrArg (fun n => AV.val (.int .i64 n)) ?_⟩
   rw [hA, hs, if_pos h3]
  ·have d3 : ((ByteArray.mk s.toArray).toList == (ByteArray.mk a.toArray).toList) = false := by rw [bs_eq]; exact decide_eq_false h3
   (repeat' (first | refine goA ?_ | refine ARun.indexAddr rfl rfl (by omega) (by first | with_reducible exact get_map hp | with_reducible exact get_map hp) rfl rfl rfl rfl rfl (guardF_spec rfl) ?_ | refine goB ?_ | ((fail_if_success refine ARun.plain rfl ?_); refine ARun.fork rfl rfl rfl (fun h => ?_) (fun h => ?_)) | refine awp_cond rfl (fun h => ?_) (fun h => ?_)))
   exact ⟨(k + 1, _), ⟨⟨succI k, rfl, rfl, rfl, trivial⟩, trivial, Nat.le_refl _⟩, ⟨hlt, by dsimp only; rw [hA, hs, if_neg h3]⟩, (by dsimp only; omega)⟩
 ·have hkk : k = l.length := by omega
  subst hkk
  have hc : decide (((l.length : Nat) : Int) < (((l.map encN).length : Nat) : Int)) = false := by simp
  (repeat' (first | refine goA ?_ | refine goB ?_ | ((fail_if_success refine ARun.plain rfl ?_); refine ARun.fork rfl rfl rfl (fun h => ?_) (fun h => ?_)) | refine awp_cond rfl (fun h => ?_) (fun h => ?_)))
  refine awp_ret ⟨_, ResL.cons (ResA.tmp (.val _)) .nil, congrArg (fun n => AV.val (.int .i64 n)) ?_⟩
  rw [hA, List.drop_length]
  rfl
theorem number_c (s : Bs) : FnC Tryz.prog 23 [St s] (.val (.int .i64 (idxFrom nmsV s 0))) := by
 have c1 := ref_names_c
 have hl := len_nms
 rw [List.length_map] at hl
 generalize nmsV = l at *
 refine goF Tryz.func23 (closedL_cons (.val _) closedL_nil) (fun w0 st0 => ?_)
 dsimp only [frOf]
 (repeat' (first | refine goA ?_ | refine cX c1 ?_ | refine goB ?_ | ((fail_if_success refine ARun.plain rfl ?_); refine ARun.fork rfl rfl rfl (fun h => ?_) (fun h => ?_)) | refine awp_cond rfl (fun h => ?_) (fun h => ?_)))
 refine awp_loopT (T := Nat × Nat) (fun t => ⟨[(4, .val (.int .i64 (t.1 : Nat))), (3, .sl 1 true (l.map encN)), (0, St s)], [], t.2⟩) (fun t => t.1 ≤ l.length ∧ idxFrom l s 0 = idxFrom (l.drop t.1) s t.1) (fun t => l.length - t.1) (0, _) ⟨Nat.zero_le _, rfl⟩ ⟨⟨rfl, rfl, rfl, trivial⟩, trivial, Nat.le_refl _⟩ (fun t ht => ?_)
 obtain ⟨k, gc⟩ := t
 obtain ⟨hk, hA⟩ := ht
 dsimp only at hk hA ⊢
 by_cases hlt : k < l.length
 ·have hp : l[k]? = some l[k] := List.getElem?_eq_getElem hlt
  have hc : decide (((k : Nat) : Int) < (((l.map encN).length : Nat) : Int)) = true := by simp; omega
  generalize l[k] = a at hp
  have hs := idx_step (s := s) hp
  by_cases h3 : s = a
  ·have d3 : ((ByteArray.mk a.toArray).toList == (ByteArray.mk s.toArray).toList) = true := by rw [bs_eq]; exact decide_eq_true h3.symm
   (repeat' (first | refine goA ?_ | refine ARun.indexAddr rfl rfl (by omega) (by first | with_reducible exact get_map hp | with_reducible exact get_map hp) rfl rfl rfl rfl rfl (guardF_spec rfl) ?_ | refine goB ?_ | ((fail_if_success refine ARun.plain rfl ?_); refine ARun.fork rfl rfl rfl (fun h => ?_) (fun h => ?_)) | refine awp_cond rfl (fun h => ?_) (fun h => ?_)))
   refine awp_ret ⟨_, ResL.cons (ResA.tmp (.val _)) .nil, congrArg (fun b => AV.val (.int .i64 b)) ?_⟩
   rw [hA, hs, if_pos h3]
  ·have d3 : ((ByteArray.mk a.toArray).toList == (ByteArray.mk s.toArray).toList) = false := by rw [bs_eq]; exact decide_eq_false (fun e => h3 e.symm)
   (repeat' (first | refine goA ?_ | refine ARun.indexAddr rfl rfl (by omega) (by first | with_reducible exact get_map hp | with_reducible exact get_map hp) rfl rfl rfl rfl rfl (guardF_spec rfl) ?_ | refine goB ?_ | ((fail_if_success refine ARun.plain rfl ?_); refine ARun.fork rfl rfl rfl (fun h => ?_) (fun h => ?_)) | refine awp_cond rfl (fun h => ?_) (fun h => ?_)))
   exact ⟨(k + 1, _), ⟨⟨succI k, rfl, rfl, trivial⟩, trivial, Nat.le_refl _⟩, ⟨hlt, by dsimp only; rw [hA, hs, if_neg h3]⟩, (by dsimp only; omega)⟩
 ·have hkk : k = l.length := by omega
  subst hkk
  have hc : decide (((l.length : Nat) : Int) < (((l.map encN).length : Nat) : Int)) = false := by simp
  (repeat' (first | refine goA ?_ | refine goB ?_ | ((fail_if_success refine ARun.plain rfl ?_); refine ARun.fork rfl rfl rfl (fun h => ?_) (fun h => ?_)) | refine awp_cond rfl (fun h => ?_) (fun h => ?_)))
  refine awp_ret ⟨_, ResL.cons (ResA.tmp (.val _)) .nil, congrArg (fun b => AV.val (.int .i64 b)) ?_⟩
  rw [hA, List.drop_length]
  rfl
theorem ref_xt_c (s : Bs) : FnC Tryz.prog 11 [St s] (.val (.int .i64 (xtD s))) := by
 have c1 := number_c s
 have hl := len_nms
 rw [List.length_map] at hl
 have hr := idx_rng nmsV s 0
 unfold xtD
 generalize idxFrom nmsV s 0 = n at *
 refine goF Tryz.func11 (closedL_cons (.val _) closedL_nil) (fun w0 st0 => ?_)
 dsimp only [frOf]
 (repeat' (first | refine goA ?_ | refine cX c1 ?_ | refine goB ?_ | ((fail_if_success refine ARun.plain rfl ?_); refine ARun.fork rfl rfl rfl (fun h => ?_) (fun h => ?_)) | refine awp_cond rfl (fun h => ?_) (fun h => ?_)))
 exact awp_ret ⟨_, ResL.cons (ResA.tmp (.val _)) .nil, rfl⟩
def sameD (a b : List Int) : Bool := decide (a = b)
theorem ref_same_c (a b : List Int) (ha : a.length ≤ 1000000) (hb : b.length ≤ 1000000) : FnC Tryz.prog 10 [encS a, encS b] (.val (.bool (sameD a b))) := by
 refine goF Tryz.func10 (closedL_cons (closed_s a) (closedL_cons (closed_s b) closedL_nil)) (fun w0 st0 => ?_)
 dsimp only [frOf]
 by_cases hne : a.length = b.length
 ·have hc0 : ((((a.map encI).length : Nat) : Int) != (((b.map encI).length : Nat) : Int)) = false := by simp [hne]
  (repeat' (first | refine goA ?_ | refine goB ?_ | ((fail_if_success refine ARun.plain rfl ?_); refine ARun.fork rfl rfl rfl (fun h => ?_) (fun h => ?_)) | refine awp_cond rfl (fun h => ?_) (fun h => ?_)))
  refine awp_loopT (T := Nat × Nat) (fun t => ⟨[(0, encS a), (1, encS b), (4, .val (.bool false)), (5, .val (.int .i64 (t.1 : Nat)))], [], t.2⟩)
   (fun t => t.1 ≤ a.length ∧ a.take t.1 = b.take t.1) (fun t => a.length - t.1) (0, _) ⟨Nat.zero_le _, rfl⟩ ⟨⟨rfl, rfl, rfl, rfl, trivial⟩, trivial, Nat.le_refl _⟩ (fun t ht => ?_)
  obtain ⟨k, gc⟩ := t
  obtain ⟨hk, hA⟩ := ht
  dsimp only at hk hA ⊢
  by_cases hlt : k < a.length
  ·have h1 : a[k]? = some a[k] := List.getElem?_eq_getElem hlt
   have h2 : b[k]? = some b[k] := List.getElem?_eq_getElem (by omega)
   have hc : decide (((k : Nat) : Int) < (((a.map encI).length : Nat) : Int)) = true := by rw [List.length_map]; simp; omega
   have e1 := take_succ' h1
   have e2 := take_succ' h2
   by_cases heq : a[k] = b[k]
   ·have hd : (a[k] != b[k]) = false := by simp [heq]
    (repeat' (first | refine goA ?_ | refine ARun.indexAddr rfl rfl (by omega) (by first | with_reducible exact get_map h1 | with_reducible exact get_map h2) rfl rfl rfl rfl rfl (guardF_spec rfl) ?_ | refine goB ?_ | ((fail_if_success refine ARun.plain rfl ?_); refine ARun.fork rfl rfl rfl (fun h => ?_) (fun h => ?_)) | refine awp_cond rfl (fun h => ?_) (fun h => ?_)))
    refine ⟨(k + 1, _), ⟨⟨rfl, rfl, rfl, succI k, trivial⟩, trivial, Nat.le_refl _⟩, ⟨hlt, ?_⟩, (by dsimp only; omega)⟩
    dsimp only
    rw [e1, e2, hA, heq]
   ·have hd : (a[k] != b[k]) = true := by simp [heq]
    (repeat' (first | refine goA ?_ | refine ARun.indexAddr rfl rfl (by omega) (by first | with_reducible exact get_map h1 | with_reducible exact get_map h2) rfl rfl rfl rfl rfl (guardF_spec rfl) ?_ | refine goB ?_ | ((fail_if_success refine ARun.plain rfl ?_); refine ARun.fork rfl rfl rfl (fun h => ?_) (fun h => ?_)) | refine awp_cond rfl (fun h => ?_) (fun h => ?_)))
    have : sameD a b = false := by
     unfold sameD
     rw [decide_eq_false_iff_not]
     intro e
     subst e
     exact heq rfl
    rw [this]
    refine awp_ret ⟨_, ResL.cons (ResA.tmp (.val _)) .nil, rfl⟩
  ·have hk : k = a.length := by omega
   subst hk
   have hc : decide (((a.length : Nat) : Int) < (((a.map encI).length : Nat) : Int)) = false := by rw [List.length_map]; simp
   (repeat' (first | refine goA ?_ | refine goB ?_ | ((fail_if_success refine ARun.plain rfl ?_); refine ARun.fork rfl rfl rfl (fun h => ?_) (fun h => ?_)) | refine awp_cond rfl (fun h => ?_) (fun h => ?_)))
   have : sameD a b = true := by
    unfold sameD
    rw [decide_eq_true_eq]
    rw [List.take_length, hne, List.take_length] at hA
    exact hA
   rw [this]
   refine awp_ret ⟨_, ResL.cons (ResA.tmp (.val _)) .nil, rfl⟩
 ·have hc0 : ((((a.map encI).length : Nat) : Int) != (((b.map encI).length : Nat) : Int)) = true := by simp; omega
  (repeat' (first | refine goA ?_ | refine goB ?_ | ((fail_if_success refine ARun.plain rfl ?_); refine ARun.fork rfl rfl rfl (fun h => ?_) (fun h => ?_)) | refine awp_cond rfl (fun h => ?_) (fun h => ?_)))
  have : sameD a b = false := by
   unfold sameD
   rw [decide_eq_false_iff_not]
   intro e
   subst e
   exact hne rfl
  rw [this]
  refine awp_ret ⟨_, ResL.cons (ResA.tmp (.val _)) .nil, rfl⟩
theorem xt_c (s : Bs) : FnC Tryz.prog 20 [St s] (.val (.int .i64 (xtD s))) := by
 have c1 := names_c
 have hl := len_nms
 have c2 := index_c nmsV s (by rw [List.length_map] at hl; omega)
 have hr := idx_rng nmsV s 0
 unfold xtD
 rw [List.length_map] at hl
 generalize idxFrom nmsV s 0 = n at *
 generalize nmsV.map encN = l1 at *
 refine goF Tryz.func20 (closedL_cons (.val _) closedL_nil) (fun w0 st0 => ?_)
 dsimp only [frOf]
 (repeat' (first | refine goA ?_ | refine cX c1 ?_ | refine callW (c2) rfl wkT rfl rfl ?_ | refine goB ?_ | ((fail_if_success refine ARun.plain rfl ?_); refine ARun.fork rfl rfl rfl (fun h => ?_) (fun h => ?_)) | refine awp_cond rfl (fun h => ?_) (fun h => ?_)))
 exact awp_ret ⟨_, ResL.cons (ResA.tmp (.val _)) .nil, rfl⟩
end Go.Proofs.YtfphgelollhdhaaGreat.Gen
