/- kC9, kC10, kY1, kY2, kY3. -/
import Derived.Test.YthlbcakjngcjbaaGreatW1
import Derived.Test.YthlbcakjngcjbaaGreatW2
import Derived.Test.YthlbcakjngcjbaaGreatW3
import Derived.Test.YthlbcakjngcjbaaGreatW4
import Derived.Test.YthlbcakjngcjbaaGreatkW5
import Derived.Test.YthlbcakjngcjbaaGreatkW6
import Derived.Test.YthlbcakjngcjbaaGreatkW7
import Derived.Test.YthlbcakjngcjbaaGreatkW8
import Derived.Test.YthlbcakjngcjbaaGreatkW9
import Derived.Test.YthlbcakjngcjbaaGreatkW10
import Derived.Test.YthlbcakjngcjbaaGreatkW11
import Derived.Test.YthlbcakjngcjbaaGreatkW12
import Derived.Test.YthlbcakjngcjbaaGreatkW13
import Derived.Test.YthlbcakjngcjbaaGreatkW14
import Derived.Test.YthlbcakjngcjbaaGreatkW15
import Derived.Test.YthlbcakjngcjbaaGreatkW16
import Derived.Test.YthlbcakjngcjbaaGreatkW17
import Derived.Test.YthlbcakjngcjbaaGreatkW18
import Derived.Test.YthlbcakjngcjbaaGreatkW19
set_option linter.unusedVariables false
set_option linter.unusedSimpArgs false
namespace Go.Proofs.YthlbcakjngcjbaaGreat
open Go Go.RowKit
open Go.Proofs.YthlbcakjngcjbaaGreat.Dict (St Bs bs_eq Wd encW encWs closed_ws addD flagD cutD encWE findD encFd NameIn setFl encW_closed)
open Go.Proofs.YthlbcakjngcjbaaGreat.Mem (Mm encM encBs closed_bs encP encP_closed closed_m storeD fetchD commaD alignD enc3m enc2m writeD)
open Go.Proofs.YthlbcakjngcjbaaGreat.Stk (encS closed_s encI_closed)
set_option maxRecDepth 100000
attribute [local irreducible] Decidable.decide awp ARun regK toK
set_option maxHeartbeats 8000000 in
theorem ref_created_c (f : Fo) (name : Bs) (last : Bool) (l : List Int) (hl : l.length ≤ 1000) (h : Gd f.v (l.length + 10)) (hn : name.length ≤ 1000000) : FnC Tryz.prog 70 [.agg (encFo f), St name, .val (.bool last), encS l] (encFE (createdD f name last l)) := by
 unfold createdD
 by_cases hx : f.c.xt = 0
 case neg =>
  have d := closeC_one hx
  rw [if_pos hx]
  unfold encFE
  refine goF Tryz.func70 (closedL_cons (.agg (encFo_closed f)) (closedL_cons (.val _) (closedL_cons (.val _) (closedL_cons (closed_s l) closedL_nil)))) (fun w0 st0 => ?_)
  dsimp only [frOf]
  (repeat' (first | refine goA ?_ | refine goB ?_ | fail))
  exact awp_ret ⟨_, ResL.cons (ResA.agg rfl rfl rfl rfl rfl rfl rfl (RL.allClosed (encFo_closed _))) (ResL.cons (ResA.tmp (.val _)) .nil), rfl⟩
 have d := closeC_zero hx
 rw [if_neg (fun e => e hx)]
 have cw := ref_word_c f.v name 0 l hl (h.ok.le (by omega)) h.dl hn
 generalize wordR f.v name 0 l = r at *
 unfold encV3 at cw
 by_cases h3 : r.2.2 = 0
 ·have d4 : (r.2.2 != 0) = false := by simp [h3]
  rw [if_neg (fun e => e h3)]
  unfold encFE
  cases last with
  | false =>
   refine goF Tryz.func70 (closedL_cons (.agg (encFo_closed f)) (closedL_cons (.val _) (closedL_cons (.val _) (closedL_cons (closed_s l) closedL_nil)))) (fun w0 st0 => ?_)
   dsimp only [frOf]
   (repeat' (first | refine goA ?_ | refine cX cw ?_ | refine goB ?_ | fail))
   exact awp_ret ⟨_, ResL.cons (ResA.agg rfl rfl rfl rfl rfl rfl rfl (RL.allClosed (encFo_closed ⟨r.1, f.c⟩))) (ResL.cons (ResA.tmp (.val _)) .nil), rfl⟩
  | true =>
   refine goF Tryz.func70 (closedL_cons (.agg (encFo_closed f)) (closedL_cons (.val _) (closedL_cons (.val _) (closedL_cons (closed_s l) closedL_nil)))) (fun w0 st0 => ?_)
   dsimp only [frOf]
   (repeat' (first | refine goA ?_ | refine cX cw ?_ | refine goB ?_ | fail))
   exact awp_ret ⟨_, ResL.cons (ResA.agg rfl rfl rfl rfl rfl rfl rfl (RL.allClosed (encFo_closed ⟨upV r.1 r.1.m r.1.here r.1.dict r.2.1 r.1.hand, f.c⟩))) (ResL.cons (ResA.tmp (.val _)) .nil), rfl⟩
 ·have d4 : (r.2.2 != 0) = true := by simp [h3]
  rw [if_pos h3]
  unfold encFE
  refine goF Tryz.func70 (closedL_cons (.agg (encFo_closed f)) (closedL_cons (.val _) (closedL_cons (.val _) (closedL_cons (closed_s l) closedL_nil)))) (fun w0 st0 => ?_)
  dsimp only [frOf]
  (repeat' (first | refine goA ?_ | refine cX cw ?_ | refine goB ?_ | fail))
  exact awp_ret ⟨_, ResL.cons (ResA.agg rfl rfl rfl rfl rfl rfl rfl (RL.allClosed (encFo_closed _))) (ResL.cons (ResA.tmp (.val _)) .nil), rfl⟩
set_option maxHeartbeats 4000000 in
theorem ref_create_c (f : Fo) (name : Bs) (h : Gd f.v 100) (hn : name.length ≤ 1000000) : FnC Tryz.prog 24 [.agg (encFo f), St name] (encFE (createdD f name true [257, 0])) := by
 have c1 := ref_created_c f name true [257, 0] (by decide) (h.le (by decide)) hn
 generalize createdD f name true [257, 0] = r at *
 unfold encFE at c1 ⊢
 refine goF Tryz.func24 (closedL_cons (.agg (encFo_closed f)) (closedL_cons (.val _) closedL_nil)) (fun w0 st0 => ?_)
 dsimp only [frOf]
 (repeat' (first | refine goA ?_ | refine callW (c1) rfl wkT rfl rfl ?_ | refine goB ?_ | fail))
 exact awp_ret ⟨_, ResL.cons (ResA.agg rfl rfl rfl rfl rfl rfl rfl (RL.allClosed (encFo_closed _))) (ResL.cons (ResA.tmp (.val _)) .nil), rfl⟩
set_option maxHeartbeats 4000000 in
theorem ref_variable_c (f : Fo) (name : Bs) (h : Gd f.v 100) (hn : name.length ≤ 1000000) : FnC Tryz.prog 26 [.agg (encFo f), St name] (encFE (createdD f name true [257, 0, 0])) := by
 have c1 := ref_created_c f name true [257, 0, 0] (by decide) (h.le (by decide)) hn
 generalize createdD f name true [257, 0, 0] = r at *
 unfold encFE at c1 ⊢
 refine goF Tryz.func26 (closedL_cons (.agg (encFo_closed f)) (closedL_cons (.val _) closedL_nil)) (fun w0 st0 => ?_)
 dsimp only [frOf]
 (repeat' (first | refine goA ?_ | refine callW (c1) rfl wkT rfl rfl ?_ | refine goB ?_ | fail))
 exact awp_ret ⟨_, ResL.cons (ResA.agg rfl rfl rfl rfl rfl rfl rfl (RL.allClosed (encFo_closed _))) (ResL.cons (ResA.tmp (.val _)) .nil), rfl⟩
set_option maxHeartbeats 4000000 in
theorem ref_constant_c (f : Fo) (name : Bs) (n : Int) (h : Gd f.v 100) (hn : name.length ≤ 1000000) : FnC Tryz.prog 28 [.agg (encFo f), St name, .val (.int .i64 n)] (encFE (createdD f name false [258, 0, n])) := by
 have c1 := ref_created_c f name false [258, 0, n] (by show 3 ≤ 1000; decide) (h.le (by show 3 + 10 ≤ 100; decide)) hn
 generalize createdD f name false [258, 0, n] = r at *
 unfold encFE at c1 ⊢
 refine goF Tryz.func28 (closedL_cons (.agg (encFo_closed f)) (closedL_cons (.val _) (closedL_cons (.val _) closedL_nil))) (fun w0 st0 => ?_)
 dsimp only [frOf]
 (repeat' (first | refine goA ?_ | refine callW (c1) rfl wkT rfl rfl ?_ | refine goB ?_ | fail))
 exact awp_ret ⟨_, ResL.cons (ResA.agg rfl rfl rfl rfl rfl rfl rfl (RL.allClosed (encFo_closed _))) (ResL.cons (ResA.tmp (.val _)) .nil), rfl⟩
set_option maxHeartbeats 8000000 in
theorem ref_forget_c (f : Fo) (name : Bs) (h : Gd f.v 10) (hn : name.length ≤ 1000000) : FnC Tryz.prog 34 [.agg (encFo f), St name] (encFE (forgetD f name)) := by
 have cs := ref_start_c
 have cf := Dict.ref_find_c f.v.dict name h.dl hn h.ni
 have c5 := Dict.ref_cut_c f.v.dict (findD f.v.dict name).2.1 h.dl
 unfold encWE at c5
 unfold encFd at cf
 unfold forgetD
 generalize findD f.v.dict name = p at *
 obtain ⟨w, at', is⟩ := p
 dsimp only at c5 cf ⊢
 generalize cutD f.v.dict at' = d at *
 by_cases hx : f.c.xt = 0
 case neg =>
  have dd := closeC_one hx
  rw [if_pos hx]
  unfold encFE
  refine goF Tryz.func34 (closedL_cons (.agg (encFo_closed f)) (closedL_cons (.val _) closedL_nil)) (fun w0 st0 => ?_)
  dsimp only [frOf]
  (repeat' (first | refine goA ?_ | refine goB ?_ | fail))
  exact awp_ret ⟨_, ResL.cons (ResA.agg rfl rfl rfl rfl rfl rfl rfl (RL.allClosed (encFo_closed _))) (ResL.cons (ResA.tmp (.val _)) .nil), rfl⟩
 have dd := closeC_zero hx
 rw [if_neg (fun e => e hx)]
 cases is with
 | false =>
  rw [if_pos rfl]
  have nt : (!false) = true := rfl
  unfold encFE
  refine goF Tryz.func34 (closedL_cons (.agg (encFo_closed f)) (closedL_cons (.val _) closedL_nil)) (fun w0 st0 => ?_)
  dsimp only [frOf]
  (repeat' (first | refine goA ?_ | refine cX cf ?_ | refine goB ?_ | fail))
  exact awp_ret ⟨_, ResL.cons (ResA.agg rfl rfl rfl rfl rfl rfl rfl (RL.allClosed (encFo_closed _))) (ResL.cons (ResA.tmp (.val _)) .nil), rfl⟩
 | true =>
  rw [if_neg (by decide)]
  have nt : (!true) = false := rfl
  by_cases h1 : w.xt < 1368 ∨ f.v.here < w.xt
  ·rw [if_pos h1]
   unfold encFE
   by_cases h2 : w.xt < 1368
   ·have d1 : decide (w.xt < 1368) = true := decide_eq_true h2
    refine goF Tryz.func34 (closedL_cons (.agg (encFo_closed f)) (closedL_cons (.val _) closedL_nil)) (fun w0 st0 => ?_)
    dsimp only [frOf]
    (repeat' (first | refine goA ?_ | refine cX cf ?_ | refine cX cs ?_ | refine goB ?_ | fail))
    exact awp_ret ⟨_, ResL.cons (ResA.agg rfl rfl rfl rfl rfl rfl rfl (RL.allClosed (encFo_closed _))) (ResL.cons (ResA.tmp (.val _)) .nil), rfl⟩
   ·have d1 : decide (w.xt < 1368) = false := decide_eq_false h2
    have d2 : decide (f.v.here < w.xt) = true := decide_eq_true (h1.resolve_left h2)
    refine goF Tryz.func34 (closedL_cons (.agg (encFo_closed f)) (closedL_cons (.val _) closedL_nil)) (fun w0 st0 => ?_)
    dsimp only [frOf]
    (repeat' (first | refine goA ?_ | refine cX cf ?_ | refine cX cs ?_ | refine goB ?_ | fail))
    exact awp_ret ⟨_, ResL.cons (ResA.agg rfl rfl rfl rfl rfl rfl rfl (RL.allClosed (encFo_closed _))) (ResL.cons (ResA.tmp (.val _)) .nil), rfl⟩
  ·rw [if_neg h1]
   have d1 : decide (w.xt < 1368) = false := decide_eq_false (by omega)
   have d2 : decide (f.v.here < w.xt) = false := decide_eq_false (by omega)
   unfold encFE
   refine goF Tryz.func34 (closedL_cons (.agg (encFo_closed f)) (closedL_cons (.val _) closedL_nil)) (fun w0 st0 => ?_)
   dsimp only [frOf]
   (repeat' (first | refine goA ?_ | refine cX cf ?_ | refine cX cs ?_ | refine cX c5 ?_ | refine goB ?_ | fail))
   exact awp_ret ⟨_, ResL.cons (ResA.agg rfl rfl rfl rfl rfl rfl rfl (RL.allClosed (encFo_closed ⟨upV f.v f.v.m w.xt d.1 0 f.v.hand, f.c⟩))) (ResL.cons (ResA.tmp (.val _)) .nil), rfl⟩
set_option maxHeartbeats 8000000 in
theorem ref_imm_c (f : Fo) (h : Gd f.v 10) : FnC Tryz.prog 32 [.agg (encFo f)] (encFE (immD f)) := by
 have cs := ref_start_c
 have e2 : (((f.v.dict.map encW).length : Nat) : Int) = f.v.dict.length := by rw [List.length_map]
 have hdl := h.dl
 unfold immD
 by_cases hx : f.c.xt = 0
 case neg =>
  have dd := closeC_one hx
  rw [if_pos hx]
  unfold encFE
  refine goF Tryz.func32 (closedL_cons (.agg (encFo_closed f)) closedL_nil) (fun w0 st0 => ?_)
  dsimp only [frOf]
  (repeat' (first | refine goA ?_ | refine goB ?_ | fail))
  exact awp_ret ⟨_, ResL.cons (ResA.agg rfl rfl rfl rfl rfl rfl rfl (RL.allClosed (encFo_closed _))) (ResL.cons (ResA.tmp (.val _)) .nil), rfl⟩
 have dd := closeC_zero hx
 rw [if_neg (fun e => e hx)]
 by_cases h0 : f.v.dict.length = 0
 ·have d1 : decide ((((f.v.dict.map encW).length : Nat) : Int) - 1 < 0) = true := decide_eq_true (by omega)
  rw [if_pos (.inl h0)]
  unfold encFE
  refine goF Tryz.func32 (closedL_cons (.agg (encFo_closed f)) closedL_nil) (fun w0 st0 => ?_)
  dsimp only [frOf]
  (repeat' (first | refine goA ?_ | refine cX cs ?_ | refine goB ?_ | fail))
  exact awp_ret ⟨_, ResL.cons (ResA.agg rfl rfl rfl rfl rfl rfl rfl (RL.allClosed (encFo_closed _))) (ResL.cons (ResA.tmp (.val _)) .nil), rfl⟩
 have d1 : decide ((((f.v.dict.map encW).length : Nat) : Int) - 1 < 0) = false := decide_eq_false (by omega)
 obtain ⟨w, hw⟩ : ∃ w, f.v.dict[f.v.dict.length - 1]? = some w := ⟨_, List.getElem?_eq_getElem (by omega)⟩
 have hp : (f.v.dict.map encW)[((((f.v.dict.map encW).length : Nat) : Int) - 1).toNat]? = some (encW w) := by
  rw [e2, show ((f.v.dict.length : Int) - 1).toNat = f.v.dict.length - 1 by omega, List.getElem?_map, hw]
  rfl
 have hx2 := xtAt_some hw
 by_cases h1 : w.xt < 1368
 ·have d2 : decide (w.xt < 1368) = true := decide_eq_true h1
  rw [if_pos (.inr (by rw [hx2]; exact h1))]
  unfold encFE
  refine goF Tryz.func32 (closedL_cons (.agg (encFo_closed f)) closedL_nil) (fun w0 st0 => ?_)
  dsimp only [frOf]
  (repeat' (first | refine goA ?_ | refine cX cs ?_ | refine ARun.indexAddr rfl rfl (by omega) (by with_reducible assumption) rfl rfl rfl rfl rfl (guardF_spec rfl) ?_ | refine goB ?_ | fail))
  exact awp_ret ⟨_, ResL.cons (ResA.agg rfl rfl rfl rfl rfl rfl rfl (RL.allClosed (encFo_closed _))) (ResL.cons (ResA.tmp (.val _)) .nil), rfl⟩
 have d2 : decide (w.xt < 1368) = false := decide_eq_false h1
 rw [if_neg (by rw [hx2]; omega)]
 have hfl := (h.ni w (List.mem_of_getElem? hw)).2
 have hat : flAt f.v.dict ((f.v.dict.length : Int) - 1) = w.fl := flAt_some (by rw [show ((f.v.dict.length : Int) - 1).toNat = f.v.dict.length - 1 by omega]; exact hw)
 rw [hat, ← e2]
 have c5 := Dict.ref_flag_c f.v.dict ((((f.v.dict.map encW).length : Nat) : Int) - 1) (setI w.fl) hdl
 unfold encWE at c5
 have em : w.fl.tmod 2 = w.fl % 2 := Int.tmod_eq_emod_of_nonneg hfl.1
 have hsi : setI w.fl = if w.fl % 2 = 0 then w.fl + 1 else w.fl := rfl
 unfold encFE
 by_cases hev : w.fl % 2 = 0
 ·have d3 : (w.fl.tmod 2 == 0) = true := beq_iff_eq.2 (by rw [em]; exact hev)
  rw [if_pos hev] at hsi
  rw [hsi] at c5 ⊢
  generalize flagD f.v.dict ((((f.v.dict.map encW).length : Nat) : Int) - 1) (w.fl + 1) = l2 at *
  refine goF Tryz.func32 (closedL_cons (.agg (encFo_closed f)) closedL_nil) (fun w0 st0 => ?_)
  dsimp only [frOf]
  (repeat' (first | refine goA ?_ | refine cX cs ?_ | refine ARun.indexAddr rfl rfl (by omega) (by with_reducible assumption) rfl rfl rfl rfl rfl (guardF_spec rfl) ?_ | refine cX c5 ?_ | refine goB ?_ | fail))
  exact awp_ret ⟨_, ResL.cons (ResA.agg rfl rfl rfl rfl rfl rfl rfl (RL.allClosed (encFo_closed ⟨setD f.v l2.1, f.c⟩))) (ResL.cons (ResA.tmp (.val _)) .nil), rfl⟩
 ·have d3 : (w.fl.tmod 2 == 0) = false := beq_eq_false_iff_ne.2 (by rw [em]; exact hev)
  rw [if_neg hev] at hsi
  rw [hsi] at c5 ⊢
  generalize flagD f.v.dict ((((f.v.dict.map encW).length : Nat) : Int) - 1) w.fl = l2 at *
  refine goF Tryz.func32 (closedL_cons (.agg (encFo_closed f)) closedL_nil) (fun w0 st0 => ?_)
  dsimp only [frOf]
  (repeat' (first | refine goA ?_ | refine cX cs ?_ | refine ARun.indexAddr rfl rfl (by omega) (by with_reducible assumption) rfl rfl rfl rfl rfl (guardF_spec rfl) ?_ | refine cX c5 ?_ | refine goB ?_ | fail))
  exact awp_ret ⟨_, ResL.cons (ResA.agg rfl rfl rfl rfl rfl rfl rfl (RL.allClosed (encFo_closed ⟨setD f.v l2.1, f.c⟩))) (ResL.cons (ResA.tmp (.val _)) .nil), rfl⟩
end Go.Proofs.YthlbcakjngcjbaaGreat
namespace Go.Proofs.YthlbcakjngcjbaaGreat
open Go Go.RowKit
open Go.Proofs.YthlbcakjngcjbaaGreat.Dict (St Bs bs_eq Wd encW encWs closed_ws)
open Go.Proofs.YthlbcakjngcjbaaGreat.Mem (Mm encM encBs closed_bs encP encP_closed closed_m)
open Go.Proofs.YthlbcakjngcjbaaGreat.Stk (encS closed_s encI_closed)
set_option maxRecDepth 100000
def encCp (c : Cp) : List AV := [.val (.int .i64 c.xt), encLCf c.cf, .val (.int .i64 c.here), .val (.int .i64 c.dict), .val (.int .i64 c.last), .val (.bool c.on), .val (.int .i64 c.fuel)]
def NoneP (c : Cp) : Prop := c.cf.length = 0 ∧ c.here = 0 ∧ c.dict = 0 ∧ c.last = 0 ∧ c.on = false ∧ c.fuel = 0
def PlaceP (f : Fo) : Prop := f.c.xt.tmod 8 = 0 ∧ 1368 ≤ f.c.xt ∧ f.c.xt ≤ f.v.cf.mem - 8
def AheadP (f : Fo) : Prop := 1368 ≤ f.c.here ∧ f.c.here ≤ f.c.xt ∧ 0 ≤ f.c.dict ∧ f.c.dict < f.v.dict.length
def MadeP (f : Fo) : Prop := PlaceP f ∧ AheadP f ∧ RightC f.c.cf ∧ 0 ≤ f.c.fuel
def RightF (f : Fo) : Prop := RightV f.v ∧ (f.c.xt = 0 → NoneP f.c) ∧ (f.c.xt ≠ 0 → MadeP f)
def FewF (f : Fo) : Prop := FewV f.v ∧ FewC f.c.cf
def RestP' (a b : Cp) : Prop := a.xt = b.xt ∧ a.here = b.here ∧ a.dict = b.dict ∧ a.last = b.last ∧ a.on = b.on ∧ a.fuel = b.fuel
theorem Fo.ext' {a b : Fo} (h1 : a.v = b.v) (h2 : RestP' a.c b.c) (h3 : a.c.cf = b.c.cf) : a = b := by
 obtain ⟨av, ac⟩ := a
 obtain ⟨bv, bc⟩ := b
 obtain ⟨a1, a2, a3, a4, a5, a6, a7⟩ := ac
 obtain ⟨b1, b2, b3, b4, b5, b6, b7⟩ := bc
 obtain ⟨r1, r2, r3, r4, r5, r6⟩ := h2
 simp only at h1 h3 r1 r2 r3 r4 r5 r6
 subst h1 h3 r1 r2 r3 r4 r5 r6
 rfl
theorem right_none {f : Fo} (h1 : RightV f.v) (h2 : f.c.xt = 0) : pD (RightF f) = pD (NoneP f.c) := pD_congr ⟨fun h => h.2.1 h2, fun h => ⟨h1, fun _ => h, fun e => absurd h2 e⟩⟩
theorem right_made {f : Fo} (h1 : RightV f.v) (h2 : f.c.xt ≠ 0) : pD (RightF f) = pD (MadeP f) := pD_congr ⟨fun h => h.2.2 h2, fun h => ⟨h1, fun e => absurd e h2, fun _ => h⟩⟩
attribute [local irreducible] Decidable.decide awp ARun regK toK
set_option maxHeartbeats 16000000 in
theorem rightF_c (f : Fo) (hv : Held f.v) (hl : f.c.cf.length ≤ 1000000) : FnC Tryz.prog 12 [.agg (encFo f)] (.val (.bool (pD (RightF f)))) := by
 have c1 := right_c f.v hv
 have cm := made_c f
 have cr := cright_c f.c.cf hl
 have cs := start_c
 have e3 : (((f.c.cf.map encCf).length : Nat) : Int) = f.c.cf.length := by rw [List.length_map]
 have e2 : (((f.v.dict.map encW).length : Nat) : Int) = f.v.dict.length := by rw [List.length_map]
 have nt : (!true) = false := rfl
 have nf : (!false) = true := rfl
 by_cases hV : RightV f.v
 case neg =>
  rw [pD_no hV] at c1
  rw [pD_no (fun h => hV h.1)]
  refine goF Tryz.func12 (closedL_cons (.agg (encFo_closed f)) closedL_nil) (fun w0 st0 => ?_)
  dsimp only [frOf]
  (repeat' (first | refine goA ?_ | refine cX c1 ?_ | refine goB ?_ | fail))
  exact awp_ret ⟨_, ResL.cons (ResA.tmp (.val _)) .nil, rfl⟩
 rw [pD_yes hV] at c1
 have hmem := hV.1.1
 by_cases hx : f.c.xt = 0
 ·rw [closeC_zero hx] at cm
  rw [right_none hV hx]
  generalize hb : pD (NoneP f.c) = b
  by_cases h0 : f.c.cf.length = 0
  case neg =>
   have g0 : ((((f.c.cf.map encCf).length : Nat) : Int) == 0) = false := beq_eq_false_iff_ne.2 (by omega)
   obtain rfl : b = false := hb.symm.trans (pD_no (fun h => h0 h.1))
   refine goF Tryz.func12 (closedL_cons (.agg (encFo_closed f)) closedL_nil) (fun w0 st0 => ?_)
   dsimp only [frOf]
   (repeat' (first | refine goA ?_ | refine cX c1 ?_ | refine cX cm ?_ | refine goB ?_ | fail))
   first
   | exact awp_ret ⟨_, ResL.cons (ResA.tmp (.val _)) .nil, rfl⟩
   | exact awp_ret ⟨_, ResL.cons (ResA.tmp (.val _)) .nil, congrArg (fun b => AV.val (.bool b)) (by first | rfl | assumption | (symm; assumption))⟩
  have g0 : ((((f.c.cf.map encCf).length : Nat) : Int) == 0) = true := beq_iff_eq.2 (by omega)
  by_cases h1 : f.c.here = 0
  case neg =>
   have g1 : (f.c.here == 0) = false := beq_eq_false_iff_ne.2 h1
   obtain rfl : b = false := hb.symm.trans (pD_no (fun h => h1 h.2.1))
   refine goF Tryz.func12 (closedL_cons (.agg (encFo_closed f)) closedL_nil) (fun w0 st0 => ?_)
   dsimp only [frOf]
   (repeat' (first | refine goA ?_ | refine cX c1 ?_ | refine cX cm ?_ | refine goB ?_ | fail))
   first
   | exact awp_ret ⟨_, ResL.cons (ResA.tmp (.val _)) .nil, rfl⟩
   | exact awp_ret ⟨_, ResL.cons (ResA.tmp (.val _)) .nil, congrArg (fun b => AV.val (.bool b)) (by first | rfl | assumption | (symm; assumption))⟩
  have g1 : (f.c.here == 0) = true := beq_iff_eq.2 h1
  by_cases h2 : f.c.dict = 0
  case neg =>
   have g2 : (f.c.dict == 0) = false := beq_eq_false_iff_ne.2 h2
   obtain rfl : b = false := hb.symm.trans (pD_no (fun h => h2 h.2.2.1))
   refine goF Tryz.func12 (closedL_cons (.agg (encFo_closed f)) closedL_nil) (fun w0 st0 => ?_)
   dsimp only [frOf]
   (repeat' (first | refine goA ?_ | refine cX c1 ?_ | refine cX cm ?_ | refine goB ?_ | fail))
   first
   | exact awp_ret ⟨_, ResL.cons (ResA.tmp (.val _)) .nil, rfl⟩
   | exact awp_ret ⟨_, ResL.cons (ResA.tmp (.val _)) .nil, congrArg (fun b => AV.val (.bool b)) (by first | rfl | assumption | (symm; assumption))⟩
  have g2 : (f.c.dict == 0) = true := beq_iff_eq.2 h2
  by_cases h3 : f.c.last = 0
  case neg =>
   have g3 : (f.c.last == 0) = false := beq_eq_false_iff_ne.2 h3
   obtain rfl : b = false := hb.symm.trans (pD_no (fun h => h3 h.2.2.2.1))
   refine goF Tryz.func12 (closedL_cons (.agg (encFo_closed f)) closedL_nil) (fun w0 st0 => ?_)
   dsimp only [frOf]
   (repeat' (first | refine goA ?_ | refine cX c1 ?_ | refine cX cm ?_ | refine goB ?_ | fail))
   first
   | exact awp_ret ⟨_, ResL.cons (ResA.tmp (.val _)) .nil, rfl⟩
   | exact awp_ret ⟨_, ResL.cons (ResA.tmp (.val _)) .nil, congrArg (fun b => AV.val (.bool b)) (by first | rfl | assumption | (symm; assumption))⟩
  have g3 : (f.c.last == 0) = true := beq_iff_eq.2 h3
  by_cases h4 : f.c.on = false
  case neg =>
   have g4 : (!f.c.on) = false := by cases hh : f.c.on; exact absurd hh h4; rfl
   obtain rfl : b = false := hb.symm.trans (pD_no (fun h => h4 h.2.2.2.2.1))
   refine goF Tryz.func12 (closedL_cons (.agg (encFo_closed f)) closedL_nil) (fun w0 st0 => ?_)
   dsimp only [frOf]
   (repeat' (first | refine goA ?_ | refine cX c1 ?_ | refine cX cm ?_ | refine goB ?_ | fail))
   first
   | exact awp_ret ⟨_, ResL.cons (ResA.tmp (.val _)) .nil, rfl⟩
   | exact awp_ret ⟨_, ResL.cons (ResA.tmp (.val _)) .nil, congrArg (fun b => AV.val (.bool b)) (by first | rfl | assumption | (symm; assumption))⟩
  have g4 : (!f.c.on) = true := by rw [h4]; rfl
  by_cases h5 : f.c.fuel = 0
  case neg =>
   have g5 : (f.c.fuel == 0) = false := beq_eq_false_iff_ne.2 h5
   obtain rfl : b = false := hb.symm.trans (pD_no (fun h => h5 h.2.2.2.2.2))
   refine goF Tryz.func12 (closedL_cons (.agg (encFo_closed f)) closedL_nil) (fun w0 st0 => ?_)
   dsimp only [frOf]
   (repeat' (first | refine goA ?_ | refine cX c1 ?_ | refine cX cm ?_ | refine goB ?_ | fail))
   first
   | exact awp_ret ⟨_, ResL.cons (ResA.tmp (.val _)) .nil, rfl⟩
   | exact awp_ret ⟨_, ResL.cons (ResA.tmp (.val _)) .nil, congrArg (fun b => AV.val (.bool b)) (by first | rfl | assumption | (symm; assumption))⟩
  have g5 : (f.c.fuel == 0) = true := beq_iff_eq.2 h5
  obtain rfl : b = true := hb.symm.trans (pD_yes ⟨h0, h1, h2, h3, h4, h5⟩)
  refine goF Tryz.func12 (closedL_cons (.agg (encFo_closed f)) closedL_nil) (fun w0 st0 => ?_)
  dsimp only [frOf]
  (repeat' (first | refine goA ?_ | refine cX c1 ?_ | refine cX cm ?_ | refine goB ?_ | fail))
  first
   | exact awp_ret ⟨_, ResL.cons (ResA.tmp (.val _)) .nil, rfl⟩
   | exact awp_ret ⟨_, ResL.cons (ResA.tmp (.val _)) .nil, congrArg (fun b => AV.val (.bool b)) (by first | rfl | assumption | (symm; assumption))⟩
 rw [closeC_one hx] at cm
 rw [right_made hV hx]
 have hm1 := hmem.1
 have hm3 := hV.1.2.1.2.1
 have hm4 := hV.1.2.2.1
 generalize hb1 : pD (PlaceP f) = b1
 generalize hb2 : pD (AheadP f) = b2
 generalize hb : pD (MadeP f) = b
 refine goF Tryz.func12 (closedL_cons (.agg (encFo_closed f)) closedL_nil) (fun w0 st0 => ?_)
 dsimp only [frOf]
 (repeat' (first | refine goN ?_ | refine awp_region_ne 6 rfl (fun _ => hmix) ?_ | refine ARun.o rfl ?_ | refine cX c1 ?_ | refine cX cm ?_ | refine goB ?_ | ((fail_if_success refine ARun.plain rfl ?_); refine ARun.fork rfl rfl rfl (fun h => ?_) (fun h => ?_)) | refine awp_cond rfl (fun h => ?_) (fun h => ?_)))
 refine awp_cut (T := Nat) (fun t => ⟨[(1, .ptr 1 0 0 0), (3, .ptr 3 4 0 0), (4, .val (.bool b1))], [(1, some ⟨0, 30, [encFo f]⟩), (3, some ⟨4, 7, [encCp f.c]⟩)], t⟩) (fun _ => True) ?_ (fun t1 _ => ?_)
 ·clear hb2 hb
  by_cases h0 : f.c.xt.tmod 8 = 0
  case neg =>
   have gh0 : (f.c.xt.tmod 8 == 0) = false := beq_eq_false_iff_ne.2 h0
   obtain rfl : b1 = false := hb1.symm.trans (pD_no (fun h => h0 h.1))
   (repeat' (first | refine goA ?_ | refine cX cs ?_ | refine goB ?_ | fail))
   exact ⟨_, ⟨⟨rfl, rfl, (by first | rfl | exact congrArg (fun b => AV.val (.bool b)) (by assumption)), trivial⟩, ⟨rfl, rfl, trivial⟩, Nat.le_refl _⟩, trivial⟩
  have gh0 : (f.c.xt.tmod 8 == 0) = true := beq_iff_eq.2 h0
  by_cases h1 : 1368 ≤ f.c.xt
  case neg =>
   have gh1 : decide (1368 ≤ f.c.xt) = false := decide_eq_false h1
   obtain rfl : b1 = false := hb1.symm.trans (pD_no (fun h => h1 h.2.1))
   (repeat' (first | refine goA ?_ | refine cX cs ?_ | refine goB ?_ | fail))
   exact ⟨_, ⟨⟨rfl, rfl, (by first | rfl | exact congrArg (fun b => AV.val (.bool b)) (by assumption)), trivial⟩, ⟨rfl, rfl, trivial⟩, Nat.le_refl _⟩, trivial⟩
  have gh1 : decide (1368 ≤ f.c.xt) = true := decide_eq_true h1
  by_cases h2 : f.c.xt ≤ f.v.cf.mem - 8
  case neg =>
   have gh2 : decide (f.c.xt ≤ f.v.cf.mem - 8) = false := decide_eq_false h2
   obtain rfl : b1 = false := hb1.symm.trans (pD_no (fun h => h2 h.2.2))
   (repeat' (first | refine goA ?_ | refine cX cs ?_ | refine goB ?_ | fail))
   exact ⟨_, ⟨⟨rfl, rfl, (by first | rfl | exact congrArg (fun b => AV.val (.bool b)) (by assumption)), trivial⟩, ⟨rfl, rfl, trivial⟩, Nat.le_refl _⟩, trivial⟩
  have gh2 : decide (f.c.xt ≤ f.v.cf.mem - 8) = true := decide_eq_true h2
  obtain rfl : b1 = true := hb1.symm.trans (pD_yes ⟨h0, h1, h2⟩)
  (repeat' (first | refine goA ?_ | refine cX cs ?_ | refine goB ?_ | fail))
  exact ⟨_, ⟨⟨rfl, rfl, (by first | rfl | exact congrArg (fun b => AV.val (.bool b)) (by assumption)), trivial⟩, ⟨rfl, rfl, trivial⟩, Nat.le_refl _⟩, trivial⟩
 refine awp_seq ?_
 refine awp_cut (T := Nat) (fun t => ⟨[(1, .ptr 1 0 0 0), (3, .ptr 3 4 0 0), (4, .val (.bool b1)), (5, .val (.bool b2))], [(1, some ⟨0, 30, [encFo f]⟩), (3, some ⟨4, 7, [encCp f.c]⟩)], t⟩) (fun _ => True) ?_ (fun t2 _ => ?_)
 ·clear hb1 hb
  by_cases h0 : 1368 ≤ f.c.here
  case neg =>
   have gh0 : decide (1368 ≤ f.c.here) = false := decide_eq_false h0
   obtain rfl : b2 = false := hb2.symm.trans (pD_no (fun h => h0 h.1))
   (repeat' (first | refine goA ?_ | refine cX cs ?_ | refine goB ?_ | fail))
   exact ⟨_, ⟨⟨rfl, rfl, rfl, (by first | rfl | exact congrArg (fun b => AV.val (.bool b)) (by assumption)), trivial⟩, ⟨rfl, rfl, trivial⟩, Nat.le_refl _⟩, trivial⟩
  have gh0 : decide (1368 ≤ f.c.here) = true := decide_eq_true h0
  by_cases h1 : f.c.here ≤ f.c.xt
  case neg =>
   have gh1 : decide (f.c.here ≤ f.c.xt) = false := decide_eq_false h1
   obtain rfl : b2 = false := hb2.symm.trans (pD_no (fun h => h1 h.2.1))
   (repeat' (first | refine goA ?_ | refine cX cs ?_ | refine goB ?_ | fail))
   exact ⟨_, ⟨⟨rfl, rfl, rfl, (by first | rfl | exact congrArg (fun b => AV.val (.bool b)) (by assumption)), trivial⟩, ⟨rfl, rfl, trivial⟩, Nat.le_refl _⟩, trivial⟩
  have gh1 : decide (f.c.here ≤ f.c.xt) = true := decide_eq_true h1
  by_cases h2 : 0 ≤ f.c.dict
  case neg =>
   have gh2 : decide (0 ≤ f.c.dict) = false := decide_eq_false h2
   obtain rfl : b2 = false := hb2.symm.trans (pD_no (fun h => h2 h.2.2.1))
   (repeat' (first | refine goA ?_ | refine cX cs ?_ | refine goB ?_ | fail))
   exact ⟨_, ⟨⟨rfl, rfl, rfl, (by first | rfl | exact congrArg (fun b => AV.val (.bool b)) (by assumption)), trivial⟩, ⟨rfl, rfl, trivial⟩, Nat.le_refl _⟩, trivial⟩
  have gh2 : decide (0 ≤ f.c.dict) = true := decide_eq_true h2
  by_cases h3 : f.c.dict < f.v.dict.length
  case neg =>
   have gh3 : decide (f.c.dict < (((f.v.dict.map encW).length : Nat) : Int)) = false := decide_eq_false (by omega)
   obtain rfl : b2 = false := hb2.symm.trans (pD_no (fun h => h3 h.2.2.2))
   (repeat' (first | refine goA ?_ | refine cX cs ?_ | refine goB ?_ | fail))
   exact ⟨_, ⟨⟨rfl, rfl, rfl, (by first | rfl | exact congrArg (fun b => AV.val (.bool b)) (by assumption)), trivial⟩, ⟨rfl, rfl, trivial⟩, Nat.le_refl _⟩, trivial⟩
  have gh3 : decide (f.c.dict < (((f.v.dict.map encW).length : Nat) : Int)) = true := decide_eq_true (by omega)
  obtain rfl : b2 = true := hb2.symm.trans (pD_yes ⟨h0, h1, h2, h3⟩)
  (repeat' (first | refine goA ?_ | refine cX cs ?_ | refine goB ?_ | fail))
  exact ⟨_, ⟨⟨rfl, rfl, rfl, (by first | rfl | exact congrArg (fun b => AV.val (.bool b)) (by assumption)), trivial⟩, ⟨rfl, rfl, trivial⟩, Nat.le_refl _⟩, trivial⟩
 by_cases k1 : PlaceP f
 case neg =>
  obtain rfl : b1 = false := hb1.symm.trans (pD_no k1)
  obtain rfl : b = false := hb.symm.trans (pD_no (fun h => k1 h.1))
  (repeat' (first | refine goA ?_ | refine cX cr ?_ | refine goB ?_ | fail))
  exact awp_ret ⟨_, ResL.cons (ResA.tmp (.val _)) .nil, rfl⟩
 obtain rfl : b1 = true := hb1.symm.trans (pD_yes k1)
 by_cases k2 : AheadP f
 case neg =>
  obtain rfl : b2 = false := hb2.symm.trans (pD_no k2)
  obtain rfl : b = false := hb.symm.trans (pD_no (fun h => k2 h.2.1))
  (repeat' (first | refine goA ?_ | refine cX cr ?_ | refine goB ?_ | fail))
  exact awp_ret ⟨_, ResL.cons (ResA.tmp (.val _)) .nil, rfl⟩
 obtain rfl : b2 = true := hb2.symm.trans (pD_yes k2)
 by_cases k3 : RightC f.c.cf
 case neg =>
  rw [pD_no k3] at cr
  obtain rfl : b = false := hb.symm.trans (pD_no (fun h => k3 h.2.2.1))
  (repeat' (first | refine goA ?_ | refine cX cr ?_ | refine goB ?_ | fail))
  exact awp_ret ⟨_, ResL.cons (ResA.tmp (.val _)) .nil, rfl⟩
 rw [pD_yes k3] at cr
 have hf : b = decide (0 ≤ f.c.fuel) := by
  rw [← hb, dec_pD]
  exact pD_congr ⟨fun h => h.2.2.2, fun h => ⟨k1, k2, k3, h⟩⟩
 subst hf
 (repeat' (first | refine goA ?_ | refine cX cr ?_ | refine goB ?_ | fail))
 exact awp_ret ⟨_, ResL.cons (ResA.tmp (.val _)) .nil, rfl⟩
set_option maxHeartbeats 16000000 in
theorem ref_rightF_c (f : Fo) (hv : Held f.v) (hl : f.c.cf.length ≤ 1000000) : FnC Tryz.prog 13 [.agg (encFo f)] (.val (.bool (pD (RightF f)))) := by
 have c1 := ref_right_c f.v hv
 have cr := ref_cright_c f.c.cf hl
 have cs := ref_start_c
 have e3 : (((f.c.cf.map encCf).length : Nat) : Int) = f.c.cf.length := by rw [List.length_map]
 have e2 : (((f.v.dict.map encW).length : Nat) : Int) = f.v.dict.length := by rw [List.length_map]
 have nt : (!true) = false := rfl
 have nf : (!false) = true := rfl
 by_cases hV : RightV f.v
 case neg =>
  rw [pD_no hV] at c1
  rw [pD_no (fun h => hV h.1)]
  refine goF Tryz.func13 (closedL_cons (.agg (encFo_closed f)) closedL_nil) (fun w0 st0 => ?_)
  dsimp only [frOf]
  (repeat' (first | refine goA ?_ | refine cX c1 ?_ | refine cX cr ?_ | refine goB ?_ | fail))
  exact awp_ret ⟨_, ResL.cons (ResA.tmp (.val _)) .nil, rfl⟩
 rw [pD_yes hV] at c1
 have hmem := hV.1.1
 by_cases hx : f.c.xt = 0
 ·have dx : (f.c.xt == 0) = true := beq_iff_eq.2 hx
  rw [right_none hV hx]
  generalize pD (RightC f.c.cf) = rc at *
  generalize hb : pD (NoneP f.c) = b
  by_cases h0 : f.c.cf.length = 0
  case neg =>
   have g0 : ((((f.c.cf.map encCf).length : Nat) : Int) == 0) = false := beq_eq_false_iff_ne.2 (by omega)
   obtain rfl : b = false := hb.symm.trans (pD_no (fun h => h0 h.1))
   refine goF Tryz.func13 (closedL_cons (.agg (encFo_closed f)) closedL_nil) (fun w0 st0 => ?_)
   dsimp only [frOf]
   (repeat' (first | refine goA ?_ | refine cX c1 ?_ | refine cX cr ?_ | refine goB ?_ | fail))
   first
   | exact awp_ret ⟨_, ResL.cons (ResA.tmp (.val _)) .nil, rfl⟩
   | exact awp_ret ⟨_, ResL.cons (ResA.tmp (.val _)) .nil, congrArg (fun b => AV.val (.bool b)) (by first | rfl | assumption | (symm; assumption))⟩
  have g0 : ((((f.c.cf.map encCf).length : Nat) : Int) == 0) = true := beq_iff_eq.2 (by omega)
  by_cases h1 : f.c.here = 0
  case neg =>
   have g1 : (f.c.here == 0) = false := beq_eq_false_iff_ne.2 h1
   obtain rfl : b = false := hb.symm.trans (pD_no (fun h => h1 h.2.1))
   refine goF Tryz.func13 (closedL_cons (.agg (encFo_closed f)) closedL_nil) (fun w0 st0 => ?_)
   dsimp only [frOf]
   (repeat' (first | refine goA ?_ | refine cX c1 ?_ | refine cX cr ?_ | refine goB ?_ | fail))
   first
   | exact awp_ret ⟨_, ResL.cons (ResA.tmp (.val _)) .nil, rfl⟩
   | exact awp_ret ⟨_, ResL.cons (ResA.tmp (.val _)) .nil, congrArg (fun b => AV.val (.bool b)) (by first | rfl | assumption | (symm; assumption))⟩
  have g1 : (f.c.here == 0) = true := beq_iff_eq.2 h1
  by_cases h2 : f.c.dict = 0
  case neg =>
   have g2 : (f.c.dict == 0) = false := beq_eq_false_iff_ne.2 h2
   obtain rfl : b = false := hb.symm.trans (pD_no (fun h => h2 h.2.2.1))
   refine goF Tryz.func13 (closedL_cons (.agg (encFo_closed f)) closedL_nil) (fun w0 st0 => ?_)
   dsimp only [frOf]
   (repeat' (first | refine goA ?_ | refine cX c1 ?_ | refine cX cr ?_ | refine goB ?_ | fail))
   first
   | exact awp_ret ⟨_, ResL.cons (ResA.tmp (.val _)) .nil, rfl⟩
   | exact awp_ret ⟨_, ResL.cons (ResA.tmp (.val _)) .nil, congrArg (fun b => AV.val (.bool b)) (by first | rfl | assumption | (symm; assumption))⟩
  have g2 : (f.c.dict == 0) = true := beq_iff_eq.2 h2
  by_cases h3 : f.c.last = 0
  case neg =>
   have g3 : (f.c.last == 0) = false := beq_eq_false_iff_ne.2 h3
   obtain rfl : b = false := hb.symm.trans (pD_no (fun h => h3 h.2.2.2.1))
   refine goF Tryz.func13 (closedL_cons (.agg (encFo_closed f)) closedL_nil) (fun w0 st0 => ?_)
   dsimp only [frOf]
   (repeat' (first | refine goA ?_ | refine cX c1 ?_ | refine cX cr ?_ | refine goB ?_ | fail))
   first
   | exact awp_ret ⟨_, ResL.cons (ResA.tmp (.val _)) .nil, rfl⟩
   | exact awp_ret ⟨_, ResL.cons (ResA.tmp (.val _)) .nil, congrArg (fun b => AV.val (.bool b)) (by first | rfl | assumption | (symm; assumption))⟩
  have g3 : (f.c.last == 0) = true := beq_iff_eq.2 h3
  by_cases h4 : f.c.on = false
  case neg =>
   have g4 : (!f.c.on) = false := by cases hh : f.c.on; exact absurd hh h4; rfl
   obtain rfl : b = false := hb.symm.trans (pD_no (fun h => h4 h.2.2.2.2.1))
   refine goF Tryz.func13 (closedL_cons (.agg (encFo_closed f)) closedL_nil) (fun w0 st0 => ?_)
   dsimp only [frOf]
   (repeat' (first | refine goA ?_ | refine cX c1 ?_ | refine cX cr ?_ | refine goB ?_ | fail))
   first
   | exact awp_ret ⟨_, ResL.cons (ResA.tmp (.val _)) .nil, rfl⟩
   | exact awp_ret ⟨_, ResL.cons (ResA.tmp (.val _)) .nil, congrArg (fun b => AV.val (.bool b)) (by first | rfl | assumption | (symm; assumption))⟩
  have g4 : (!f.c.on) = true := by rw [h4]; rfl
  by_cases h5 : f.c.fuel = 0
  case neg =>
   have g5 : (f.c.fuel == 0) = false := beq_eq_false_iff_ne.2 h5
   obtain rfl : b = false := hb.symm.trans (pD_no (fun h => h5 h.2.2.2.2.2))
   refine goF Tryz.func13 (closedL_cons (.agg (encFo_closed f)) closedL_nil) (fun w0 st0 => ?_)
   dsimp only [frOf]
   (repeat' (first | refine goA ?_ | refine cX c1 ?_ | refine cX cr ?_ | refine goB ?_ | fail))
   first
   | exact awp_ret ⟨_, ResL.cons (ResA.tmp (.val _)) .nil, rfl⟩
   | exact awp_ret ⟨_, ResL.cons (ResA.tmp (.val _)) .nil, congrArg (fun b => AV.val (.bool b)) (by first | rfl | assumption | (symm; assumption))⟩
  have g5 : (f.c.fuel == 0) = true := beq_iff_eq.2 h5
  obtain rfl : b = true := hb.symm.trans (pD_yes ⟨h0, h1, h2, h3, h4, h5⟩)
  refine goF Tryz.func13 (closedL_cons (.agg (encFo_closed f)) closedL_nil) (fun w0 st0 => ?_)
  dsimp only [frOf]
  (repeat' (first | refine goA ?_ | refine cX c1 ?_ | refine cX cr ?_ | refine goB ?_ | fail))
  first
   | exact awp_ret ⟨_, ResL.cons (ResA.tmp (.val _)) .nil, rfl⟩
   | exact awp_ret ⟨_, ResL.cons (ResA.tmp (.val _)) .nil, congrArg (fun b => AV.val (.bool b)) (by first | rfl | assumption | (symm; assumption))⟩
 have dx : (f.c.xt == 0) = false := beq_eq_false_iff_ne.2 hx
 rw [right_made hV hx]
 have hm1 := hmem.1
 have hm3 := hV.1.2.1.2.1
 have hm4 := hV.1.2.2.1
 by_cases k3 : RightC f.c.cf
 case neg =>
  rw [pD_no k3] at cr
  rw [pD_no (fun h => k3 h.2.2.1)]
  refine goF Tryz.func13 (closedL_cons (.agg (encFo_closed f)) closedL_nil) (fun w0 st0 => ?_)
  dsimp only [frOf]
  (repeat' (first | refine goA ?_ | refine cX c1 ?_ | refine cX cr ?_ | refine cX cs ?_ | refine goB ?_ | fail))
  exact awp_ret ⟨_, ResL.cons (ResA.tmp (.val _)) .nil, rfl⟩
 rw [pD_yes k3] at cr
 generalize hb : pD (MadeP f) = b
 by_cases h0 : f.c.xt.tmod 8 = 0
 case neg =>
  have g0 : (f.c.xt.tmod 8 == 0) = false := beq_eq_false_iff_ne.2 h0
  obtain rfl : b = false := hb.symm.trans (pD_no (fun h => h0 h.1.1))
  refine goF Tryz.func13 (closedL_cons (.agg (encFo_closed f)) closedL_nil) (fun w0 st0 => ?_)
  dsimp only [frOf]
  (repeat' (first | refine goA ?_ | refine cX c1 ?_ | refine cX cr ?_ | refine cX cs ?_ | refine goB ?_ | fail))
  exact awp_ret ⟨_, ResL.cons (ResA.tmp (.val _)) .nil, congrArg (fun b => AV.val (.bool b)) (by first | rfl | assumption | (symm; assumption))⟩
 have g0 : (f.c.xt.tmod 8 == 0) = true := beq_iff_eq.2 h0
 by_cases h1 : 1368 ≤ f.c.xt
 case neg =>
  have g1 : decide (1368 ≤ f.c.xt) = false := decide_eq_false h1
  obtain rfl : b = false := hb.symm.trans (pD_no (fun h => h1 h.1.2.1))
  refine goF Tryz.func13 (closedL_cons (.agg (encFo_closed f)) closedL_nil) (fun w0 st0 => ?_)
  dsimp only [frOf]
  (repeat' (first | refine goA ?_ | refine cX c1 ?_ | refine cX cr ?_ | refine cX cs ?_ | refine goB ?_ | fail))
  exact awp_ret ⟨_, ResL.cons (ResA.tmp (.val _)) .nil, congrArg (fun b => AV.val (.bool b)) (by first | rfl | assumption | (symm; assumption))⟩
 have g1 : decide (1368 ≤ f.c.xt) = true := decide_eq_true h1
 by_cases h2 : f.c.xt ≤ f.v.cf.mem - 8
 case neg =>
  have g2 : decide (f.c.xt ≤ f.v.cf.mem - 8) = false := decide_eq_false h2
  obtain rfl : b = false := hb.symm.trans (pD_no (fun h => h2 h.1.2.2))
  refine goF Tryz.func13 (closedL_cons (.agg (encFo_closed f)) closedL_nil) (fun w0 st0 => ?_)
  dsimp only [frOf]
  (repeat' (first | refine goA ?_ | refine cX c1 ?_ | refine cX cr ?_ | refine cX cs ?_ | refine goB ?_ | fail))
  exact awp_ret ⟨_, ResL.cons (ResA.tmp (.val _)) .nil, congrArg (fun b => AV.val (.bool b)) (by first | rfl | assumption | (symm; assumption))⟩
 have g2 : decide (f.c.xt ≤ f.v.cf.mem - 8) = true := decide_eq_true h2
 by_cases h3 : 1368 ≤ f.c.here
 case neg =>
  have g3 : decide (1368 ≤ f.c.here) = false := decide_eq_false h3
  obtain rfl : b = false := hb.symm.trans (pD_no (fun h => h3 h.2.1.1))
  refine goF Tryz.func13 (closedL_cons (.agg (encFo_closed f)) closedL_nil) (fun w0 st0 => ?_)
  dsimp only [frOf]
  (repeat' (first | refine goA ?_ | refine cX c1 ?_ | refine cX cr ?_ | refine cX cs ?_ | refine goB ?_ | fail))
  exact awp_ret ⟨_, ResL.cons (ResA.tmp (.val _)) .nil, congrArg (fun b => AV.val (.bool b)) (by first | rfl | assumption | (symm; assumption))⟩
 have g3 : decide (1368 ≤ f.c.here) = true := decide_eq_true h3
 by_cases h4 : f.c.here ≤ f.c.xt
 case neg =>
  have g4 : decide (f.c.here ≤ f.c.xt) = false := decide_eq_false h4
  obtain rfl : b = false := hb.symm.trans (pD_no (fun h => h4 h.2.1.2.1))
  refine goF Tryz.func13 (closedL_cons (.agg (encFo_closed f)) closedL_nil) (fun w0 st0 => ?_)
  dsimp only [frOf]
  (repeat' (first | refine goA ?_ | refine cX c1 ?_ | refine cX cr ?_ | refine cX cs ?_ | refine goB ?_ | fail))
  exact awp_ret ⟨_, ResL.cons (ResA.tmp (.val _)) .nil, congrArg (fun b => AV.val (.bool b)) (by first | rfl | assumption | (symm; assumption))⟩
 have g4 : decide (f.c.here ≤ f.c.xt) = true := decide_eq_true h4
 by_cases h5 : 0 ≤ f.c.dict
 case neg =>
  have g5 : decide (0 ≤ f.c.dict) = false := decide_eq_false h5
  obtain rfl : b = false := hb.symm.trans (pD_no (fun h => h5 h.2.1.2.2.1))
  refine goF Tryz.func13 (closedL_cons (.agg (encFo_closed f)) closedL_nil) (fun w0 st0 => ?_)
  dsimp only [frOf]
  (repeat' (first | refine goA ?_ | refine cX c1 ?_ | refine cX cr ?_ | refine cX cs ?_ | refine goB ?_ | fail))
  exact awp_ret ⟨_, ResL.cons (ResA.tmp (.val _)) .nil, congrArg (fun b => AV.val (.bool b)) (by first | rfl | assumption | (symm; assumption))⟩
 have g5 : decide (0 ≤ f.c.dict) = true := decide_eq_true h5
 by_cases h6 : f.c.dict < f.v.dict.length
 case neg =>
  have g6 : decide (f.c.dict < (((f.v.dict.map encW).length : Nat) : Int)) = false := decide_eq_false (by omega)
  obtain rfl : b = false := hb.symm.trans (pD_no (fun h => h6 h.2.1.2.2.2))
  refine goF Tryz.func13 (closedL_cons (.agg (encFo_closed f)) closedL_nil) (fun w0 st0 => ?_)
  dsimp only [frOf]
  (repeat' (first | refine goA ?_ | refine cX c1 ?_ | refine cX cr ?_ | refine cX cs ?_ | refine goB ?_ | fail))
  exact awp_ret ⟨_, ResL.cons (ResA.tmp (.val _)) .nil, congrArg (fun b => AV.val (.bool b)) (by first | rfl | assumption | (symm; assumption))⟩
 have g6 : decide (f.c.dict < (((f.v.dict.map encW).length : Nat) : Int)) = true := decide_eq_true (by omega)
 by_cases h7 : 0 ≤ f.c.fuel
 case neg =>
  have g7 : decide (0 ≤ f.c.fuel) = false := decide_eq_false h7
  obtain rfl : b = false := hb.symm.trans (pD_no (fun h => h7 h.2.2.2))
  refine goF Tryz.func13 (closedL_cons (.agg (encFo_closed f)) closedL_nil) (fun w0 st0 => ?_)
  dsimp only [frOf]
  (repeat' (first | refine goA ?_ | refine cX c1 ?_ | refine cX cr ?_ | refine cX cs ?_ | refine goB ?_ | fail))
  exact awp_ret ⟨_, ResL.cons (ResA.tmp (.val _)) .nil, congrArg (fun b => AV.val (.bool b)) (by first | rfl | assumption | (symm; assumption))⟩
 have g7 : decide (0 ≤ f.c.fuel) = true := decide_eq_true h7
 obtain rfl : b = true := hb.symm.trans (pD_yes ⟨⟨h0, h1, h2⟩, ⟨h3, h4, h5, h6⟩, k3, h7⟩)
 refine goF Tryz.func13 (closedL_cons (.agg (encFo_closed f)) closedL_nil) (fun w0 st0 => ?_)
 dsimp only [frOf]
 (repeat' (first | refine goA ?_ | refine cX c1 ?_ | refine cX cr ?_ | refine cX cs ?_ | refine goB ?_ | fail))
 exact awp_ret ⟨_, ResL.cons (ResA.tmp (.val _)) .nil, congrArg (fun b => AV.val (.bool b)) (by first | rfl | assumption | (symm; assumption))⟩
set_option maxHeartbeats 16000000 in
theorem sameF_c (a b : Fo) (ha : Held a.v) (hb : Held b.v) (hla : a.c.cf.length ≤ 1000000) (hva : ∀ c, c ∈ a.c.cf → c.lv.length ≤ 1000000) : FnC Tryz.prog 14 [.agg (encFo a), .agg (encFo b)] (.val (.bool (pD (a = b)))) := by
 have c1 := same_c a.v b.v ha hb
 have c2 := cfsame_c a.c.cf b.c.cf hla hva
 generalize hq : pD (RestP' a.c b.c) = q
 refine goF Tryz.func14 (closedL_cons (.agg (encFo_closed a)) (closedL_cons (.agg (encFo_closed b)) closedL_nil)) (fun w0 st0 => ?_)
 dsimp only [frOf]
 (repeat' (first | refine goN ?_ | refine awp_region_ne 2 rfl (fun _ => hmix) ?_ | refine ARun.o rfl ?_ | refine goB ?_ | ((fail_if_success refine ARun.plain rfl ?_); refine ARun.fork rfl rfl rfl (fun h => ?_) (fun h => ?_)) | refine awp_cond rfl (fun h => ?_) (fun h => ?_)))
 refine awp_cut (T := Nat) (fun t => ⟨[(2, .ptr 2 0 0 0), (3, .ptr 3 1 0 0), (5, .ptr 5 7 0 0), (6, .ptr 6 8 0 0), (7, .val (.bool q))], [(2, some ⟨0, 30, [encFo a]⟩), (3, some ⟨1, 30, [encFo b]⟩), (5, some ⟨7, 7, [encCp a.c]⟩), (6, some ⟨8, 7, [encCp b.c]⟩)], t⟩) (fun _ => True) ?_ (fun t1 _ => ?_)
 ·have _ := 0
  by_cases h0 : a.c.xt = b.c.xt
  case neg =>
   have gh0 : (a.c.xt == b.c.xt) = false := beq_eq_false_iff_ne.2 h0
   obtain rfl : q = false := hq.symm.trans (pD_no (fun h => h0 h.1))
   (repeat' (first | refine goA ?_ | refine goB ?_ | fail))
   exact ⟨_, ⟨⟨rfl, rfl, rfl, rfl, (by first | rfl | exact congrArg (fun b => AV.val (.bool b)) (by assumption)), trivial⟩, ⟨rfl, rfl, rfl, rfl, trivial⟩, Nat.le_refl _⟩, trivial⟩
  have gh0 : (a.c.xt == b.c.xt) = true := beq_iff_eq.2 h0
  by_cases h1 : a.c.here = b.c.here
  case neg =>
   have gh1 : (a.c.here == b.c.here) = false := beq_eq_false_iff_ne.2 h1
   obtain rfl : q = false := hq.symm.trans (pD_no (fun h => h1 h.2.1))
   (repeat' (first | refine goA ?_ | refine goB ?_ | fail))
   exact ⟨_, ⟨⟨rfl, rfl, rfl, rfl, (by first | rfl | exact congrArg (fun b => AV.val (.bool b)) (by assumption)), trivial⟩, ⟨rfl, rfl, rfl, rfl, trivial⟩, Nat.le_refl _⟩, trivial⟩
  have gh1 : (a.c.here == b.c.here) = true := beq_iff_eq.2 h1
  by_cases h2 : a.c.dict = b.c.dict
  case neg =>
   have gh2 : (a.c.dict == b.c.dict) = false := beq_eq_false_iff_ne.2 h2
   obtain rfl : q = false := hq.symm.trans (pD_no (fun h => h2 h.2.2.1))
   (repeat' (first | refine goA ?_ | refine goB ?_ | fail))
   exact ⟨_, ⟨⟨rfl, rfl, rfl, rfl, (by first | rfl | exact congrArg (fun b => AV.val (.bool b)) (by assumption)), trivial⟩, ⟨rfl, rfl, rfl, rfl, trivial⟩, Nat.le_refl _⟩, trivial⟩
  have gh2 : (a.c.dict == b.c.dict) = true := beq_iff_eq.2 h2
  by_cases h3 : a.c.last = b.c.last
  case neg =>
   have gh3 : (a.c.last == b.c.last) = false := beq_eq_false_iff_ne.2 h3
   obtain rfl : q = false := hq.symm.trans (pD_no (fun h => h3 h.2.2.2.1))
   (repeat' (first | refine goA ?_ | refine goB ?_ | fail))
   exact ⟨_, ⟨⟨rfl, rfl, rfl, rfl, (by first | rfl | exact congrArg (fun b => AV.val (.bool b)) (by assumption)), trivial⟩, ⟨rfl, rfl, rfl, rfl, trivial⟩, Nat.le_refl _⟩, trivial⟩
  have gh3 : (a.c.last == b.c.last) = true := beq_iff_eq.2 h3
  by_cases h4 : a.c.on = b.c.on
  case neg =>
   have gh4 : (a.c.on == b.c.on) = false := beq_eq_false_iff_ne.2 h4
   obtain rfl : q = false := hq.symm.trans (pD_no (fun h => h4 h.2.2.2.2.1))
   (repeat' (first | refine goA ?_ | refine goB ?_ | fail))
   exact ⟨_, ⟨⟨rfl, rfl, rfl, rfl, (by first | rfl | exact congrArg (fun b => AV.val (.bool b)) (by assumption)), trivial⟩, ⟨rfl, rfl, rfl, rfl, trivial⟩, Nat.le_refl _⟩, trivial⟩
  have gh4 : (a.c.on == b.c.on) = true := beq_iff_eq.2 h4
  by_cases h5 : a.c.fuel = b.c.fuel
  case neg =>
   have gh5 : (a.c.fuel == b.c.fuel) = false := beq_eq_false_iff_ne.2 h5
   obtain rfl : q = false := hq.symm.trans (pD_no (fun h => h5 h.2.2.2.2.2))
   (repeat' (first | refine goA ?_ | refine goB ?_ | fail))
   exact ⟨_, ⟨⟨rfl, rfl, rfl, rfl, (by first | rfl | exact congrArg (fun b => AV.val (.bool b)) (by assumption)), trivial⟩, ⟨rfl, rfl, rfl, rfl, trivial⟩, Nat.le_refl _⟩, trivial⟩
  have gh5 : (a.c.fuel == b.c.fuel) = true := beq_iff_eq.2 h5
  obtain rfl : q = true := hq.symm.trans (pD_yes ⟨h0, h1, h2, h3, h4, h5⟩)
  (repeat' (first | refine goA ?_ | refine goB ?_ | fail))
  exact ⟨_, ⟨⟨rfl, rfl, rfl, rfl, (by first | rfl | exact congrArg (fun b => AV.val (.bool b)) (by assumption)), trivial⟩, ⟨rfl, rfl, rfl, rfl, trivial⟩, Nat.le_refl _⟩, trivial⟩
 by_cases h1 : a.v = b.v
 case neg =>
  rw [pD_no h1] at c1
  rw [pD_no (fun h => h1 (by rw [h]))]
  (repeat' (first | refine goA ?_ | refine cX c1 ?_ | refine cX c2 ?_ | refine goB ?_ | fail))
  exact awp_ret ⟨_, ResL.cons (ResA.tmp (.val _)) .nil, rfl⟩
 rw [pD_yes h1] at c1
 by_cases h2 : RestP' a.c b.c
 case neg =>
  obtain rfl : q = false := hq.symm.trans (pD_no h2)
  rw [pD_no (fun h => h2 (by rw [h]; exact ⟨rfl, rfl, rfl, rfl, rfl, rfl⟩))]
  (repeat' (first | refine goA ?_ | refine cX c1 ?_ | refine cX c2 ?_ | refine goB ?_ | fail))
  exact awp_ret ⟨_, ResL.cons (ResA.tmp (.val _)) .nil, rfl⟩
 obtain rfl : q = true := hq.symm.trans (pD_yes h2)
 rw [show pD (a = b) = pD (a.c.cf = b.c.cf) from pD_congr ⟨fun h => by rw [h], fun h => Fo.ext' h1 h2 h⟩]
 (repeat' (first | refine goA ?_ | refine cX c1 ?_ | refine cX c2 ?_ | refine goB ?_ | fail))
 exact awp_ret ⟨_, ResL.cons (ResA.tmp (.val _)) .nil, rfl⟩
set_option maxHeartbeats 16000000 in
theorem ref_sameF_c (a b : Fo) (ha : Held a.v) (hb : Held b.v) (hla : a.c.cf.length ≤ 1000000) (hva : ∀ c, c ∈ a.c.cf → c.lv.length ≤ 1000000) (hvb : ∀ c, c ∈ b.c.cf → c.lv.length ≤ 1000000) : FnC Tryz.prog 15 [.agg (encFo a), .agg (encFo b)] (.val (.bool (pD (a = b)))) := by
 have c1 := ref_same_c a.v b.v ha hb
 have c2 := ref_cfsame_c a.c.cf b.c.cf hla hva hvb
 by_cases h1 : a.v = b.v
 case neg =>
  rw [pD_no h1] at c1
  rw [pD_no (fun h => h1 (by rw [h]))]
  refine goF Tryz.func15 (closedL_cons (.agg (encFo_closed a)) (closedL_cons (.agg (encFo_closed b)) closedL_nil)) (fun w0 st0 => ?_)
  dsimp only [frOf]
  (repeat' (first | refine goA ?_ | refine cX c1 ?_ | refine cX c2 ?_ | refine goB ?_ | fail))
  exact awp_ret ⟨_, ResL.cons (ResA.tmp (.val _)) .nil, rfl⟩
 rw [pD_yes h1] at c1
 by_cases h2 : a.c.cf = b.c.cf
 case neg =>
  rw [pD_no h2] at c2
  rw [pD_no (fun h => h2 (by rw [h]))]
  refine goF Tryz.func15 (closedL_cons (.agg (encFo_closed a)) (closedL_cons (.agg (encFo_closed b)) closedL_nil)) (fun w0 st0 => ?_)
  dsimp only [frOf]
  (repeat' (first | refine goA ?_ | refine cX c1 ?_ | refine cX c2 ?_ | refine goB ?_ | fail))
  exact awp_ret ⟨_, ResL.cons (ResA.tmp (.val _)) .nil, rfl⟩
 rw [pD_yes h2] at c2
 rw [show pD (a = b) = pD (RestP' a.c b.c) from pD_congr ⟨fun h => by rw [h]; exact ⟨rfl, rfl, rfl, rfl, rfl, rfl⟩, fun h => Fo.ext' h1 h h2⟩]
 generalize hq : pD (RestP' a.c b.c) = q
 by_cases h0 : a.c.xt = b.c.xt
 case neg =>
  have g0 : (a.c.xt == b.c.xt) = false := beq_eq_false_iff_ne.2 h0
  obtain rfl : q = false := hq.symm.trans (pD_no (fun h => h0 h.1))
  refine goF Tryz.func15 (closedL_cons (.agg (encFo_closed a)) (closedL_cons (.agg (encFo_closed b)) closedL_nil)) (fun w0 st0 => ?_)
  dsimp only [frOf]
  (repeat' (first | refine goA ?_ | refine cX c1 ?_ | refine cX c2 ?_ | refine goB ?_ | fail))
  exact awp_ret ⟨_, ResL.cons (ResA.tmp (.val _)) .nil, congrArg (fun b => AV.val (.bool b)) (by first | rfl | assumption | (symm; assumption))⟩
 have g0 : (a.c.xt == b.c.xt) = true := beq_iff_eq.2 h0
 by_cases h1 : a.c.here = b.c.here
 case neg =>
  have g1 : (a.c.here == b.c.here) = false := beq_eq_false_iff_ne.2 h1
  obtain rfl : q = false := hq.symm.trans (pD_no (fun h => h1 h.2.1))
  refine goF Tryz.func15 (closedL_cons (.agg (encFo_closed a)) (closedL_cons (.agg (encFo_closed b)) closedL_nil)) (fun w0 st0 => ?_)
  dsimp only [frOf]
  (repeat' (first | refine goA ?_ | refine cX c1 ?_ | refine cX c2 ?_ | refine goB ?_ | fail))
  exact awp_ret ⟨_, ResL.cons (ResA.tmp (.val _)) .nil, congrArg (fun b => AV.val (.bool b)) (by first | rfl | assumption | (symm; assumption))⟩
 have g1 : (a.c.here == b.c.here) = true := beq_iff_eq.2 h1
 by_cases h2 : a.c.dict = b.c.dict
 case neg =>
  have g2 : (a.c.dict == b.c.dict) = false := beq_eq_false_iff_ne.2 h2
  obtain rfl : q = false := hq.symm.trans (pD_no (fun h => h2 h.2.2.1))
  refine goF Tryz.func15 (closedL_cons (.agg (encFo_closed a)) (closedL_cons (.agg (encFo_closed b)) closedL_nil)) (fun w0 st0 => ?_)
  dsimp only [frOf]
  (repeat' (first | refine goA ?_ | refine cX c1 ?_ | refine cX c2 ?_ | refine goB ?_ | fail))
  exact awp_ret ⟨_, ResL.cons (ResA.tmp (.val _)) .nil, congrArg (fun b => AV.val (.bool b)) (by first | rfl | assumption | (symm; assumption))⟩
 have g2 : (a.c.dict == b.c.dict) = true := beq_iff_eq.2 h2
 by_cases h3 : a.c.last = b.c.last
 case neg =>
  have g3 : (a.c.last == b.c.last) = false := beq_eq_false_iff_ne.2 h3
  obtain rfl : q = false := hq.symm.trans (pD_no (fun h => h3 h.2.2.2.1))
  refine goF Tryz.func15 (closedL_cons (.agg (encFo_closed a)) (closedL_cons (.agg (encFo_closed b)) closedL_nil)) (fun w0 st0 => ?_)
  dsimp only [frOf]
  (repeat' (first | refine goA ?_ | refine cX c1 ?_ | refine cX c2 ?_ | refine goB ?_ | fail))
  exact awp_ret ⟨_, ResL.cons (ResA.tmp (.val _)) .nil, congrArg (fun b => AV.val (.bool b)) (by first | rfl | assumption | (symm; assumption))⟩
 have g3 : (a.c.last == b.c.last) = true := beq_iff_eq.2 h3
 by_cases h4 : a.c.on = b.c.on
 case neg =>
  have g4 : (a.c.on == b.c.on) = false := beq_eq_false_iff_ne.2 h4
  obtain rfl : q = false := hq.symm.trans (pD_no (fun h => h4 h.2.2.2.2.1))
  refine goF Tryz.func15 (closedL_cons (.agg (encFo_closed a)) (closedL_cons (.agg (encFo_closed b)) closedL_nil)) (fun w0 st0 => ?_)
  dsimp only [frOf]
  (repeat' (first | refine goA ?_ | refine cX c1 ?_ | refine cX c2 ?_ | refine goB ?_ | fail))
  exact awp_ret ⟨_, ResL.cons (ResA.tmp (.val _)) .nil, congrArg (fun b => AV.val (.bool b)) (by first | rfl | assumption | (symm; assumption))⟩
 have g4 : (a.c.on == b.c.on) = true := beq_iff_eq.2 h4
 by_cases h5 : a.c.fuel = b.c.fuel
 case neg =>
  have g5 : (a.c.fuel == b.c.fuel) = false := beq_eq_false_iff_ne.2 h5
  obtain rfl : q = false := hq.symm.trans (pD_no (fun h => h5 h.2.2.2.2.2))
  refine goF Tryz.func15 (closedL_cons (.agg (encFo_closed a)) (closedL_cons (.agg (encFo_closed b)) closedL_nil)) (fun w0 st0 => ?_)
  dsimp only [frOf]
  (repeat' (first | refine goA ?_ | refine cX c1 ?_ | refine cX c2 ?_ | refine goB ?_ | fail))
  exact awp_ret ⟨_, ResL.cons (ResA.tmp (.val _)) .nil, congrArg (fun b => AV.val (.bool b)) (by first | rfl | assumption | (symm; assumption))⟩
 have g5 : (a.c.fuel == b.c.fuel) = true := beq_iff_eq.2 h5
 obtain rfl : q = true := hq.symm.trans (pD_yes ⟨h0, h1, h2, h3, h4, h5⟩)
 refine goF Tryz.func15 (closedL_cons (.agg (encFo_closed a)) (closedL_cons (.agg (encFo_closed b)) closedL_nil)) (fun w0 st0 => ?_)
 dsimp only [frOf]
 (repeat' (first | refine goA ?_ | refine cX c1 ?_ | refine cX c2 ?_ | refine goB ?_ | fail))
 exact awp_ret ⟨_, ResL.cons (ResA.tmp (.val _)) .nil, congrArg (fun b => AV.val (.bool b)) (by first | rfl | assumption | (symm; assumption))⟩
theorem fewF_c (f : Fo) : FnC Tryz.prog 11 [.agg (encFo f)] (.val (.bool (pD (FewF f)))) := by
 have c1 := few_c f.v
 have c2 := ref_cfew_c f.c.cf
 by_cases h1 : FewV f.v
 case neg =>
  rw [pD_no h1] at c1
  rw [pD_no (fun h => h1 h.1)]
  refine goF Tryz.func11 (closedL_cons (.agg (encFo_closed f)) closedL_nil) (fun w0 st0 => ?_)
  dsimp only [frOf]
  (repeat' (first | refine goA ?_ | refine cX c1 ?_ | refine cX c2 ?_ | refine goB ?_ | fail))
  exact awp_ret ⟨_, ResL.cons (ResA.tmp (.val _)) .nil, rfl⟩
 rw [pD_yes h1] at c1
 rw [show pD (FewF f) = pD (FewC f.c.cf) from pD_congr ⟨fun h => h.2, fun h => ⟨h1, h⟩⟩]
 refine goF Tryz.func11 (closedL_cons (.agg (encFo_closed f)) closedL_nil) (fun w0 st0 => ?_)
 dsimp only [frOf]
 (repeat' (first | refine goA ?_ | refine cX c1 ?_ | refine cX c2 ?_ | refine goB ?_ | fail))
 exact awp_ret ⟨_, ResL.cons (ResA.tmp (.val _)) .nil, rfl⟩
theorem mayF_c (f : Fo) (hi : FlIn f.v.dict) : FnC Tryz.prog 16 [.agg (encFo f)] (.val (.bool (pD (FewF f ∧ RightF f)))) := by
 have c1 := fewF_c f
 by_cases h1 : FewF f
 case neg =>
  rw [pD_no h1] at c1
  rw [pD_no (fun h => h1 h.1)]
  refine goF Tryz.func16 (closedL_cons (.agg (encFo_closed f)) closedL_nil) (fun w0 st0 => ?_)
  dsimp only [frOf]
  (repeat' (first | refine goA ?_ | refine cX c1 ?_ | refine goB ?_ | fail))
  exact awp_ret ⟨_, ResL.cons (ResA.tmp (.val _)) .nil, rfl⟩
 rw [pD_yes h1] at c1
 have c2 := ref_rightF_c f (h1.1.held hi) (by have := h1.2.2; omega)
 rw [show pD (FewF f ∧ RightF f) = pD (RightF f) from pD_congr ⟨fun h => h.2, fun h => ⟨h1, h⟩⟩]
 refine goF Tryz.func16 (closedL_cons (.agg (encFo_closed f)) closedL_nil) (fun w0 st0 => ?_)
 dsimp only [frOf]
 (repeat' (first | refine goA ?_ | refine cX c1 ?_ | refine cX c2 ?_ | refine goB ?_ | fail))
 exact awp_ret ⟨_, ResL.cons (ResA.tmp (.val _)) .nil, rfl⟩
end Go.Proofs.YthlbcakjngcjbaaGreat
namespace Go.Proofs.YthlbcakjngcjbaaGreat
open Go Go.RowKit
open Go.Proofs.YthlbcakjngcjbaaGreat.Dict (St Bs bs_eq Wd encW encWs closed_ws)
open Go.Proofs.YthlbcakjngcjbaaGreat.Mem (Mm encM encBs closed_bs encP encP_closed closed_m storeD fetchD)
open Go.Proofs.YthlbcakjngcjbaaGreat.Stk (encS closed_s encI_closed)
set_option maxRecDepth 100000
structure Rk where
 v : V
 ip : Int
 w : Int
 go : Bool
 over : Bool
 bad : Int
structure Rn where
 v : V
 ip : Int
 w : Int
 go : Bool
 fuel : Int
def encRk (k : Rk) : List AV := [.val (.int .i64 k.v.cf.mem), .val (.int .i64 k.v.cf.data), .val (.int .i64 k.v.cf.ret), .val (.int .i64 k.v.cf.words), .val (.int .i64 k.v.cf.out), encBs k.v.m.b, .sl 2 false (k.v.m.old.map encP), .val (.int .i64 k.v.here), encS k.v.d, encS k.v.r, encLFr k.v.f, encWs k.v.dict, .val (.int .i64 k.v.last), encBs k.v.out, encBs k.v.pb, .val (.bool k.v.po), encLRq k.v.req, .val (.int .i64 k.v.free), .val (.int .i64 k.v.next), .val (.int .i64 k.v.arg), .val (.int .i64 k.v.self), .val (.int .i64 k.v.now), encLHn k.v.hand, .val (.int .i64 k.ip), .val (.int .i64 k.w), .val (.bool k.go), .val (.bool k.over), .val (.int .i64 k.bad)]
theorem encRk_closed (k : Rk) : ∀ x, x ∈ encRk k → Closed x := closedL_cons (.val _) (closedL_cons (.val _) (closedL_cons (.val _) (closedL_cons (.val _) (closedL_cons (.val _) (closedL_cons (closed_bs _) (closedL_cons (closed_map encP_closed) (closedL_cons (.val _) (closedL_cons (closed_s _) (closedL_cons (closed_s _) (closedL_cons (closedFr _) (closedL_cons (closed_ws _) (closedL_cons (.val _) (closedL_cons (closed_bs _) (closedL_cons (closed_bs _) (closedL_cons (.val _) (closedL_cons (closedRq _) (closedL_cons (.val _) (closedL_cons (.val _) (closedL_cons (.val _) (closedL_cons (.val _) (closedL_cons (.val _) (closedL_cons (closedHn _) (closedL_cons (.val _) (closedL_cons (.val _) (closedL_cons (.val _) (closedL_cons (.val _) (closedL_cons (.val _) closedL_nil)))))))))))))))))))))))))))
def encRn (k : Rn) : List AV := [.val (.int .i64 k.v.cf.mem), .val (.int .i64 k.v.cf.data), .val (.int .i64 k.v.cf.ret), .val (.int .i64 k.v.cf.words), .val (.int .i64 k.v.cf.out), encBs k.v.m.b, .sl 2 false (k.v.m.old.map encP), .val (.int .i64 k.v.here), encS k.v.d, encS k.v.r, encLFr k.v.f, encWs k.v.dict, .val (.int .i64 k.v.last), encBs k.v.out, encBs k.v.pb, .val (.bool k.v.po), encLRq k.v.req, .val (.int .i64 k.v.free), .val (.int .i64 k.v.next), .val (.int .i64 k.v.arg), .val (.int .i64 k.v.self), .val (.int .i64 k.v.now), encLHn k.v.hand, .val (.int .i64 k.ip), .val (.int .i64 k.w), .val (.bool k.go), .val (.int .i64 k.fuel)]
theorem encRn_closed (k : Rn) : ∀ x, x ∈ encRn k → Closed x := closedL_cons (.val _) (closedL_cons (.val _) (closedL_cons (.val _) (closedL_cons (.val _) (closedL_cons (.val _) (closedL_cons (closed_bs _) (closedL_cons (closed_map encP_closed) (closedL_cons (.val _) (closedL_cons (closed_s _) (closedL_cons (closed_s _) (closedL_cons (closedFr _) (closedL_cons (closed_ws _) (closedL_cons (.val _) (closedL_cons (closed_bs _) (closedL_cons (closed_bs _) (closedL_cons (.val _) (closedL_cons (closedRq _) (closedL_cons (.val _) (closedL_cons (.val _) (closedL_cons (.val _) (closedL_cons (.val _) (closedL_cons (.val _) (closedL_cons (closedHn _) (closedL_cons (.val _) (closedL_cons (.val _) (closedL_cons (.val _) (closedL_cons (.val _) closedL_nil))))))))))))))))))))))))))
def encRS (r : Rn × Bool × Int) : AV := .tup [.agg (encRn r.1), .val (.bool r.2.1), .val (.int .i64 r.2.2)]
attribute [local irreducible] Decidable.decide awp ARun regK toK
theorem z0 : ((0 : Int) == 0) = true := by simp
theorem fail0_l (v : V) (ip w : Int) (go over : Bool) : FnL Tryz.prog 149 [.ptr 1000 0 0 0, .val (.int .i64 0)] [(28, [encRk ⟨v, ip, w, go, over, 0⟩])] (.tup []) [[encRk ⟨v, ip, w, go, over, 0⟩]] := by
 have d := z0
 refine FnL.of_awp (T := tt) (ok := tok) Tryz.func149 (by kernel_rfl) rfl (by kernel_rfl) (by kernel_rfl) (fun w0 st0 lent c0 => ?_)
 dsimp only [frOf, hpFrom, List.length_cons, List.length_nil]
 (repeat' (first | refine goA ?_ | refine ARun.nilCheckP rfl rfl (guardF_spec rfl) ?_ | refine goB ?_ | fail))
 (first | exact ⟨_, ResL.nil, rfl, ⟨_, rfl, RlR.closed (one_cl (encRk_closed ⟨v, ip, w, go, over, 0⟩))⟩, trivial⟩ | exact awp_ret ⟨_, ResL.nil, rfl, ⟨_, rfl, RlR.closed (one_cl (encRk_closed ⟨v, ip, w, go, over, 0⟩))⟩, trivial⟩ | (refine awp_skip ?_; exact ⟨_, ResL.nil, rfl, ⟨_, rfl, RlR.closed (one_cl (encRk_closed ⟨v, ip, w, go, over, 0⟩))⟩, trivial⟩))
theorem rget_l (v : V) (ip w : Int) (go over : Bool) (a n : Int) (hb : v.m.b.length ≤ 1000000) (h : fetchD v.m a = (n, 0)) : FnL Tryz.prog 127 [.ptr 1000 0 0 0, .val (.int .i64 a)] [(28, [encRk ⟨v, ip, w, go, over, 0⟩])] (.val (.int .i64 n)) [[encRk ⟨v, ip, w, go, over, 0⟩]] := by
 have c1 := Mem.ref_fetch_c v.m a hb
 rw [h] at c1
 have c2 := fail0_l v ip w go over
 refine FnL.of_awp (T := tt) (ok := tok) Tryz.func127 (by kernel_rfl) rfl (by kernel_rfl) (by kernel_rfl) (fun w0 st0 lent c0 => ?_)
 dsimp only [frOf, hpFrom, List.length_cons, List.length_nil]
 (repeat' (first | refine goA ?_ | refine ARun.nilCheckP rfl rfl (guardF_spec rfl) ?_ | refine cX c1 ?_ | refine callK 1000 0 28 (encRk ⟨v, ip, w, go, over, 0⟩) (encRk ⟨v, ip, w, go, over, 0⟩) (c2) (encRk_closed _) (encRk_closed _) (RelL.cons (.ptr (j := 0) 0 0 rfl) (RelL.cons (.wk (.same _) (.val _)) (RelL.nil _))) smT ?_ | refine goB ?_ | fail))
 (first | exact ⟨_, ResL.cons (ResA.tmp (.val _)) .nil, rfl, ⟨_, rfl, RlR.closed (one_cl (encRk_closed ⟨v, ip, w, go, over, 0⟩))⟩, trivial⟩ | exact awp_ret ⟨_, ResL.cons (ResA.tmp (.val _)) .nil, rfl, ⟨_, rfl, RlR.closed (one_cl (encRk_closed ⟨v, ip, w, go, over, 0⟩))⟩, trivial⟩)
theorem rpushS_l (v v' : V) (ip w : Int) (go over : Bool) (n : Int) (hd : v.d.length ≤ 1000000) (h : vpushD v n = (v', 0)) : FnL Tryz.prog 152 [.ptr 1000 0 0 0, .val (.int .i64 n)] [(28, [encRk ⟨v, ip, w, go, over, 0⟩])] (.tup []) [[encRk ⟨v', ip, w, go, over, 0⟩]] := by
 have c1 := ref_push_c v n hd
 rw [h] at c1
 unfold encVE at c1
 have c2 := fail0_l v ip w go over
 refine FnL.of_awp (T := tt) (ok := tok) Tryz.func152 (by kernel_rfl) rfl (by kernel_rfl) (by kernel_rfl) (fun w0 st0 lent c0 => ?_)
 dsimp only [frOf, hpFrom, List.length_cons, List.length_nil]
 (repeat' (first | refine goA ?_ | refine ARun.nilCheckP rfl rfl (guardF_spec rfl) ?_ | refine cX c1 ?_ | refine callK 1000 0 28 (encRk ⟨v, ip, w, go, over, 0⟩) (encRk ⟨v, ip, w, go, over, 0⟩) (c2) (encRk_closed _) (encRk_closed _) (RelL.cons (.ptr (j := 0) 0 0 rfl) (RelL.cons (.wk (.same _) (.val _)) (RelL.nil _))) smT ?_ | refine goB ?_ | fail))
 exact ⟨_, ResL.nil, rfl, ⟨_, rfl, RlR.closed (one_cl (encRk_closed ⟨v', ip, w, go, over, 0⟩))⟩, trivial⟩
theorem rrpush_l (v v' : V) (ip w : Int) (go over : Bool) (n : Int) (hd : v.r.length ≤ 1000000) (h : rpushD v n = (v', 0)) : FnL Tryz.prog 151 [.ptr 1000 0 0 0, .val (.int .i64 n)] [(28, [encRk ⟨v, ip, w, go, over, 0⟩])] (.tup []) [[encRk ⟨v', ip, w, go, over, 0⟩]] := by
 have c1 := ref_rpush_c v n hd
 rw [h] at c1
 unfold encVE at c1
 have c2 := fail0_l v ip w go over
 refine FnL.of_awp (T := tt) (ok := tok) Tryz.func151 (by kernel_rfl) rfl (by kernel_rfl) (by kernel_rfl) (fun w0 st0 lent c0 => ?_)
 dsimp only [frOf, hpFrom, List.length_cons, List.length_nil]
 (repeat' (first | refine goA ?_ | refine ARun.nilCheckP rfl rfl (guardF_spec rfl) ?_ | refine cX c1 ?_ | refine callK 1000 0 28 (encRk ⟨v, ip, w, go, over, 0⟩) (encRk ⟨v, ip, w, go, over, 0⟩) (c2) (encRk_closed _) (encRk_closed _) (RelL.cons (.ptr (j := 0) 0 0 rfl) (RelL.cons (.wk (.same _) (.val _)) (RelL.nil _))) smT ?_ | refine goB ?_ | fail))
 exact ⟨_, ResL.nil, rfl, ⟨_, rfl, RlR.closed (one_cl (encRk_closed ⟨v', ip, w, go, over, 0⟩))⟩, trivial⟩
theorem rrpop_l (v v' : V) (ip w : Int) (go over : Bool) (n : Int) (hd : v.r.length ≤ 1000000) (h : rpopD v = (n, v', 0)) : FnL Tryz.prog 174 [.ptr 1000 0 0 0] [(28, [encRk ⟨v, ip, w, go, over, 0⟩])] (.val (.int .i64 n)) [[encRk ⟨v', ip, w, go, over, 0⟩]] := by
 have c1 := ref_rpop_c v hd
 rw [h] at c1
 unfold encIVE at c1
 have c2 := fail0_l v ip w go over
 refine FnL.of_awp (T := tt) (ok := tok) Tryz.func174 (by kernel_rfl) rfl (by kernel_rfl) (by kernel_rfl) (fun w0 st0 lent c0 => ?_)
 dsimp only [frOf, hpFrom, List.length_cons, List.length_nil]
 (repeat' (first | refine goA ?_ | refine ARun.nilCheckP rfl rfl (guardF_spec rfl) ?_ | refine cX c1 ?_ | refine callK 1000 0 28 (encRk ⟨v, ip, w, go, over, 0⟩) (encRk ⟨v, ip, w, go, over, 0⟩) (c2) (encRk_closed _) (encRk_closed _) (RelL.cons (.ptr (j := 0) 0 0 rfl) (RelL.cons (.wk (.same _) (.val _)) (RelL.nil _))) smT ?_ | refine goB ?_ | fail))
 first
  | exact ⟨_, ResL.cons (ResA.tmp (.val _)) .nil, rfl, ⟨_, rfl, RlR.closed (one_cl (encRk_closed ⟨v', ip, w, go, over, 0⟩))⟩, trivial⟩
  | exact awp_ret ⟨_, ResL.cons (ResA.tmp (.val _)) .nil, rfl, ⟨_, rfl, RlR.closed (one_cl (encRk_closed ⟨v', ip, w, go, over, 0⟩))⟩, trivial⟩
theorem rmach_l (v : V) (ip w : Int) (go over : Bool) (xt n : Int) (hx : 0 ≤ xt ∧ xt ≤ 1000000) (hb : v.m.b.length ≤ 1000000) (h1 : fetchD v.m (xt + 16) = (0, 0)) (h2 : fetchD v.m (xt + 24) = (n, 0)) (h3 : fetchD v.m (xt + 32) = (0, 0)) (hn : 0 < n) : FnL Tryz.prog 153 [.ptr 1000 0 0 0, .val (.int .i64 xt)] [(28, [encRk ⟨v, ip, w, go, over, 0⟩])] (.tup []) [[encRk ⟨v, ip, w, go, over, 0⟩]] := by
 have c1 := rget_l v ip w go over (xt + 16) 0 hb h1
 have c2 := rget_l v ip w go over (xt + 24) n hb h2
 have c3 := rget_l v ip w go over (xt + 32 + 8 * 0) 0 hb (by rw [show xt + 32 + 8 * 0 = xt + 32 by omega]; exact h3)
 have d1 : decide ((0 : Int) < 0) = false := decide_eq_false (by omega)
 have d2 : decide (n ≤ 0) = false := decide_eq_false (by omega)
 have d3 : ((0 : Int) != 0) = false := by simp
 refine FnL.of_awp (T := tt) (ok := tok) Tryz.func153 (by kernel_rfl) rfl (by kernel_rfl) (by kernel_rfl) (fun w0 st0 lent c0 => ?_)
 dsimp only [frOf, hpFrom, List.length_cons, List.length_nil]
 (repeat' (first | refine goA ?_ | refine ARun.nilCheckP rfl rfl (guardF_spec rfl) ?_ | refine callK 1000 0 28 (encRk ⟨v, ip, w, go, over, 0⟩) (encRk ⟨v, ip, w, go, over, 0⟩) (c1) (encRk_closed _) (encRk_closed _) (RelL.cons (.ptr (j := 0) 0 0 rfl) (RelL.cons (.wk (.same _) (.val _)) (RelL.nil _))) smT ?_ | refine callK 1000 0 28 (encRk ⟨v, ip, w, go, over, 0⟩) (encRk ⟨v, ip, w, go, over, 0⟩) (c2) (encRk_closed _) (encRk_closed _) (RelL.cons (.ptr (j := 0) 0 0 rfl) (RelL.cons (.wk (.same _) (.val _)) (RelL.nil _))) smT ?_ | refine callK 1000 0 28 (encRk ⟨v, ip, w, go, over, 0⟩) (encRk ⟨v, ip, w, go, over, 0⟩) (c3) (encRk_closed _) (encRk_closed _) (RelL.cons (.ptr (j := 0) 0 0 rfl) (RelL.cons (.wk (.same _) (.val _)) (RelL.nil _))) smT ?_ | refine goB ?_ | fail))
 (first | exact ⟨_, ResL.nil, rfl, ⟨_, rfl, RlR.closed (one_cl (encRk_closed ⟨v, ip, w, go, over, 0⟩))⟩, trivial⟩ | exact awp_ret ⟨_, ResL.nil, rfl, ⟨_, rfl, RlR.closed (one_cl (encRk_closed ⟨v, ip, w, go, over, 0⟩))⟩, trivial⟩ | (refine awp_skip ?_; exact ⟨_, ResL.nil, rfl, ⟨_, rfl, RlR.closed (one_cl (encRk_closed ⟨v, ip, w, go, over, 0⟩))⟩, trivial⟩))
end Go.Proofs.YthlbcakjngcjbaaGreat
namespace Go.Proofs.YthlbcakjngcjbaaGreat
open Go Go.RowKit
open Go.Proofs.YthlbcakjngcjbaaGreat.Dict (St Bs bs_eq Wd encW encWs closed_ws)
open Go.Proofs.YthlbcakjngcjbaaGreat.Mem (Mm encM encBs closed_bs encP encP_closed closed_m storeD fetchD)
open Go.Proofs.YthlbcakjngcjbaaGreat.Stk (encS closed_s encI_closed)
set_option maxRecDepth 100000
theorem q_ex0 : ((ByteArray.mk #[40, 101, 120, 105, 116, 41]).toList == (ByteArray.mk #[40, 101, 120, 105, 116, 41]).toList) = true := by rw [bs_eq [40, 101, 120, 105, 116, 41] [40, 101, 120, 105, 116, 41]]; exact decide_eq_true rfl
theorem q_ha0 : ((ByteArray.mk #[40, 104, 97, 108, 116, 41]).toList == (ByteArray.mk #[40, 101, 120, 105, 116, 41]).toList) = false := by rw [bs_eq [40, 104, 97, 108, 116, 41] [40, 101, 120, 105, 116, 41]]; exact decide_eq_false (by decide)
theorem q_ha1 : ((ByteArray.mk #[40, 104, 97, 108, 116, 41]).toList == (ByteArray.mk #[40, 108, 105, 116, 41]).toList) = false := by rw [bs_eq [40, 104, 97, 108, 116, 41] [40, 108, 105, 116, 41]]; exact decide_eq_false (by decide)
theorem q_ha2 : ((ByteArray.mk #[40, 104, 97, 108, 116, 41]).toList == (ByteArray.mk #[40, 98, 114, 97, 110, 99, 104, 41]).toList) = false := by rw [bs_eq [40, 104, 97, 108, 116, 41] [40, 98, 114, 97, 110, 99, 104, 41]]; exact decide_eq_false (by decide)
theorem q_ha3 : ((ByteArray.mk #[40, 104, 97, 108, 116, 41]).toList == (ByteArray.mk #[40, 48, 98, 114, 97, 110, 99, 104, 41]).toList) = false := by rw [bs_eq [40, 104, 97, 108, 116, 41] [40, 48, 98, 114, 97, 110, 99, 104, 41]]; exact decide_eq_false (by decide)
theorem q_ha4 : ((ByteArray.mk #[40, 104, 97, 108, 116, 41]).toList == (ByteArray.mk #[40, 100, 111, 41]).toList) = false := by rw [bs_eq [40, 104, 97, 108, 116, 41] [40, 100, 111, 41]]; exact decide_eq_false (by decide)
theorem q_ha5 : ((ByteArray.mk #[40, 104, 97, 108, 116, 41]).toList == (ByteArray.mk #[40, 63, 100, 111, 41]).toList) = false := by rw [bs_eq [40, 104, 97, 108, 116, 41] [40, 63, 100, 111, 41]]; exact decide_eq_false (by decide)
theorem q_ha6 : ((ByteArray.mk #[40, 104, 97, 108, 116, 41]).toList == (ByteArray.mk #[40, 108, 111, 111, 112, 41]).toList) = false := by rw [bs_eq [40, 104, 97, 108, 116, 41] [40, 108, 111, 111, 112, 41]]; exact decide_eq_false (by decide)
theorem q_ha7 : ((ByteArray.mk #[40, 104, 97, 108, 116, 41]).toList == (ByteArray.mk #[40, 43, 108, 111, 111, 112, 41]).toList) = false := by rw [bs_eq [40, 104, 97, 108, 116, 41] [40, 43, 108, 111, 111, 112, 41]]; exact decide_eq_false (by decide)
theorem q_ha8 : ((ByteArray.mk #[40, 104, 97, 108, 116, 41]).toList == (ByteArray.mk #[40, 104, 97, 108, 116, 41]).toList) = true := by rw [bs_eq [40, 104, 97, 108, 116, 41] [40, 104, 97, 108, 116, 41]]; exact decide_eq_true rfl
attribute [local irreducible] Decidable.decide awp ARun regK toK
set_option maxHeartbeats 4000000 in
theorem code_exit (v v' : V) (ip w : Int) (go over : Bool) (n : Int) (hd : v.r.length ≤ 1000000) (h : rpopD v = (n, v', 0)) : FnL Tryz.prog 155 [.ptr 1000 0 0 0, St [40, 101, 120, 105, 116, 41]] [(28, [encRk ⟨v, ip, w, go, over, 0⟩])] (.val (.bool true)) [[encRk ⟨v', n, w, go, over, 0⟩]] := by
 have c1 := rrpop_l v v' ip w go over n hd h
 have n0 := q_ex0
 refine FnL.of_awp (T := tt) (ok := tok) Tryz.func155 (by kernel_rfl) rfl (by kernel_rfl) (by kernel_rfl) (fun w0 st0 lent c0 => ?_)
 dsimp only [frOf, hpFrom, List.length_cons, List.length_nil]
 (repeat' (first | refine goA ?_ | refine ARun.nilCheckP rfl rfl (guardF_spec rfl) ?_ | refine callK 1000 0 28 (encRk ⟨v, ip, w, go, over, 0⟩) (encRk ⟨v', ip, w, go, over, 0⟩) (c1) (encRk_closed _) (encRk_closed _) (RelL.cons (.ptr (j := 0) 0 0 rfl) (RelL.nil _)) smT ?_ | refine goB ?_ | fail))
 first
  | exact ⟨_, ResL.cons (ResA.tmp (.val _)) .nil, rfl, ⟨_, rfl, RlR.closed (one_cl (encRk_closed ⟨v', n, w, go, over, 0⟩))⟩, trivial⟩
  | exact awp_ret ⟨_, ResL.cons (ResA.tmp (.val _)) .nil, rfl, ⟨_, rfl, RlR.closed (one_cl (encRk_closed ⟨v', n, w, go, over, 0⟩))⟩, trivial⟩
set_option maxHeartbeats 4000000 in
theorem code_halt (v : V) (ip w : Int) (go over : Bool) : FnL Tryz.prog 155 [.ptr 1000 0 0 0, St [40, 104, 97, 108, 116, 41]] [(28, [encRk ⟨v, ip, w, go, over, 0⟩])] (.val (.bool true)) [[encRk ⟨v, ip, w, go, true, 0⟩]] := by
 have n0 := q_ha0
 have n1 := q_ha1
 have n2 := q_ha2
 have n3 := q_ha3
 have n4 := q_ha4
 have n5 := q_ha5
 have n6 := q_ha6
 have n7 := q_ha7
 have n8 := q_ha8
 refine FnL.of_awp (T := tt) (ok := tok) Tryz.func155 (by kernel_rfl) rfl (by kernel_rfl) (by kernel_rfl) (fun w0 st0 lent c0 => ?_)
 dsimp only [frOf, hpFrom, List.length_cons, List.length_nil]
 (repeat' (first | refine goA ?_ | refine ARun.nilCheckP rfl rfl (guardF_spec rfl) ?_ | refine goB ?_ | fail))
 first
  | exact ⟨_, ResL.cons (ResA.tmp (.val _)) .nil, rfl, ⟨_, rfl, RlR.closed (one_cl (encRk_closed ⟨v, ip, w, go, true, 0⟩))⟩, trivial⟩
  | exact awp_ret ⟨_, ResL.cons (ResA.tmp (.val _)) .nil, rfl, ⟨_, rfl, RlR.closed (one_cl (encRk_closed ⟨v, ip, w, go, true, 0⟩))⟩, trivial⟩
set_option maxHeartbeats 4000000 in
theorem done_col (v v' : V) (ip w : Int) (go over : Bool) (xt : Int) (hx : 0 ≤ xt ∧ xt ≤ 1000000) (hb : v.m.b.length ≤ 1000000) (hk : kindD v xt = (256, 0)) (hd : v.r.length ≤ 1000000) (h : rpushD v ip = (v', 0)) : FnL Tryz.prog 128 [.ptr 1000 0 0 0, .val (.int .i64 xt)] [(28, [encRk ⟨v, ip, w, go, over, 0⟩])] (.tup []) [[encRk ⟨v', xt + 8, w, go, over, 0⟩]] := by
 have c1 := ref_kind_c v xt hb
 rw [hk] at c1
 have z1 : ((0 : Int) != 0) = false := by simp
 have k300 : decide ((300 : Int) ≤ 256) = false := decide_eq_false (by omega)
 have k256 : ((256 : Int) == 256) = true := by simp
 have c2 := rrpush_l v v' ip w go over ip hd h
 refine FnL.of_awp (T := tt) (ok := tok) Tryz.func128 (by kernel_rfl) rfl (by kernel_rfl) (by kernel_rfl) (fun w0 st0 lent c0 => ?_)
 dsimp only [frOf, hpFrom, List.length_cons, List.length_nil]
 (repeat' (first | refine goA ?_ | refine ARun.nilCheckP rfl rfl (guardF_spec rfl) ?_ | refine cX c1 ?_ | refine callK 1000 0 28 (encRk ⟨v, ip, w, go, over, 0⟩) (encRk ⟨v', ip, w, go, over, 0⟩) (c2) (encRk_closed _) (encRk_closed _) (RelL.cons (.ptr (j := 0) 0 0 rfl) (RelL.cons (.wk (.same _) (.val _)) (RelL.nil _))) smT ?_ | refine goB ?_ | fail))
 first
  | exact ⟨_, ResL.nil, rfl, ⟨_, rfl, RlR.closed (one_cl (encRk_closed ⟨v', xt + 8, w, go, over, 0⟩))⟩, trivial⟩
  | exact awp_ret ⟨_, ResL.nil, rfl, ⟨_, rfl, RlR.closed (one_cl (encRk_closed ⟨v', xt + 8, w, go, over, 0⟩))⟩, trivial⟩
  | (refine awp_skip ?_; exact ⟨_, ResL.nil, rfl, ⟨_, rfl, RlR.closed (one_cl (encRk_closed ⟨v', xt + 8, w, go, over, 0⟩))⟩, trivial⟩)
set_option maxHeartbeats 4000000 in
theorem done_var (v v' : V) (ip w : Int) (go over : Bool) (xt : Int) (hx : 0 ≤ xt ∧ xt ≤ 1000000) (hb : v.m.b.length ≤ 1000000) (hk : kindD v xt = (257, 0)) (hd : v.d.length ≤ 1000000) (h : vpushD v (xt + 16) = (v', 0)) : FnL Tryz.prog 128 [.ptr 1000 0 0 0, .val (.int .i64 xt)] [(28, [encRk ⟨v, ip, w, go, over, 0⟩])] (.tup []) [[encRk ⟨v', ip, w, go, over, 0⟩]] := by
 have c1 := ref_kind_c v xt hb
 rw [hk] at c1
 have z1 : ((0 : Int) != 0) = false := by simp
 have k300 : decide ((300 : Int) ≤ 257) = false := decide_eq_false (by omega)
 have k256 : ((257 : Int) == 256) = false := by simp
 have k257 : ((257 : Int) == 257) = true := by simp
 have c2 := rpushS_l v v' ip w go over (xt + 16) hd h
 refine FnL.of_awp (T := tt) (ok := tok) Tryz.func128 (by kernel_rfl) rfl (by kernel_rfl) (by kernel_rfl) (fun w0 st0 lent c0 => ?_)
 dsimp only [frOf, hpFrom, List.length_cons, List.length_nil]
 (repeat' (first | refine goA ?_ | refine ARun.nilCheckP rfl rfl (guardF_spec rfl) ?_ | refine cX c1 ?_ | refine callK 1000 0 28 (encRk ⟨v, ip, w, go, over, 0⟩) (encRk ⟨v', ip, w, go, over, 0⟩) (c2) (encRk_closed _) (encRk_closed _) (RelL.cons (.ptr (j := 0) 0 0 rfl) (RelL.cons (.wk (.same _) (.val _)) (RelL.nil _))) smT ?_ | refine goB ?_ | fail))
 first
  | exact ⟨_, ResL.nil, rfl, ⟨_, rfl, RlR.closed (one_cl (encRk_closed ⟨v', ip, w, go, over, 0⟩))⟩, trivial⟩
  | exact awp_ret ⟨_, ResL.nil, rfl, ⟨_, rfl, RlR.closed (one_cl (encRk_closed ⟨v', ip, w, go, over, 0⟩))⟩, trivial⟩
  | (refine awp_skip ?_; exact ⟨_, ResL.nil, rfl, ⟨_, rfl, RlR.closed (one_cl (encRk_closed ⟨v', ip, w, go, over, 0⟩))⟩, trivial⟩)
set_option maxHeartbeats 4000000 in
theorem done_con (v v' : V) (n : Int) (ip w : Int) (go over : Bool) (xt : Int) (hx : 0 ≤ xt ∧ xt ≤ 1000000) (hb : v.m.b.length ≤ 1000000) (hk : kindD v xt = (258, 0)) (hd : v.d.length ≤ 1000000) (h1 : fetchD v.m (xt + 16) = (n, 0)) (h : vpushD v n = (v', 0)) : FnL Tryz.prog 128 [.ptr 1000 0 0 0, .val (.int .i64 xt)] [(28, [encRk ⟨v, ip, w, go, over, 0⟩])] (.tup []) [[encRk ⟨v', ip, w, go, over, 0⟩]] := by
 have c1 := ref_kind_c v xt hb
 rw [hk] at c1
 have z1 : ((0 : Int) != 0) = false := by simp
 have k300 : decide ((300 : Int) ≤ 258) = false := decide_eq_false (by omega)
 have k256 : ((258 : Int) == 256) = false := by simp
 have k257 : ((258 : Int) == 257) = false := by simp
 have k258 : ((258 : Int) == 258) = true := by simp
 have c2 := rpushS_l v v' ip w go over n hd h
 have c3 := rget_l v ip w go over (xt + 16) n hb h1
 refine FnL.of_awp (T := tt) (ok := tok) Tryz.func128 (by kernel_rfl) rfl (by kernel_rfl) (by kernel_rfl) (fun w0 st0 lent c0 => ?_)
 dsimp only [frOf, hpFrom, List.length_cons, List.length_nil]
 (repeat' (first | refine goA ?_ | refine ARun.nilCheckP rfl rfl (guardF_spec rfl) ?_ | refine cX c1 ?_ | refine callK 1000 0 28 (encRk ⟨v, ip, w, go, over, 0⟩) (encRk ⟨v, ip, w, go, over, 0⟩) (c3) (encRk_closed _) (encRk_closed _) (RelL.cons (.ptr (j := 0) 0 0 rfl) (RelL.cons (.wk (.same _) (.val _)) (RelL.nil _))) smT ?_ | refine callK 1000 0 28 (encRk ⟨v, ip, w, go, over, 0⟩) (encRk ⟨v', ip, w, go, over, 0⟩) (c2) (encRk_closed _) (encRk_closed _) (RelL.cons (.ptr (j := 0) 0 0 rfl) (RelL.cons (.wk (.same _) (.val _)) (RelL.nil _))) smT ?_ | refine goB ?_ | fail))
 first
  | exact ⟨_, ResL.nil, rfl, ⟨_, rfl, RlR.closed (one_cl (encRk_closed ⟨v', ip, w, go, over, 0⟩))⟩, trivial⟩
  | exact awp_ret ⟨_, ResL.nil, rfl, ⟨_, rfl, RlR.closed (one_cl (encRk_closed ⟨v', ip, w, go, over, 0⟩))⟩, trivial⟩
  | (refine awp_skip ?_; exact ⟨_, ResL.nil, rfl, ⟨_, rfl, RlR.closed (one_cl (encRk_closed ⟨v', ip, w, go, over, 0⟩))⟩, trivial⟩)
set_option maxHeartbeats 4000000 in
theorem done_mach (v : V) (n : Int) (ip w : Int) (go over : Bool) (xt : Int) (hx : 0 ≤ xt ∧ xt ≤ 1000000) (hb : v.m.b.length ≤ 1000000) (hk : kindD v xt = (260, 0)) (h1 : fetchD v.m (xt + 16) = (0, 0)) (h2 : fetchD v.m (xt + 24) = (n, 0)) (h3 : fetchD v.m (xt + 32) = (0, 0)) (hn : 0 < n) : FnL Tryz.prog 128 [.ptr 1000 0 0 0, .val (.int .i64 xt)] [(28, [encRk ⟨v, ip, w, go, over, 0⟩])] (.tup []) [[encRk ⟨v, ip, w, go, over, 0⟩]] := by
 have c1 := ref_kind_c v xt hb
 rw [hk] at c1
 have z1 : ((0 : Int) != 0) = false := by simp
 have k300 : decide ((300 : Int) ≤ 260) = false := decide_eq_false (by omega)
 have k256 : ((260 : Int) == 256) = false := by simp
 have k257 : ((260 : Int) == 257) = false := by simp
 have k258 : ((260 : Int) == 258) = false := by simp
 have k259 : ((260 : Int) == 259) = false := by simp
 have k260 : ((260 : Int) == 260) = true := by simp
 have c2 := rmach_l v ip w go over xt n hx hb h1 h2 h3 hn
 refine FnL.of_awp (T := tt) (ok := tok) Tryz.func128 (by kernel_rfl) rfl (by kernel_rfl) (by kernel_rfl) (fun w0 st0 lent c0 => ?_)
 dsimp only [frOf, hpFrom, List.length_cons, List.length_nil]
 (repeat' (first | refine goA ?_ | refine ARun.nilCheckP rfl rfl (guardF_spec rfl) ?_ | refine cX c1 ?_ | refine callK 1000 0 28 (encRk ⟨v, ip, w, go, over, 0⟩) (encRk ⟨v, ip, w, go, over, 0⟩) (c2) (encRk_closed _) (encRk_closed _) (RelL.cons (.ptr (j := 0) 0 0 rfl) (RelL.cons (.wk (.same _) (.val _)) (RelL.nil _))) smT ?_ | refine goB ?_ | fail))
 first
  | exact ⟨_, ResL.nil, rfl, ⟨_, rfl, RlR.closed (one_cl (encRk_closed ⟨v, ip, w, go, over, 0⟩))⟩, trivial⟩
  | exact awp_ret ⟨_, ResL.nil, rfl, ⟨_, rfl, RlR.closed (one_cl (encRk_closed ⟨v, ip, w, go, over, 0⟩))⟩, trivial⟩
  | (refine awp_skip ?_; exact ⟨_, ResL.nil, rfl, ⟨_, rfl, RlR.closed (one_cl (encRk_closed ⟨v, ip, w, go, over, 0⟩))⟩, trivial⟩)
set_option maxHeartbeats 4000000 in
theorem done_prim (v v' : V) (k : Int) (hk1 : 23 ≤ k ∧ k < 256) (ip w : Int) (go over : Bool) (xt : Int) (hb : v.m.b.length ≤ 1000000) (hk : kindD v xt = (k, 0)) (cD : FnC Tryz.prog 154 [.agg (encV v), .val (.int .i64 k)] (encVE (v', 0))) : FnL Tryz.prog 128 [.ptr 1000 0 0 0, .val (.int .i64 xt)] [(28, [encRk ⟨v, ip, w, go, over, 0⟩])] (.tup []) [[encRk ⟨v', ip, w, go, over, 0⟩]] := by
 have c1 := ref_kind_c v xt hb
 rw [hk] at c1
 have c2 := fail0_l v ip w go over
 unfold encVE at cD
 have z1 : ((0 : Int) != 0) = false := by simp
 have k300 : decide ((300 : Int) ≤ k) = false := decide_eq_false (by omega)
 have k256 : (k == 256) = false := beq_eq_false_iff_ne.2 (by omega)
 have k257 : (k == 257) = false := beq_eq_false_iff_ne.2 (by omega)
 have k258 : (k == 258) = false := beq_eq_false_iff_ne.2 (by omega)
 have k259 : (k == 259) = false := beq_eq_false_iff_ne.2 (by omega)
 have k260 : (k == 260) = false := beq_eq_false_iff_ne.2 (by omega)
 have k23 : decide ((23 : Int) ≤ k) = true := decide_eq_true (by omega)
 refine FnL.of_awp (T := tt) (ok := tok) Tryz.func128 (by kernel_rfl) rfl (by kernel_rfl) (by kernel_rfl) (fun w0 st0 lent c0 => ?_)
 dsimp only [frOf, hpFrom, List.length_cons, List.length_nil]
 (repeat' (first | refine goA ?_ | refine ARun.nilCheckP rfl rfl (guardF_spec rfl) ?_ | refine cX c1 ?_ | refine cX cD ?_ | refine callK 1000 0 28 (encRk ⟨v, ip, w, go, over, 0⟩) (encRk ⟨v, ip, w, go, over, 0⟩) (c2) (encRk_closed _) (encRk_closed _) (RelL.cons (.ptr (j := 0) 0 0 rfl) (RelL.cons (.wk (.same _) (.val _)) (RelL.nil _))) smT ?_ | refine goB ?_ | fail))
 first
  | exact ⟨_, ResL.nil, rfl, ⟨_, rfl, RlR.closed (one_cl (encRk_closed ⟨v', ip, w, go, over, 0⟩))⟩, trivial⟩
  | exact awp_ret ⟨_, ResL.nil, rfl, ⟨_, rfl, RlR.closed (one_cl (encRk_closed ⟨v', ip, w, go, over, 0⟩))⟩, trivial⟩
  | (refine awp_skip ?_; exact ⟨_, ResL.nil, rfl, ⟨_, rfl, RlR.closed (one_cl (encRk_closed ⟨v', ip, w, go, over, 0⟩))⟩, trivial⟩)
set_option maxHeartbeats 4000000 in
theorem done_code (v : V) (w' : Rk) (k : Nat) (nm : Bs) (hk1 : k < 23) (hnm : nmsV[k]? = some nm) (ip w : Int) (go over : Bool) (xt : Int) (hb : v.m.b.length ≤ 1000000) (hk : kindD v xt = ((k : Int), 0)) (cC : FnL Tryz.prog 155 [.ptr 1000 0 0 0, St nm] [(28, [encRk ⟨v, ip, w, go, over, 0⟩])] (.val (.bool true)) [[encRk w']]) : FnL Tryz.prog 128 [.ptr 1000 0 0 0, .val (.int .i64 xt)] [(28, [encRk ⟨v, ip, w, go, over, 0⟩])] (.tup []) [[encRk w']] := by
 have c1 := ref_kind_c v xt hb
 rw [hk] at c1
 have cn := ref_names_c
 have hp : (nmsV.map encN)[((k : Nat) : Int).toNat]? = some (encN nm) := get_map hnm
 have z1 : ((0 : Int) != 0) = false := by simp
 have nt : (!true) = false := rfl
 have k300 : decide ((300 : Int) ≤ (k : Nat)) = false := decide_eq_false (by omega)
 have k256 : (((k : Nat) : Int) == 256) = false := beq_eq_false_iff_ne.2 (by omega)
 have k257 : (((k : Nat) : Int) == 257) = false := beq_eq_false_iff_ne.2 (by omega)
 have k258 : (((k : Nat) : Int) == 258) = false := beq_eq_false_iff_ne.2 (by omega)
 have k259 : (((k : Nat) : Int) == 259) = false := beq_eq_false_iff_ne.2 (by omega)
 have k260 : (((k : Nat) : Int) == 260) = false := beq_eq_false_iff_ne.2 (by omega)
 have k23 : decide ((23 : Int) ≤ (k : Nat)) = false := decide_eq_false (by omega)
 generalize nmsV.map encN = nn at *
 refine FnL.of_awp (T := tt) (ok := tok) Tryz.func128 (by kernel_rfl) rfl (by kernel_rfl) (by kernel_rfl) (fun w0 st0 lent c0 => ?_)
 dsimp only [frOf, hpFrom, List.length_cons, List.length_nil]
 (repeat' (first | refine goA ?_ | refine ARun.nilCheckP rfl rfl (guardF_spec rfl) ?_ | refine cX c1 ?_ | refine cX cn ?_ | refine ARun.indexAddr rfl rfl (by omega) (by with_reducible exact hp) rfl rfl rfl rfl rfl (guardF_spec rfl) ?_ | refine callK 1000 0 28 (encRk ⟨v, ip, w, go, over, 0⟩) (encRk w') (cC) (encRk_closed _) (encRk_closed _) (RelL.cons (.ptr (j := 0) 0 0 rfl) (RelL.cons (.wk (.same _) (.val _)) (RelL.nil _))) smT ?_ | refine goB ?_ | fail))
 first
  | exact ⟨_, ResL.nil, rfl, ⟨_, rfl, RlR.closed (one_cl (encRk_closed w'))⟩, trivial⟩
  | exact awp_ret ⟨_, ResL.nil, rfl, ⟨_, rfl, RlR.closed (one_cl (encRk_closed w'))⟩, trivial⟩
  | (refine awp_skip ?_; exact ⟨_, ResL.nil, rfl, ⟨_, rfl, RlR.closed (one_cl (encRk_closed w'))⟩, trivial⟩)
end Go.Proofs.YthlbcakjngcjbaaGreat
namespace Go.Proofs.YthlbcakjngcjbaaGreat
open Go Go.RowKit
open Go.Proofs.YthlbcakjngcjbaaGreat.Dict (St Bs bs_eq Wd encW encWs closed_ws)
open Go.Proofs.YthlbcakjngcjbaaGreat.Mem (Mm encM encBs closed_bs encP encP_closed closed_m storeD fetchD)
open Go.Proofs.YthlbcakjngcjbaaGreat.Stk (encS closed_s encI_closed)
set_option maxRecDepth 100000
def clrRF (v : V) : V := ⟨v.cf, v.m, v.here, v.d, [], [], v.dict, v.last, v.out, v.pb, v.po, v.req, v.free, v.next, v.arg, v.self, v.now, v.hand⟩
attribute [local irreducible] Decidable.decide awp ARun regK toK
set_option maxHeartbeats 4000000 in
theorem step_do (r : Rn) (w' : Rk) (hg : r.go = true) (hf : 1 ≤ r.fuel ∧ r.fuel ≤ 1000000) (hD : FnL Tryz.prog 128 [.ptr 1000 0 0 0, .val (.int .i64 r.w)] [(28, [encRk ⟨r.v, r.ip, 0, false, false, 0⟩])] (.tup []) [[encRk w']]) (hb : w'.bad = 0) :
  FnC Tryz.prog 80 [.agg (encRn r)] (encRS (⟨w'.v, w'.ip, w'.w, w'.go, r.fuel - 1⟩, w'.over, 0)) := by
 have d1 : decide (r.fuel < 1) = false := decide_eq_false (by omega)
 have d2 : (!r.go) = false := by rw [hg]; rfl
 have d3 := z0
 have d4 : (w'.bad == 0) = true := by simp [hb]
 unfold encRS
 refine goF Tryz.func80 (closedL_cons (.agg (encRn_closed r)) closedL_nil) (fun w0 st0 => ?_)
 dsimp only [frOf]
 (repeat' (first | refine goA ?_ | refine callK 5 12 28 (encRk ⟨r.v, r.ip, 0, false, false, 0⟩) (encRk w') (hD) (encRk_closed _) (encRk_closed _) (RelL.cons (.ptr (j := 0) 0 0 rfl) (RelL.cons (.wk (.same _) (.val _)) (RelL.nil _))) smT ?_ | refine goB ?_ | fail))
 exact awp_ret ⟨_, ResL.cons (ResA.agg rfl rfl rfl rfl rfl rfl rfl (RL.allClosed (encRn_closed ⟨w'.v, w'.ip, w'.w, w'.go, r.fuel - 1⟩))) (ResL.cons (ResA.tmp (.val _)) (ResL.cons (ResA.tmp (.val _)) .nil)), rfl⟩
set_option maxHeartbeats 4000000 in
theorem step_next (r : Rn) (w' : Rk) (xt : Int) (hg : r.go = false) (hf : 1 ≤ r.fuel ∧ r.fuel ≤ 1000000) (hi : 0 ≤ r.ip ∧ r.ip ≤ 1000000) (hm : r.v.m.b.length ≤ 1000000) (h1 : fetchD r.v.m r.ip = (xt, 0)) (hD : FnL Tryz.prog 128 [.ptr 1000 0 0 0, .val (.int .i64 xt)] [(28, [encRk ⟨r.v, r.ip + 8, 0, false, false, 0⟩])] (.tup []) [[encRk w']]) (hb : w'.bad = 0) :
  FnC Tryz.prog 80 [.agg (encRn r)] (encRS (⟨w'.v, w'.ip, w'.w, w'.go, r.fuel - 1⟩, w'.over, 0)) := by
 have c1 := rget_l r.v r.ip 0 false false r.ip xt hm h1
 have d1 : decide (r.fuel < 1) = false := decide_eq_false (by omega)
 have d2 : (!r.go) = true := by rw [hg]; rfl
 have d3 := z0
 have d4 : (w'.bad == 0) = true := by simp [hb]
 unfold encRS
 refine goF Tryz.func80 (closedL_cons (.agg (encRn_closed r)) closedL_nil) (fun w0 st0 => ?_)
 dsimp only [frOf]
 (repeat' (first | refine goA ?_ | refine callK 5 12 28 (encRk ⟨r.v, r.ip, 0, false, false, 0⟩) (encRk ⟨r.v, r.ip, 0, false, false, 0⟩) (c1) (encRk_closed _) (encRk_closed _) (RelL.cons (.ptr (j := 0) 0 0 rfl) (RelL.cons (.wk (.same _) (.val _)) (RelL.nil _))) smT ?_ | refine callK 5 12 28 (encRk ⟨r.v, r.ip + 8, 0, false, false, 0⟩) (encRk w') (hD) (encRk_closed _) (encRk_closed _) (RelL.cons (.ptr (j := 0) 0 0 rfl) (RelL.cons (.wk (.same _) (.val _)) (RelL.nil _))) smT ?_ | refine goB ?_ | fail))
 exact awp_ret ⟨_, ResL.cons (ResA.agg rfl rfl rfl rfl rfl rfl rfl (RL.allClosed (encRn_closed ⟨w'.v, w'.ip, w'.w, w'.go, r.fuel - 1⟩))) (ResL.cons (ResA.tmp (.val _)) (ResL.cons (ResA.tmp (.val _)) .nil)), rfl⟩
theorem rbegin_c (v : V) (xt fuel : Int) : FnC Tryz.prog 79 [.agg (encV v), .val (.int .i64 xt), .val (.int .i64 fuel)] (.agg (encRn ⟨clrRF v, 16, xt, true, fuel⟩)) := by
 refine goF Tryz.func79 (closedL_cons (closedV v) (closedL_cons (.val _) (closedL_cons (.val _) closedL_nil))) (fun w0 st0 => ?_)
 dsimp only [frOf]
 (repeat' (first | refine goA ?_ | refine goB ?_ | fail))
 exact awp_ret ⟨_, ResL.cons (ResA.agg rfl rfl rfl rfl rfl rfl rfl (by repeat' (first | exact RL.nil _ | refine RL.cons (by first | exact Reif.val _ | exact Reif.nilSl | exact .closed _ (by first | exact closed_bs _ | exact closed_s _ | exact closed_ws _ | exact closedFr _ | exact closedRq _ | exact closedHn _ | exact closed_map encP_closed)) ?_))) .nil, rfl⟩
set_option maxHeartbeats 8000000 in
theorem run_c (v : V) (xt fuel : Int) (hf : 0 ≤ fuel) (n : Nat) (rs : Nat → Rn) (x : Rn) (h0 : rs 0 = ⟨clrRF v, 16, xt, true, fuel⟩) (hs : ∀ i, i < n → FnC Tryz.prog 80 [.agg (encRn (rs i))] (encRS (rs (i + 1), false, 0))) (hl : FnC Tryz.prog 80 [.agg (encRn (rs n))] (encRS (x, true, 0))) :
  FnC Tryz.prog 41 [.agg (encV v), .val (.int .i64 xt), .val (.int .i64 fuel)] (.tup [.agg (encV (clrRF x.v)), .val (.int .i64 x.fuel), .val (.int .i64 0)]) := by
 have c1 := rbegin_c v xt fuel
 rw [← h0] at c1
 have d1 : decide (fuel < 0) = false := decide_eq_false (by omega)
 have z : ((0 : Int) != 0) = false := by simp
 unfold encRS at hs hl
 dsimp only at hs hl
 clear h0
 refine goF Tryz.func41 (closedL_cons (closedV v) (closedL_cons (.val _) (closedL_cons (.val _) closedL_nil))) (fun w0 st0 => ?_)
 dsimp only [frOf]
 (repeat' (first | refine goA ?_ | refine cX c1 ?_ | refine goB ?_ | fail))
 refine awp_loopT (T := Nat × Nat) (fun t => ⟨[(9, .ptr 9 10 0 0), (6, .ptr 6 1 0 0)], [(9, some ⟨10, 27, [encRn (rs t.1)]⟩), (6, some ⟨1, 23, [[.val (.int .i64 0), .val (.int .i64 0), .val (.int .i64 0), .val (.int .i64 0), .val (.int .i64 0), .sl 0 true [], .sl 0 true [], .val (.int .i64 0), .sl 0 true [], .sl 0 true [], .sl 0 true [], .sl 0 true [], .val (.int .i64 0), .sl 0 true [], .sl 0 true [], .val (.bool false), .sl 0 true [], .val (.int .i64 0), .val (.int .i64 0), .val (.int .i64 0), .val (.int .i64 0), .val (.int .i64 0), .sl 0 true []]]⟩)], t.2⟩) (fun t => t.1 ≤ n) (fun t => n - t.1) (0, _) (Nat.zero_le _) ⟨⟨rfl, rfl, trivial⟩, ⟨rfl, rfl, trivial⟩, Nat.le_refl _⟩ (fun t ht => ?_)
 obtain ⟨i, gc⟩ := t
 dsimp only at ht ⊢
 by_cases hlt : i < n
 ·have c2 := hs i hlt
  (repeat' (first | refine goA ?_ | refine cX c2 ?_ | refine goB ?_ | fail))
  exact ⟨(i + 1, _), ⟨⟨rfl, rfl, trivial⟩, ⟨rfl, rfl, trivial⟩, Nat.le_refl _⟩, hlt, (by dsimp only; omega)⟩
 ·have hin : i = n := by omega
  subst hin
  (repeat' (first | refine goA ?_ | refine cX hl ?_ | refine goB ?_ | fail))
  exact awp_ret ⟨_, ResL.cons (ResA.agg rfl rfl rfl rfl rfl rfl rfl (by repeat' (first | exact RL.nil _ | refine RL.cons (by first | exact Reif.val _ | exact Reif.nilSl | exact .closed _ (by first | exact closed_bs _ | exact closed_s _ | exact closed_ws _ | exact closedFr _ | exact closedRq _ | exact closedHn _ | exact closed_map encP_closed)) ?_))) (ResL.cons (ResA.tmp (.val _)) (ResL.cons (ResA.tmp (.val _)) .nil)), rfl⟩
end Go.Proofs.YthlbcakjngcjbaaGreat
