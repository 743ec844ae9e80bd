/- cX21, cX22, cX30, cX23, cX24. -/
import Derived.Test.YtpkkplojpjakiaaW1
import Derived.Test.YtpkkplojpjakiaaW2
import Derived.Test.YtpkkplojpjakiaaW3
import Derived.Test.YtpkkplojpjakiaaW4
import Derived.Test.YtpkkplojpjakiaacW5
import Derived.Test.YtpkkplojpjakiaacW6
import Derived.Test.YtpkkplojpjakiaacW7
import Derived.Test.YtpkkplojpjakiaacW8
import Derived.Test.YtpkkplojpjakiaacW9
import Derived.Test.YtpkkplojpjakiaacW10
import Derived.Test.YtpkkplojpjakiaacW11
import Derived.Test.YtpkkplojpjakiaacW12
import Derived.Test.YtpkkplojpjakiaacW13
import Derived.Test.YtpkkplojpjakiaacW14
import Derived.Test.YtpkkplojpjakiaacW15
import Derived.Test.YtpkkplojpjakiaacW16
import Derived.Test.YtpkkplojpjakiaacW17
/- cflow: the document's example, shown. -/
namespace Go.Proofs.Ytpkkplojpjakiaa
set_option linter.unusedVariables false
set_option linter.unusedSimpArgs false
open Go Go.RowKit
open Go.Proofs.Ytpkkplojpjakiaa.Dict (St Bs bs_eq encWs closed_ws)
open Go.Proofs.Ytpkkplojpjakiaa.Mem (Mm encM encBs closed_bs encP encP_closed closed_m storeD fetchD commaD writeD alignD padN putB_len enc2m)
open Go.Proofs.Ytpkkplojpjakiaa.Stk (encS closed_s encI_closed)
set_option maxRecDepth 100000
theorem name_if : brN v0 [] [73, 70] = brI 0 v0 [] := brN_yes (by simp [nmC])
theorem name_then (v : V) (l : List Cfr) : brN v l [84, 72, 69, 78] = brI 2 v l := brN_yes (by simp [nmC])
attribute [local irreducible] Decidable.decide awp ARun regK toK
theorem fresh_c : FnC Try.prog 28 [] (.agg (encV v0)) := by
  have c1 := ref_new_c conf0
  rw [newV_new fits0] at c1
  rw [show vNew conf0 = v0 from rfl] at c1
  generalize v0 = v at *
  refine FnC.of_awp (T := tt) (ok := tok) Try.func28 (by kernel_rfl) rfl (by kernel_rfl) closedL_nil (fun w0 st0 => ?_)
  dsimp only [frOf]
  (repeat' (first | refine awp_seq ?_ | refine awp_block ?_ | refine awp_rg hmix ?_ | refine ARun.o rfl ?_ | refine callX (c1) rfl rfl rfl rfl ?_ | ((first | refine ARun.f ?_ | refine awp_skip ?_ | refine awp_exit ?_); dsimp only [thenA, blockA, AS.bump, List.length_cons, List.length_nil, reduceIte, Nat.reduceEqDiff]) | refine awp_cT rfl ?_ | refine awp_cF rfl ?_ | ((fail_if_success refine ARun.plain rfl ?_); first | refine ARun.kT rfl rfl rfl ?_ | refine ARun.kF rfl rfl rfl ?_)))
  exact awp_ret ⟨_, ResL.cons (ResA.agg rfl rfl rfl rfl rfl rfl rfl (RL.allClosed (encV_closed _))) .nil, rfl⟩
theorem cright_zero_c : FnC Try.prog 14 [.sl 3 true [[.val (.int .i64 0), .val (.int .i64 0), .sl 0 true []]]] (.val (.bool false)) := by
  have hcl : ∀ el x, el ∈ [[AV.val (.int .i64 0), .val (.int .i64 0), .sl 0 true []]] → x ∈ el → Closed x := one_cl (closedL_cons (.val _) (closedL_cons (.val _) (closedL_cons (.sl (by simp)) closedL_nil)))
  refine FnC.of_awp (T := tt) (ok := tok) Try.func14 (by kernel_rfl) rfl (by kernel_rfl) (closedL_cons (.sl hcl) closedL_nil) (fun w0 st0 => ?_)
  dsimp only [frOf]
  (repeat' (first | refine awp_seq ?_ | refine awp_block ?_ | refine awp_rg hmix ?_ | refine ARun.o rfl ?_ | ((first | refine ARun.f ?_ | refine awp_skip ?_ | refine awp_exit ?_); dsimp only [thenA, blockA, AS.bump, List.length_cons, List.length_nil, reduceIte, Nat.reduceEqDiff]) | refine awp_cT rfl ?_ | refine awp_cF rfl ?_ | ((fail_if_success refine ARun.plain rfl ?_); first | refine ARun.kT rfl rfl rfl ?_ | refine ARun.kF rfl rfl rfl ?_)))
  refine awp_loopT (T := Nat) (fun t => ⟨[(7, .val (.int .i64 0)), (6, .val (.int .i64 1)), (5, .sl 3 true [[.val (.int .i64 0), .val (.int .i64 0), .sl 0 true []]])], [], t⟩) (fun t => True) (fun t => 0) _ trivial ⟨⟨rfl, rfl, rfl, trivial⟩, trivial, Nat.le_refl _⟩ (fun t _ => ?_)
  dsimp only
  have d1 : decide ((0 : Int) < 1) = true := decide_eq_true (by omega)
  have hp : [[AV.val (.int .i64 0), .val (.int .i64 0), .sl 0 true []]][(0 : Int).toNat]? = some [AV.val (.int .i64 0), .val (.int .i64 0), .sl 0 true []] := rfl
  (repeat' (first | refine awp_seq ?_ | refine awp_block ?_ | refine awp_rg hmix ?_ | refine ARun.o rfl ?_ | refine ARun.indexAddr rfl rfl (by omega) (by with_reducible exact hp) rfl rfl rfl rfl rfl (guardF_spec rfl) ?_ | ((first | refine ARun.f ?_ | refine awp_skip ?_ | refine awp_exit ?_); dsimp only [thenA, blockA, AS.bump, List.length_cons, List.length_nil, reduceIte, Nat.reduceEqDiff]) | refine awp_cT rfl ?_ | refine awp_cF rfl ?_ | ((fail_if_success refine ARun.plain rfl ?_); first | refine ARun.kT rfl rfl rfl ?_ | refine ARun.kF rfl rfl rfl ?_)))
  exact awp_ret ⟨_, ResL.cons (ResA.tmp (.val _)) .nil, rfl⟩
def lA : List Cfr := [⟨1, 1376, []⟩]
set_option maxHeartbeats 16000000 in
theorem shown13_c : FnC Try.prog 8 [] (.val (.bool true)) := by
  obtain ⟨x, y, z, s, h1, h2, h3, h4, h5, h6, h7, h8, h9, h10, ox⟩ := facts13
  have c0 := fresh_c
  have c1 := bracket_c v0 [] [73, 70] (by decide) (fun c h => by cases h) (v0_okk _ (by decide))
  rw [name_if, h1] at c1
  have c2 := bracket_c x [⟨1, 1376, []⟩] [84, 72, 69, 78] (by decide) (fun c h => by rw [List.mem_singleton.1 h]; decide) ox
  rw [name_then, h2] at c2
  have c3 := bracket_c v0 [] [84, 72, 69, 78] (by decide) (fun c h => by cases h) (v0_okk _ (by decide))
  rw [name_then, h3] at c3
  have c4 := Mem.ref_fetch_c y.m 1376 h5
  rw [h4] at c4
  have c5 := lit_c v0 5 (v0_okk _ (by decide))
  rw [h7] at c5
  have c6 := str_c v0 [97, 98, 99] (v0_okk _ (by decide)) (by decide)
  rw [h9] at c6
  have c7 := cnames_c
  have c8 := cright_c [⟨1, 1376, []⟩] (by decide)
  rw [pD_yes (show RightC [⟨1, 1376, []⟩] from ⟨fun c h => by rw [List.mem_singleton.1 h]; exact ⟨⟨by decide, by decide⟩, by decide, .inr rfl⟩, by decide⟩)] at c8
  have c9 := cright_zero_c
  have ca := cfsame_c [⟨1, 1376, []⟩] [⟨1, 1376, []⟩] (by decide) (fun c h => by rw [List.mem_singleton.1 h]; decide)
  rw [pD_yes rfl] at ca
  have cb := cfsame_c [⟨1, 1376, []⟩] [] (by decide) (fun c h => by rw [List.mem_singleton.1 h]; decide)
  rw [pD_no (by simp)] at cb
  clear h1 h2 h3 h4 h5 h7 h9 ox
  rw [show ([⟨1, 1376, []⟩] : List Cfr) = lA from rfl] at c1 c2 c8 ca cb
  have hp : (lA.map encCf)[(0 : Int).toNat]? = some (encCf ⟨1, 1376, []⟩) := rfl
  have e1 : ((((lA.map encCf).length : Nat) : Int) == 1) = true := beq_iff_eq.2 rfl
  have e2 : (((([] : List Cfr).map encCf).length : Nat) : Int) = 0 := rfl
  have e3 : ((((nmC.map encN).length : Nat) : Int) == 13) = true := beq_iff_eq.2 rfl
  have t1 : (y.here == 1384) = true := beq_iff_eq.2 h6
  have t2 : (z.here == 1384) = true := beq_iff_eq.2 h8
  have t3 : (s.here == 1392) = true := beq_iff_eq.2 h10
  have e4 : (0 : Int) < (lA.map encCf).length := by show (0 : Int) < 1; omega
  unfold encVLE at c1 c2 c3
  unfold encVE at c5 c6
  dsimp only at c1 c2 c3 c5 c6
  generalize v0 = v at *
  generalize nmC.map encN = nn at *
  generalize lA = la at *
  refine FnC.of_awp (T := tt) (ok := tok) Try.func8 (by kernel_rfl) rfl (by kernel_rfl) closedL_nil (fun w0 st0 => ?_)
  dsimp only [frOf]
  (repeat' (first | refine awp_seq ?_ | refine awp_block ?_ | refine awp_rg hmix ?_ | refine ARun.o rfl ?_ | refine callX (c0) rfl rfl rfl rfl ?_ | refine callW (c1) rfl (by (repeat (refine WkL.cons (by first | exact Wk.same _ | exact Wk.nilSl | exact Wk.weak _ _ _ | exact Wk.aggL (by (repeat (refine WkL.cons (by first | exact Wk.same _ | exact Wk.nilSl | exact Wk.weak _ _ _) ?_)); exact WkL.nil)) ?_)); exact WkL.nil) rfl rfl ?_ | refine callW (c2) rfl (by (repeat (refine WkL.cons (by first | exact Wk.same _ | exact Wk.nilSl | exact Wk.weak _ _ _ | exact Wk.aggL (by (repeat (refine WkL.cons (by first | exact Wk.same _ | exact Wk.nilSl | exact Wk.weak _ _ _) ?_)); exact WkL.nil)) ?_)); exact WkL.nil) rfl rfl ?_ | refine callW (c3) rfl (by (repeat (refine WkL.cons (by first | exact Wk.same _ | exact Wk.nilSl | exact Wk.weak _ _ _ | exact Wk.aggL (by (repeat (refine WkL.cons (by first | exact Wk.same _ | exact Wk.nilSl | exact Wk.weak _ _ _) ?_)); exact WkL.nil)) ?_)); exact WkL.nil) rfl rfl ?_ | refine callX (c4) rfl rfl rfl rfl ?_ | refine callX (c5) rfl rfl rfl rfl ?_ | refine callX (c6) rfl rfl rfl rfl ?_ | refine callX (c7) rfl rfl rfl rfl ?_ | refine callX (c8) rfl rfl rfl rfl ?_ | refine callX (c9) rfl rfl rfl rfl ?_ | refine callX (ca) rfl rfl rfl rfl ?_ | refine callX (cb) rfl rfl rfl rfl ?_ | refine ARun.indexAddr rfl rfl (by omega) (by with_reducible exact hp) rfl rfl rfl rfl rfl (guardF_spec rfl) ?_ | ((first | refine ARun.f ?_ | refine awp_skip ?_ | refine awp_exit ?_); dsimp only [thenA, blockA, AS.bump, List.length_cons, List.length_nil, reduceIte, Nat.reduceEqDiff]) | refine awp_cT rfl ?_ | refine awp_cF rfl ?_ | ((fail_if_success refine ARun.plain rfl ?_); first | refine ARun.kT rfl rfl rfl ?_ | refine ARun.kF rfl rfl rfl ?_)))
  exact awp_ret ⟨_, ResL.cons (ResA.tmp (.val _)) .nil, rfl⟩
end Go.Proofs.Ytpkkplojpjakiaa
/- cflow: what laying leaves as it was. No program here. -/
namespace Go.Proofs.Ytpkkplojpjakiaa
set_option linter.unusedVariables false
set_option linter.unusedSimpArgs false
open Go Go.RowKit
open Go.Proofs.Ytpkkplojpjakiaa.Dict (St Bs)
open Go.Proofs.Ytpkkplojpjakiaa.Mem (Mm commaD storeD writeD thereD alignD partD there_yes RightM cellAtD)
set_option maxRecDepth 100000
theorem write_right {m : Mm} (a : Int) (b : List UInt8) (h : RightM m) : RightM (writeD m a b).1 := by
  have hl := (write_ok m a b).1
  unfold writeD at hl ⊢
  split
  · exact h
  · rename_i h1
    split
    · exact h
    · rename_i h2
      rw [if_neg h1, if_neg h2] at hl
      simp only [Bool.not_eq_false] at h1
      have h3 := there_yes h1 (by
        have := List.length_pos_iff.2 h2
        omega)
      refine ⟨fun p hp => ?_, by rw [hl]; exact h.2.1, by rw [hl]; exact h.2.2⟩
      rw [hl]
      rcases List.mem_append.1 hp with hp | hp
      · exact h.1 p hp
      · rw [List.mem_singleton.1 hp]
        have e : (partD m.b a (b.length : Nat)).length = b.length := by
          unfold partD
          rw [List.length_take, List.length_drop]
          omega
        rw [e]
        exact h1
theorem mlay_right {m : Mm} (here : Int) (b : List UInt8) (h : RightM m) : RightM (Mem.layD m here b).1 := by
  unfold Mem.layD
  split
  · exact h
  · exact write_right _ _ h
theorem comma_right {m : Mm} (here n : Int) (h : RightM m) : RightM (commaD m here n).1 := by
  unfold commaD
  split
  · exact h
  · exact mlay_right _ _ h
theorem store_right {m : Mm} (a n : Int) (h : RightM m) : RightM (storeD m a n).1 := by
  unfold storeD
  split
  · exact h
  · exact write_right _ _ h
theorem store_ok (m : Mm) (a n : Int) : (storeD m a n).1.b.length = m.b.length ∧ (storeD m a n).1.old.length ≤ m.old.length + 1 := by
  unfold storeD
  split
  · exact ⟨rfl, Nat.le_succ _⟩
  · exact write_ok m a _
structure Rng (v : V) : Prop where
  h0 : 0 ≤ v.here
  h1 : v.here ≤ v.m.b.length
structure Lays (v x : V) (k : Nat) : Prop where
  eq : x = withMH v x.m x.here
  bl : x.m.b.length = v.m.b.length
  ol : x.m.old.length ≤ v.m.old.length + k
  ri : RightM v.m → RightM x.m
  h0 : v.here ≤ x.here
  h1 : x.here ≤ v.m.b.length
theorem Lays.refl {v : V} (h : Rng v) : Lays v v 0 := ⟨(withMH_id v).symm, rfl, Nat.le_refl _, fun h => h, Int.le_refl _, h.h1⟩
theorem Lays.rng {v x : V} {k : Nat} (h : Lays v x k) (hr : Rng v) : Rng x := ⟨by have := h.h0; have := hr.h0; omega, by rw [h.bl]; exact h.h1⟩
theorem Lays.le {v x : V} {k n : Nat} (h : Lays v x k) (hk : k ≤ n) : Lays v x n := ⟨h.eq, h.bl, by have := h.ol; omega, h.ri, h.h0, h.h1⟩
theorem Lays.trans {v x y : V} {j k : Nat} (h : Lays v x j) (g : Lays x y k) : Lays v y (j + k) :=
  ⟨calc y = withMH x y.m y.here := g.eq
     _ = withMH (withMH v x.m x.here) y.m y.here := by rw [← h.eq]
     _ = withMH v y.m y.here := rfl, g.bl.trans h.bl, by have := h.ol; have := g.ol; omega, fun k => g.ri (h.ri k), Int.le_trans h.h0 g.h0, by rw [← h.bl]; exact g.h1⟩
theorem lays_vlay {v : V} (n : Int) (h : Rng v) : Lays v (vlayD v n).1 1 := by
  have c := comma_ok v.m v.here n h.h0 h.h1
  exact ⟨rfl, c.1, c.2.1, comma_right _ _, c.2.2.1, c.2.2.2⟩
theorem lays_cell {w : Kw} (n : Int) (h : Rng w.v) : Lays w.v (cellD w n).v 1 := by
  unfold cellD
  split
  · exact lays_vlay n h
  · exact (Lays.refl h).le (by omega)
theorem lays_here {w : Kw} (n : Int) (h : Rng w.v) : Lays w.v (hereD w n).v 1 := by
  unfold hereD
  split
  · have c := store_ok w.v.m n w.v.here
    exact ⟨rfl, c.1, c.2, store_right _ _, Int.le_refl _, h.h1⟩
  · exact (Lays.refl h).le (by omega)
theorem lays_cells : ∀ (l : List Int) {w : Kw}, Rng w.v → Lays w.v (l.foldl cellD w).v l.length
  | [], w, h => Lays.refl h
  | a :: l, w, h => by
    have h1 := lays_cell (w := w) a h
    have h2 := lays_cells l (w := cellD w a) (h1.rng h)
    rw [List.foldl_cons]
    exact (h1.trans h2).le (by rw [List.length_cons]; omega)
theorem lays_heres : ∀ (l : List Int) {w : Kw}, Rng w.v → Lays w.v (heresD w l).v l.length
  | [], w, h => Lays.refl h
  | a :: l, w, h => by
    have h1 := lays_here (w := w) a h
    have h2 := lays_heres l (w := hereD w a) (h1.rng h)
    exact (h1.trans h2).le (by rw [List.length_cons]; omega)
theorem lays_ref {pl : List Int × List Int × List Cfr} {v : V} (h : Rng v) : Lays v (refK pl v).v (pl.1.length + pl.2.1.length) := by
  have h1 : Lays v (cellsK v pl.1).v pl.1.length := lays_cells pl.1 (w := wk0 v) h
  exact h1.trans (lays_heres pl.2.1 (h1.rng h))
theorem lastC_mem {l : List Cfr} (h : l ≠ []) : lastC l ∈ l := by
  unfold lastC
  rw [List.getLast?_eq_some_getLast h]
  exact List.getLast_mem h
theorem lastC_lv {l : List Cfr} {n : Nat} (h : ∀ c, c ∈ l → c.lv.length ≤ n) : (lastC l).lv.length ≤ n := by
  by_cases e : l = []
  · subst e; exact Nat.zero_le _
  · exact h _ (lastC_mem e)
theorem plan_len (i : Nat) (v : V) (l : List Cfr) (h : ∀ c, c ∈ l → c.lv.length ≤ 60) : (planD i v l).1.length + (planD i v l).2.1.length ≤ 63 := by
  have h1 := lastC_lv h
  unfold planD
  split <;> simp only [List.length_cons, List.length_nil] <;> omega
theorem lays_brI {i : Nat} {v : V} {l : List Cfr} (h : Rng v) (hl : ∀ c, c ∈ l → c.lv.length ≤ 60) : Lays v (brI i v l).1 63 := by
  have hp := plan_len i v l hl
  unfold brI
  split
  · unfold refBrD
    split
    · exact (lays_ref h).le hp
    · exact (Lays.refl h).le (by omega)
  · exact (Lays.refl h).le (by omega)
theorem lays_brN {name : Bs} {v : V} {l : List Cfr} (h : Rng v) (hl : ∀ c, c ∈ l → c.lv.length ≤ 60) : Lays v (brN v l name).1 63 := by
  by_cases hm : name ∈ nmC
  · rw [brN_yes hm]; exact lays_brI h hl
  · rw [brN_no hm]; exact (Lays.refl h).le (by omega)
theorem Lays.held {v x : V} {k : Nat} (h : Lays v x k) (hv : Held v) (ho : v.m.old.length + k ≤ 1000000) : Held x := by
  rw [h.eq]
  exact ⟨by show x.m.b.length ≤ _; rw [h.bl]; exact hv.mb, by show x.m.old.length ≤ _; have := h.ol; omega, hv.dl, hv.rl, hv.fl, hv.wl, hv.wi, hv.ol, hv.pl, hv.ql, hv.hl⟩
theorem Lays.right {v x : V} {k : Nat} (h : Lays v x k) (hv : RightV v) : RightV x := by
  rw [h.eq]
  obtain ⟨⟨a1, a2, a3, a4, a5⟩, b, c, d⟩ := hv
  refine ⟨⟨a1, h.ri a2, by show ((x.m.b.length : Nat) : Int) = _; rw [h.bl]; exact a3, by show 1368 ≤ x.here; have := h.h0; omega, by show x.here ≤ v.cf.mem; have := h.h1; omega⟩, b, c, d⟩
theorem RightV.rng {v : V} (hv : RightV v) : Rng v := by
  obtain ⟨⟨a1, a2, a3, a4, a5⟩, b, c, d⟩ := hv
  exact ⟨by omega, by omega⟩
theorem may_okk {v : V} (hm : FewV v ∧ RightV v) (k : Nat) (hk : k ≤ 10000) : Okk v k := by
  have h1 := hm.2.rng
  have h2 := hm.1.f1
  exact ⟨by have := h2.1; omega, by have := h2.2.1; omega, h1.h0, h1.h1⟩
theorem Lays.back {v x : V} {k : Nat} (h : Lays v x k) : withMH x v.m v.here = v := by
  rw [h.eq]
  exact withMH_id v
/-- Brackets stay right. -/
theorem take_ok {l : List Cfr} {k : Nat} (h : ∀ c, c ∈ l → OkC c) : ∀ c, c ∈ l.take k → OkC c := fun c hc => h c (List.mem_of_mem_take hc)
theorem right_app {l more : List Cfr} {k : Nat} (h : RightC l) (hk : l.length - k + more.length ≤ 32) (hm : ∀ c, c ∈ more → OkC c) : RightC (l.take (l.length - k) ++ more) :=
  ⟨fun c hc => by
    rcases List.mem_append.1 hc with hc | hc
    · exact take_ok h.1 c hc
    · exact hm c hc, by rw [List.length_append, List.length_take]; omega⟩
theorem ok_1 (a : Int) : OkC ⟨1, a, []⟩ := ⟨⟨by dsimp only; omega, by dsimp only; omega⟩, Nat.zero_le _, .inr rfl⟩
theorem ok_2 (a : Int) : OkC ⟨2, a, []⟩ := ⟨⟨by dsimp only; omega, by dsimp only; omega⟩, Nat.zero_le _, .inr rfl⟩
theorem ok_3 (a : Int) (s : List Int) (hs : s.length ≤ 32) : OkC ⟨3, a, s⟩ := ⟨⟨by dsimp only; omega, by dsimp only; omega⟩, hs, .inl rfl⟩
theorem one_ok {c : Cfr} (h : OkC c) : ∀ x, x ∈ [c] → OkC x := fun x hx => by rw [List.mem_singleton.1 hx]; exact h
theorem lastK_len {l : List Cfr} (h : lastK l 0 ≠ 0) : 0 < l.length := by
  rcases Nat.eq_zero_or_pos l.length with e | e
  · rw [List.length_eq_zero_iff.1 e] at h
    exact absurd rfl h
  · exact e
theorem right_plan {i : Nat} (hi : i < 13) {v : V} {l : List Cfr} (h : RightC l) (hf : FitC i l) : RightC (planD i v l).2.2 := by
  have h2 := h.2
  match i, hi with
  | 0, _ => exact right_app h (by have : l.length < 32 := hf; simp only [List.length_cons, List.length_nil]; omega) (one_ok (ok_1 _))
  | 1, _ =>
    have h1 : lastK l 0 = 1 := hf
    have h3 := lastK_len (l := l) (by rw [h1]; decide)
    exact right_app h (by simp only [List.length_cons, List.length_nil]; omega) (one_ok (ok_1 _))
  | 2, _ => exact right_app h (by simp only [List.length_nil]; omega) (fun c hc => by cases hc)
  | 3, _ => exact right_app h (by have : l.length < 32 := hf; simp only [List.length_cons, List.length_nil]; omega) (one_ok (ok_2 _))
  | 4, _ =>
    have h1 : lastK l 0 = 2 ∧ l.length < 32 := hf
    have h3 := lastK_len (l := l) (by rw [h1.1]; decide)
    refine right_app h (by simp only [List.length_cons, List.length_nil]; omega) (fun c hc => ?_)
    rcases List.mem_cons.1 hc with rfl | hc
    · exact ok_1 _
    · rw [List.mem_singleton.1 hc]
      exact h.1 _ (lastC_mem (List.length_pos_iff.1 h3))
  | 5, _ => exact right_app h (by simp only [List.length_nil]; omega) (fun c hc => by cases hc)
  | 6, _ => exact right_app h (by simp only [List.length_nil]; omega) (fun c hc => by cases hc)
  | 7, _ => exact right_app h (by simp only [List.length_nil]; omega) (fun c hc => by cases hc)
  | 8, _ => exact right_app h (by have : l.length < 32 := hf; simp only [List.length_cons, List.length_nil]; omega) (one_ok (ok_3 _ _ (by decide)))
  | 9, _ => exact right_app h (by have : l.length < 32 := hf; simp only [List.length_cons, List.length_nil]; omega) (one_ok (ok_3 _ _ (by simp)))
  | 10, _ => exact right_app h (by simp only [List.length_nil]; omega) (fun c hc => by cases hc)
  | 11, _ => exact right_app h (by simp only [List.length_nil]; omega) (fun c hc => by cases hc)
  | 12, _ =>
    have h1 : 0 ≤ loopAt l ∧ leavesAt l (loopAt l) < 32 := hf
    obtain ⟨k, c, hc, hk, e⟩ := loopFrom_mem (l := l) (n := l.length) h1.1
    have e' : loopAt l = (k : Nat) := e
    show RightC (addLv l (loopAt l).toNat (v.here + 16))
    have h3 := h1.2
    rw [e'] at h3 ⊢
    unfold leavesAt at h3
    rw [Int.toNat_natCast, hc] at h3
    unfold addLv
    rw [Int.toNat_natCast, hc]
    dsimp only at h3 ⊢
    refine ⟨fun x hx => ?_, by rw [List.length_set]; exact h2⟩
    rcases List.mem_or_eq_of_mem_set hx with hx | rfl
    · exact h.1 x hx
    · rw [hk]
      exact ok_3 _ _ (by rw [List.length_append, List.length_singleton]; omega)
theorem right_brI {i : Nat} (hi : i < 13) {v : V} {l : List Cfr} (h : RightC l) : RightC (brI i v l).2.1 := by
  by_cases hf : FitC i l
  · rw [brI_yes hf]
    unfold refBrD
    split
    · exact right_plan hi h hf
    · exact h
  · rw [brI_no hf]
    exact h
theorem right_brN {name : Bs} {v : V} {l : List Cfr} (h : RightC l) : RightC (brN v l name).2.1 := by
  by_cases hm : name ∈ nmC
  · rw [brN_yes hm]; exact right_brI (idx_nm hm).2 h
  · rw [brN_no hm]; exact h
theorem RightC.lv {l : List Cfr} (h : RightC l) : ∀ c, c ∈ l → c.lv.length ≤ 60 := fun c hc => by have := (h.1 c hc).2.1; omega
theorem RightC.lv6 {l : List Cfr} (h : RightC l) : ∀ c, c ∈ l → c.lv.length ≤ 1000000 := fun c hc => by have := (h.1 c hc).2.1; omega
theorem FewC.lv {l : List Cfr} (h : FewC l) : ∀ c, c ∈ l → c.lv.length ≤ 1000000 := fun c hc => by have := h.1 c hc; omega
end Go.Proofs.Ytpkkplojpjakiaa
/- cflow: rows of brackets of any length. -/
namespace Go.Proofs.Ytpkkplojpjakiaa
set_option linter.unusedVariables false
set_option linter.unusedSimpArgs false
open Go Go.RowKit
open Dict (St Bs bs_eq Wd encW encWs closed_ws)
open Mem (Mm encM encBs closed_bs encP encP_closed closed_m storeD fetchD commaD)
open Stk (encS closed_s)
set_option maxRecDepth 100000
attribute [local irreducible] Decidable.decide awp ARun regK toK
set_option maxHeartbeats 8000000 in
theorem ref_cright_big (l : List Cfr) (hl : l.length ≤ 9223372036854775807) : FnC Try.prog 15 [encLCf l] (.val (.bool (pD (RightC l)))) := by
  refine FnC.of_awp (T := tt) (ok := tok) Try.func15 (by kernel_rfl) rfl (by kernel_rfl) (closedL_cons (closedLCf l) closedL_nil) (fun w0 st0 => ?_)
  dsimp only [frOf]
  (repeat' (first | refine awp_seq ?_ | refine awp_block ?_ | refine awp_rg hmix ?_ | refine ARun.o rfl ?_ | ((first | refine ARun.f ?_ | refine awp_skip ?_ | refine awp_exit ?_); dsimp only [thenA, blockA, AS.bump, List.length_cons, List.length_nil, reduceIte, Nat.reduceEqDiff]) | refine awp_cT rfl ?_ | refine awp_cF rfl ?_ | ((fail_if_success refine ARun.plain rfl ?_); first | refine ARun.kT rfl rfl rfl ?_ | refine ARun.kF rfl rfl rfl ?_ | refine ARun.fork rfl rfl rfl (fun h => ?_) (fun h => ?_)) | refine awp_cond rfl (fun h => ?_) (fun h => ?_)))
  refine awp_loopT (T := Nat × Nat) (fun t => ⟨[(3, .val (.int .i64 (t.1 : Nat))), (0, encLCf l)], [], t.2⟩) (fun t => t.1 ≤ l.length ∧ ∀ x, x ∈ l.take t.1 → OkC x) (fun t => l.length - t.1) (0, _) ⟨Nat.zero_le _, fun w h => by cases h⟩ ⟨⟨rfl, rfl, trivial⟩, trivial, Nat.le_refl _⟩ (fun t ht => ?_)
  obtain ⟨i, gc⟩ := t
  obtain ⟨hi, hA⟩ := ht
  dsimp only at hi hA ⊢
  by_cases hlt : i < l.length
  · have hc : decide (((i : Nat) : Int) < ((l.map encCf).length : Nat)) = true := by simp; omega
    have hp : l[i]? = some l[i] := List.getElem?_eq_getElem hlt
    have hm : l[i] ∈ l := List.getElem_mem hlt
    generalize l[i] = x at hp hm
    have e1 : (((x.lv.map encI).length : Nat) : Int) = x.lv.length := by rw [List.length_map]
    have bad : ¬ OkC x → pD (RightC l) = false := fun hn => pD_no (fun h => hn (h.1 x hm))
    have hsn := fun h => mem_snocG hp hA h
    unfold OkC at bad hsn
    by_cases k1 : x.kind < 1
    · have d1 : decide (x.kind < 1) = true := decide_eq_true k1
      rw [bad (fun h => by have := h.1.1; omega)]
      (repeat' (first | refine awp_seq ?_ | refine awp_block ?_ | refine awp_rg hmix ?_ | refine ARun.o rfl ?_ | refine ARun.indexAddr rfl rfl (by omega) (by first | with_reducible exact get_map hp | with_reducible exact get_map hp) rfl rfl rfl rfl rfl (guardF_spec rfl) ?_ | ((first | refine ARun.f ?_ | refine awp_skip ?_ | refine awp_exit ?_); dsimp only [thenA, blockA, AS.bump, List.length_cons, List.length_nil, reduceIte, Nat.reduceEqDiff]) | refine awp_cT rfl ?_ | refine awp_cF rfl ?_ | ((fail_if_success refine ARun.plain rfl ?_); first | refine ARun.kT rfl rfl rfl ?_ | refine ARun.kF rfl rfl rfl ?_)))
      exact awp_ret ⟨_, ResL.cons (ResA.tmp (.val _)) .nil, rfl⟩
    have d1 : decide (x.kind < 1) = false := decide_eq_false k1
    by_cases k2 : 3 < x.kind
    · have d2 : decide (3 < x.kind) = true := decide_eq_true k2
      rw [bad (fun h => by have := h.1.2; omega)]
      (repeat' (first | refine awp_seq ?_ | refine awp_block ?_ | refine awp_rg hmix ?_ | refine ARun.o rfl ?_ | refine ARun.indexAddr rfl rfl (by omega) (by first | with_reducible exact get_map hp | with_reducible exact get_map hp) rfl rfl rfl rfl rfl (guardF_spec rfl) ?_ | ((first | refine ARun.f ?_ | refine awp_skip ?_ | refine awp_exit ?_); dsimp only [thenA, blockA, AS.bump, List.length_cons, List.length_nil, reduceIte, Nat.reduceEqDiff]) | refine awp_cT rfl ?_ | refine awp_cF rfl ?_ | ((fail_if_success refine ARun.plain rfl ?_); first | refine ARun.kT rfl rfl rfl ?_ | refine ARun.kF rfl rfl rfl ?_)))
      exact awp_ret ⟨_, ResL.cons (ResA.tmp (.val _)) .nil, rfl⟩
    have d2 : decide (3 < x.kind) = false := decide_eq_false k2
    by_cases k3 : 32 < x.lv.length
    · have d3 : decide ((32 : Int) < (((x.lv.map encI).length : Nat) : Int)) = true := decide_eq_true (by omega)
      rw [bad (fun h => by have := h.2.1; omega)]
      (repeat' (first | refine awp_seq ?_ | refine awp_block ?_ | refine awp_rg hmix ?_ | refine ARun.o rfl ?_ | refine ARun.indexAddr rfl rfl (by omega) (by first | with_reducible exact get_map hp | with_reducible exact get_map hp) rfl rfl rfl rfl rfl (guardF_spec rfl) ?_ | ((first | refine ARun.f ?_ | refine awp_skip ?_ | refine awp_exit ?_); dsimp only [thenA, blockA, AS.bump, List.length_cons, List.length_nil, reduceIte, Nat.reduceEqDiff]) | refine awp_cT rfl ?_ | refine awp_cF rfl ?_ | ((fail_if_success refine ARun.plain rfl ?_); first | refine ARun.kT rfl rfl rfl ?_ | refine ARun.kF rfl rfl rfl ?_)))
      exact awp_ret ⟨_, ResL.cons (ResA.tmp (.val _)) .nil, rfl⟩
    have d3 : decide ((32 : Int) < (((x.lv.map encI).length : Nat) : Int)) = false := decide_eq_false (by omega)
    by_cases k4 : x.kind = 3
    · have d4 : (x.kind != 3) = false := by simp [k4]
      (repeat' (first | refine awp_seq ?_ | refine awp_block ?_ | refine awp_rg hmix ?_ | refine ARun.o rfl ?_ | refine ARun.indexAddr rfl rfl (by omega) (by first | with_reducible exact get_map hp | with_reducible exact get_map hp) rfl rfl rfl rfl rfl (guardF_spec rfl) ?_ | ((first | refine ARun.f ?_ | refine awp_skip ?_ | refine awp_exit ?_); dsimp only [thenA, blockA, AS.bump, List.length_cons, List.length_nil, reduceIte, Nat.reduceEqDiff]) | refine awp_cT rfl ?_ | refine awp_cF rfl ?_ | ((fail_if_success refine ARun.plain rfl ?_); first | refine ARun.kT rfl rfl rfl ?_ | refine ARun.kF rfl rfl rfl ?_)))
      exact ⟨(i + 1, _), ⟨⟨succI i, rfl, trivial⟩, trivial, Nat.le_refl _⟩, ⟨hlt, hsn ⟨⟨by omega, by omega⟩, by omega, .inl k4⟩⟩, (by dsimp only; omega)⟩
    have d4 : (x.kind != 3) = true := by simp [k4]
    by_cases k5 : x.lv.length = 0
    · have d5 : decide ((0 : Int) < (((x.lv.map encI).length : Nat) : Int)) = false := decide_eq_false (by omega)
      (repeat' (first | refine awp_seq ?_ | refine awp_block ?_ | refine awp_rg hmix ?_ | refine ARun.o rfl ?_ | refine ARun.indexAddr rfl rfl (by omega) (by first | with_reducible exact get_map hp | with_reducible exact get_map hp) rfl rfl rfl rfl rfl (guardF_spec rfl) ?_ | ((first | refine ARun.f ?_ | refine awp_skip ?_ | refine awp_exit ?_); dsimp only [thenA, blockA, AS.bump, List.length_cons, List.length_nil, reduceIte, Nat.reduceEqDiff]) | refine awp_cT rfl ?_ | refine awp_cF rfl ?_ | ((fail_if_success refine ARun.plain rfl ?_); first | refine ARun.kT rfl rfl rfl ?_ | refine ARun.kF rfl rfl rfl ?_)))
      exact ⟨(i + 1, _), ⟨⟨succI i, rfl, trivial⟩, trivial, Nat.le_refl _⟩, ⟨hlt, hsn ⟨⟨by omega, by omega⟩, by omega, .inr k5⟩⟩, (by dsimp only; omega)⟩
    · have d5 : decide ((0 : Int) < (((x.lv.map encI).length : Nat) : Int)) = true := decide_eq_true (by omega)
      rw [bad (fun h => by rcases h.2.2 with h | h; exact k4 h; exact k5 h)]
      (repeat' (first | refine awp_seq ?_ | refine awp_block ?_ | refine awp_rg hmix ?_ | refine ARun.o rfl ?_ | refine ARun.indexAddr rfl rfl (by omega) (by first | with_reducible exact get_map hp | with_reducible exact get_map hp) rfl rfl rfl rfl rfl (guardF_spec rfl) ?_ | ((first | refine ARun.f ?_ | refine awp_skip ?_ | refine awp_exit ?_); dsimp only [thenA, blockA, AS.bump, List.length_cons, List.length_nil, reduceIte, Nat.reduceEqDiff]) | refine awp_cT rfl ?_ | refine awp_cF rfl ?_ | ((fail_if_success refine ARun.plain rfl ?_); first | refine ARun.kT rfl rfl rfl ?_ | refine ARun.kF rfl rfl rfl ?_)))
      exact awp_ret ⟨_, ResL.cons (ResA.tmp (.val _)) .nil, rfl⟩
  have hii : i = l.length := by omega
  subst hii
  have hc : decide (((l.length : Nat) : Int) < ((l.map encCf).length : Nat)) = false := by simp
  rw [List.take_length] at hA
  have e1 : (((l.map encCf).length : Nat) : Int) = l.length := by rw [List.length_map]
  (repeat' (first | refine awp_seq ?_ | refine awp_block ?_ | refine awp_rg hmix ?_ | refine ARun.o rfl ?_ | ((first | refine ARun.f ?_ | refine awp_skip ?_ | refine awp_exit ?_); dsimp only [thenA, blockA, AS.bump, List.length_cons, List.length_nil, reduceIte, Nat.reduceEqDiff]) | refine awp_cT rfl ?_ | refine awp_cF rfl ?_ | ((fail_if_success refine ARun.plain rfl ?_); first | refine ARun.kT rfl rfl rfl ?_ | refine ARun.kF rfl rfl rfl ?_ | refine ARun.fork rfl rfl rfl (fun h => ?_) (fun h => ?_)) | refine awp_cond rfl (fun h => ?_) (fun h => ?_)))
  refine awp_ret ⟨_, ResL.cons (ResA.tmp (.val _)) .nil, congrArg (fun b => AV.val (.bool b)) ?_⟩
  rw [show pD (RightC l) = pD (l.length ≤ 32) from pD_congr ⟨fun h => h.2, fun h => ⟨hA, h⟩⟩, ← dec_pD]
  exact decide_eq_decide.2 (by omega)
end Go.Proofs.Ytpkkplojpjakiaa
/- cflow: CflowTells returns true. -/
namespace Go.Proofs.Ytpkkplojpjakiaa
set_option linter.unusedVariables false
set_option linter.unusedSimpArgs false
open Go Go.RowKit
open Go.Proofs.Ytpkkplojpjakiaa.Dict (St Bs bs_eq Wd encW encWs closed_ws)
open Go.Proofs.Ytpkkplojpjakiaa.Mem (Mm encM encBs closed_bs encP encP_closed closed_m)
open Go.Proofs.Ytpkkplojpjakiaa.Stk (encS closed_s)
set_option maxRecDepth 100000
structure Ti where
  v : V
  a : List Cfr
  b : List Cfr
  n : Int
  s : Bs
attribute [local irreducible] Decidable.decide awp ARun regK toK
end Go.Proofs.Ytpkkplojpjakiaa
/- cflow: CflowLays returns true. -/
namespace Go.Proofs.Ytpkkplojpjakiaa
set_option linter.unusedVariables false
set_option linter.unusedSimpArgs false
open Go Go.RowKit
open Go.Proofs.Ytpkkplojpjakiaa.Dict (St Bs bs_eq Wd encW encWs closed_ws)
open Go.Proofs.Ytpkkplojpjakiaa.Mem (Mm encM encBs closed_bs encP encP_closed closed_m)
open Go.Proofs.Ytpkkplojpjakiaa.Stk (encS closed_s)
set_option maxRecDepth 100000
attribute [local irreducible] Decidable.decide awp ARun regK toK
set_option maxHeartbeats 16000000 in
theorem lays13_c (v : V) (l : List Cfr) (nm : Bs) (hi : FlIn v.dict) (hll : l.length ≤ 9223372036854775807) : FnC Try.prog 4 [.agg (encV v), encLCf l, St nm] (.val (.bool true)) := by
  have c0 := shown13_c
  have cm := may_c v hi
  have ca := ref_cright_big l hll
  by_cases hm : FewV v ∧ RightV v
  case neg =>
    rw [pD_no hm] at cm
    refine FnC.of_awp (T := tt) (ok := tok) Try.func4 (by kernel_rfl) rfl (by kernel_rfl) (closedL_cons (closedV v) (closedL_cons (closedLCf l) (closedL_cons (.val _) closedL_nil))) (fun w0 st0 => ?_)
    dsimp only [frOf]
    (repeat' (first | refine awp_seq ?_ | refine awp_block ?_ | refine awp_rg hmix ?_ | refine ARun.o rfl ?_ | refine callX (c0) rfl rfl rfl rfl ?_ | refine callX (cm) rfl rfl rfl rfl ?_ | ((first | refine ARun.f ?_ | refine awp_skip ?_ | refine awp_exit ?_); dsimp only [thenA, blockA, AS.bump, List.length_cons, List.length_nil, reduceIte, Nat.reduceEqDiff]) | refine awp_cT rfl ?_ | refine awp_cF rfl ?_ | ((fail_if_success refine ARun.plain rfl ?_); first | refine ARun.kT rfl rfl rfl ?_ | refine ARun.kF rfl rfl rfl ?_)))
    exact awp_ret ⟨_, ResL.cons (ResA.tmp (.val _)) .nil, rfl⟩
  rw [pD_yes hm] at cm
  by_cases ha : RightC l
  case neg =>
    rw [pD_no ha] at ca
    refine FnC.of_awp (T := tt) (ok := tok) Try.func4 (by kernel_rfl) rfl (by kernel_rfl) (closedL_cons (closedV v) (closedL_cons (closedLCf l) (closedL_cons (.val _) closedL_nil))) (fun w0 st0 => ?_)
    dsimp only [frOf]
    (repeat' (first | refine awp_seq ?_ | refine awp_block ?_ | refine awp_rg hmix ?_ | refine ARun.o rfl ?_ | refine callX (c0) rfl rfl rfl rfl ?_ | refine callX (cm) rfl rfl rfl rfl ?_ | refine callX (ca) rfl rfl rfl rfl ?_ | ((first | refine ARun.f ?_ | refine awp_skip ?_ | refine awp_exit ?_); dsimp only [thenA, blockA, AS.bump, List.length_cons, List.length_nil, reduceIte, Nat.reduceEqDiff]) | refine awp_cT rfl ?_ | refine awp_cF rfl ?_ | ((fail_if_success refine ARun.plain rfl ?_); first | refine ARun.kT rfl rfl rfl ?_ | refine ARun.kF rfl rfl rfl ?_)))
    exact awp_ret ⟨_, ResL.cons (ResA.tmp (.val _)) .nil, rfl⟩
  rw [pD_yes ha] at ca
  have hz : (ByteArray.mk nm.toArray).size = nm.length := rfl
  by_cases hs : 20 < nm.length
  · have d : decide ((20 : Int) < ((ByteArray.mk nm.toArray).size : Nat)) = true := decide_eq_true (by omega)
    refine FnC.of_awp (T := tt) (ok := tok) Try.func4 (by kernel_rfl) rfl (by kernel_rfl) (closedL_cons (closedV v) (closedL_cons (closedLCf l) (closedL_cons (.val _) closedL_nil))) (fun w0 st0 => ?_)
    dsimp only [frOf]
    (repeat' (first | refine awp_seq ?_ | refine awp_block ?_ | refine awp_rg hmix ?_ | refine ARun.o rfl ?_ | refine callX (c0) rfl rfl rfl rfl ?_ | refine callX (cm) rfl rfl rfl rfl ?_ | refine callX (ca) rfl rfl rfl rfl ?_ | ((first | refine ARun.f ?_ | refine awp_skip ?_ | refine awp_exit ?_); dsimp only [thenA, blockA, AS.bump, List.length_cons, List.length_nil, reduceIte, Nat.reduceEqDiff]) | refine awp_cT rfl ?_ | refine awp_cF rfl ?_ | ((fail_if_success refine ARun.plain rfl ?_); first | refine ARun.kT rfl rfl rfl ?_ | refine ARun.kF rfl rfl rfl ?_)))
    exact awp_ret ⟨_, ResL.cons (ResA.tmp (.val _)) .nil, rfl⟩
  have d : decide ((20 : Int) < ((ByteArray.mk nm.toArray).size : Nat)) = false := decide_eq_false (by omega)
  have hv := hm.1.held hi
  have ho : v.m.old.length + 1000 ≤ 1000000 := by have := hm.1.f1.2.1; omega
  have hr := hm.2.rng
  have k8 := ref_cnames_c
  have hnm : nmC.length = 13 := rfl
  have hnm2 : (nmC.map encN).length = 13 := by rw [List.length_map]; exact hnm
  have b1 : ∀ name, FnC Try.prog 25 [.agg (encV v), encLCf l, St name] (encVLE (brN v l name)) := fun name => bracket_c v l name ha.2 ha.lv (may_okk hm _ (by omega))
  have b2 : ∀ name, FnC Try.prog 26 [.agg (encV v), encLCf l, St name] (encVLE (brN v l name)) := fun name => ref_bracket_c v l name (by have := ha.2; omega) ha.lv (may_okk hm _ (by omega))
  have b3 : ∀ name, FnC Try.prog 24 [.agg (encV (brN v l name).1), .agg (encV (brN v l name).1)] (.val (.bool true)) := fun name => by
    have h1 := (lays_brN (name := name) hr ha.lv).held hv (by omega)
    have s1 := ref_same_c _ _ h1 h1
    rw [pD_yes rfl] at s1
    exact s1
  have b4 : ∀ name, FnC Try.prog 17 [encLCf (brN v l name).2.1, encLCf (brN v l name).2.1] (.val (.bool true)) := fun name => by
    have h1 := right_brN (name := name) (v := v) ha
    have s1 := ref_cfsame_c _ _ (by have := h1.2; omega) h1.lv6 h1.lv6
    rw [pD_yes rfl] at s1
    exact s1
  clear hv ho hr ha hm hz hi hll hs
  have hL : (nmC.map encN) ++ [[.val (.string ⟨nm.toArray⟩)]] = (nmC ++ [nm]).map encN := by simp [encN]
  generalize nmC.map encN = nn at *
  refine FnC.of_awp (T := tt) (ok := tok) Try.func4 (by kernel_rfl) rfl (by kernel_rfl) (closedL_cons (closedV v) (closedL_cons (closedLCf l) (closedL_cons (.val _) closedL_nil))) (fun w0 st0 => ?_)
  dsimp only [frOf]
  (repeat' (first | refine awp_seq ?_ | refine awp_block ?_ | refine awp_region_ne 5 rfl (fun _ => hmix) ?_ | refine ARun.o rfl ?_ | refine callX (c0) rfl rfl rfl rfl ?_ | refine callX (cm) rfl rfl rfl rfl ?_ | refine callX (ca) rfl rfl rfl rfl ?_ | refine callX (k8) rfl rfl rfl rfl ?_ | refine ARun.append_fullS rfl (by first | exact SrcA.sl rfl (.inr rfl) | exact SrcA.sl rfl (.inl rfl) | exact SrcA.ownW rfl rfl rfl rfl) rfl rfl rfl (by first | exact .inr rfl | exact .inl rfl | (right; simp; done)) (by first | exact .inr rfl | exact .inl rfl | (right; simp; done)) rfl rfl (by first | omega | (dsimp only [maxLen]; done) | (dsimp only [maxLen]; omega) | (simp only [List.length_append, List.length_map, List.length_take, List.length_drop, List.length_replicate, List.length_cons, List.length_nil, maxLen]; done) | (simp only [List.length_append, List.length_map, List.length_take, List.length_drop, List.length_replicate, List.length_cons, List.length_nil, maxLen]; omega) | (simp only [List.length_append, List.length_map, List.length_take, List.length_drop, List.length_replicate, List.length_cons, List.length_nil, maxLen] at *; done) | (simp only [List.length_append, List.length_map, List.length_take, List.length_drop, List.length_replicate, List.length_cons, List.length_nil, maxLen] at *; omega)) (by first | omega | (dsimp only [maxLen]; done) | (dsimp only [maxLen]; omega) | (simp only [List.length_append, List.length_map, List.length_take, List.length_drop, List.length_replicate, List.length_cons, List.length_nil, maxLen]; done) | (simp only [List.length_append, List.length_map, List.length_take, List.length_drop, List.length_replicate, List.length_cons, List.length_nil, maxLen]; omega) | (simp only [List.length_append, List.length_map, List.length_take, List.length_drop, List.length_replicate, List.length_cons, List.length_nil, maxLen] at *; done) | (simp only [List.length_append, List.length_map, List.length_take, List.length_drop, List.length_replicate, List.length_cons, List.length_nil, maxLen] at *; omega)) rfl (guardF_spec rfl) ?_ | ((first | refine ARun.f ?_ | refine awp_skip ?_ | refine awp_exit ?_); dsimp only [thenA, blockA, AS.bump, List.length_cons, List.length_nil, reduceIte, Nat.reduceEqDiff]) | refine awp_cT rfl ?_ | refine awp_cF rfl ?_ | ((fail_if_success refine ARun.plain rfl ?_); first | refine ARun.kT rfl rfl rfl ?_ | refine ARun.kF rfl rfl rfl ?_ | refine ARun.fork rfl rfl rfl (fun h => ?_) (fun h => ?_)) | refine awp_cond rfl (fun h => ?_) (fun h => ?_)))
  generalize hLe : nmC ++ [nm] = L at hL
  have hLl : L.length = 14 := by rw [← hLe]; simp [hnm]
  clear hLe c0 cm ca k8 d
  refine awp_freeze 34 _ 1 (L.map encN) (by rw [← hL]; rfl) (own_closed_map encN_closed) (fr' := [(8, .sl 1 false (L.map encN)), (6, .val (.bool false)), (3, .ptr 3 0 0 0), (1, encLCf l), (7, .val (.bool true))]) (hp' := [(3, some ⟨0, 23, [encV v]⟩)]) ⟨.inr ⟨_, rfl, by rw [← hL], rfl⟩, .inl rfl, .inl rfl, .inl rfl, .inl rfl, trivial⟩ ⟨⟨rfl, rfl⟩, trivial⟩ ?_
  (repeat' (first | refine awp_seq ?_ | refine awp_block ?_ | refine awp_rg hmix ?_ | refine ARun.o rfl ?_ | ((first | refine ARun.f ?_ | refine awp_skip ?_ | refine awp_exit ?_); dsimp only [thenA, blockA, AS.bump, List.length_cons, List.length_nil, reduceIte, Nat.reduceEqDiff]) | refine awp_cT rfl ?_ | refine awp_cF rfl ?_ | ((fail_if_success refine ARun.plain rfl ?_); first | refine ARun.kT rfl rfl rfl ?_ | refine ARun.kF rfl rfl rfl ?_ | refine ARun.fork rfl rfl rfl (fun h => ?_) (fun h => ?_)) | refine awp_cond rfl (fun h => ?_) (fun h => ?_)))
  refine awp_loopT (T := Nat × Nat) (fun t => ⟨[(8, .sl 1 false (L.map encN)), (9, .val (.int .i64 (t.1 : Nat))), (6, .val (.bool false)), (3, .ptr 3 0 0 0), (1, encLCf l), (7, .val (.bool true))], [(3, some ⟨0, 23, [encV v]⟩)], t.2⟩)
    (fun t => t.1 ≤ L.length) (fun t => L.length - t.1) (0, _) (Nat.zero_le _) ⟨⟨rfl, rfl, rfl, rfl, rfl, rfl, trivial⟩, ⟨rfl, trivial⟩, Nat.le_refl _⟩ (fun t ht => ?_)
  obtain ⟨k, gc⟩ := t
  dsimp only at ht ⊢
  by_cases hlt : k < L.length
  · have hp : L[k]? = some L[k] := List.getElem?_eq_getElem hlt
    have hc : decide (((k : Nat) : Int) < (((L.map encN).length : Nat) : Int)) = true := decide_eq_true (by rw [List.length_map]; omega)
    generalize L[k] = a at hp
    have c1 := b1 a
    have c2 := b2 a
    have c3 := b3 a
    have c4 := b4 a
    generalize brN v l a = p at *
    unfold encVLE at c1 c2
    have e6 : (!true) = false := rfl
    have e1 : (p.2.2 != p.2.2) = false := bne_int _
    (repeat' (first | refine awp_seq ?_ | refine awp_block ?_ | refine awp_rg hmix ?_ | refine ARun.o rfl ?_ | refine ARun.indexAddr rfl rfl (by omega) (by first | with_reducible exact get_map hp | with_reducible exact get_map hp) rfl rfl rfl rfl rfl (guardF_spec rfl) ?_ | refine callX (c1) rfl rfl rfl rfl ?_ | refine callX (c2) rfl rfl rfl rfl ?_ | refine callX (c3) rfl rfl rfl rfl ?_ | refine callX (c4) rfl rfl rfl rfl ?_ | ((first | refine ARun.f ?_ | refine awp_skip ?_ | refine awp_exit ?_); dsimp only [thenA, blockA, AS.bump, List.length_cons, List.length_nil, reduceIte, Nat.reduceEqDiff]) | refine awp_cT rfl ?_ | refine awp_cF rfl ?_ | ((fail_if_success refine ARun.plain rfl ?_); first | refine ARun.kT rfl rfl rfl ?_ | refine ARun.kF rfl rfl rfl ?_)))
    exact ⟨(k + 1, _), ⟨⟨rfl, succI k, rfl, rfl, rfl, rfl, trivial⟩, ⟨rfl, trivial⟩, Nat.le_refl _⟩, hlt, (by dsimp only; omega)⟩
  · have hkk : k = L.length := by omega
    subst hkk
    have hc : decide (((L.length : Nat) : Int) < (((L.map encN).length : Nat) : Int)) = false := by simp
    (repeat' (first | refine awp_seq ?_ | refine awp_block ?_ | refine awp_rg hmix ?_ | refine ARun.o rfl ?_ | ((first | refine ARun.f ?_ | refine awp_skip ?_ | refine awp_exit ?_); dsimp only [thenA, blockA, AS.bump, List.length_cons, List.length_nil, reduceIte, Nat.reduceEqDiff]) | refine awp_cT rfl ?_ | refine awp_cF rfl ?_ | ((fail_if_success refine ARun.plain rfl ?_); first | refine ARun.kT rfl rfl rfl ?_ | refine ARun.kF rfl rfl rfl ?_)))
    exact awp_ret ⟨_, ResL.cons (ResA.tmp (.val _)) .nil, rfl⟩
end Go.Proofs.Ytpkkplojpjakiaa
