/- TimerComes returns true at every input, and leaves its argument as it was. -/
import Derived.Test.YtkmlmboclegpcaaW1
import Derived.Test.YtkmlmboclegpcaaW2
import Derived.Test.YtkmlmboclegpcaaW3
import Derived.Test.YtkmlmboclegpcaaW4
import Derived.Test.YtkmlmboclegpcaauW5
import Derived.Test.YtkmlmboclegpcaauW6
import Derived.Test.YtkmlmboclegpcaauW7
import Derived.Test.YtkmlmboclegpcaauW8
import Derived.Test.YtkmlmboclegpcaauW9
import Derived.Test.YtkmlmboclegpcaauW10
import Derived.Test.YtkmlmboclegpcaauW11
import Derived.Test.YtkmlmboclegpcaauW12
import Derived.Test.YtkmlmboclegpcaauW13
import Derived.Test.YtkmlmboclegpcaauW14
import Derived.Test.YtkmlmboclegpcaauW15
import Derived.Test.YtkmlmboclegpcaauW16
import Derived.Test.YtkmlmboclegpcaauW17
set_option linter.unusedVariables false
set_option linter.unusedSimpArgs false
namespace Go.Proofs.Ytkmlmboclegpcaa
open Go Go.RowKit
set_option maxRecDepth 100000
def tc (n d : Int) (b : Bool) (e : Int) : Tmr := ⟨3, n + e, if b = true then d else 0, 0, 0, 5⟩
def InvC (n d c : Int) (b : Bool) (i : Int) (L : List Tmr) : Prop :=
 (L = [] ∧ ((0 < c ∧ c < i) ∨ (b = false ∧ d < i))) ∨ ∃ e, L = [tc n d b e] ∧ i ≤ e ∧ e < i + d ∧ (∃ k, e = d * k) ∧ (b = false → e = d) ∧ ¬ (0 < c ∧ c < i)
def hitD (d i : Int) (b : Bool) : Bool := (i == d) || (b && (i.tmod d == 0))
def offD (c i : Int) : Bool := decide (0 < c) && decide (c ≤ i)
def dueD (d c i : Int) (b : Bool) : Bool := hitD d i b && !offD c i
theorem InvC.first (n d c : Int) (b : Bool) (hd : 1 ≤ d) : InvC n d c b 1 [tc n d b d] := .inr ⟨d, rfl, hd, by omega, ⟨1, by omega⟩, fun _ => rfl, by omega⟩
theorem idB_tc (n d : Int) (b : Bool) (e : Int) : idB 3 (tc n d b e) = true := beq_iff_eq.2 rfl
theorem InvC.cut {n d c : Int} {b : Bool} {i : Int} {L : List Tmr} (h : InvC n d c b i L) (hi : i = c) : L.any (idB 3) = (b || decide (i ≤ d)) := by
 rcases h with ⟨rfl, h⟩ | ⟨e, rfl, h1, h2, h3, h4, h5⟩
 ·have hb : b = false ∧ d < i := h.resolve_left (by omega)
  rw [hb.1, decide_eq_false (show ¬ i ≤ d by omega)]
  rfl
 ·rw [List.any_cons, idB_tc]
  cases b with
  | true => rfl
  | false =>
   have := h4 rfl
   rw [decide_eq_true (show i ≤ d by omega)]
   rfl
theorem filter_one (p : Tmr → Bool) (t : Tmr) : [t].filter p = if p t = true then [t] else [] := by
 rw [List.filter_cons]
 split <;> rfl
theorem nextL_one (n : Int) (t : Tmr) : nextL n [t] = if dueB (n + 1) t = true then agL [t] else [t] := by
 unfold nextL
 rw [filter_one, filter_one]
 cases hb : dueB (n + 1) t with
 | true =>
  show insL [] (agL [t]) = agL [t]
  unfold agL
  rw [filter_one]
  split <;> rfl
 | false =>
  show insL [t] (agL []) = [t]
  unfold agL
  rfl
theorem mul_near {d i e : Int} (hd : 1 ≤ d) (hi : 1 ≤ i) (h1 : i ≤ e) (h2 : e < i + d) (h3 : ∃ k, e = d * k) : i.tmod d = 0 ↔ e = i := by
 obtain ⟨k, rfl⟩ := h3
 rw [Int.tmod_eq_emod_of_nonneg (by omega)]
 constructor
 ·intro h
  obtain ⟨q, rfl⟩ := Int.dvd_of_emod_eq_zero h
  have a1 : d * q ≤ d * k := h1
  have a2 : d * k < d * (q + 1) := by rw [Int.mul_add, Int.mul_one]; exact h2
  have b1 : q ≤ k := Int.le_of_mul_le_mul_left a1 (by omega)
  have b2 : k < q + 1 := Int.lt_of_mul_lt_mul_left a2 (by omega)
  rw [show k = q by omega]
 ·intro h
  rw [← h]
  exact Int.mul_emod_right d k
theorem InvC.tick {n d c : Int} {b : Bool} {i : Int} {L : List Tmr} (h : InvC n d c b i L) (hd : 1 ≤ d) (hi : 1 ≤ i) (hc : 0 ≤ c) {N : Int} (hN : N + 1 = n + i) {L' : List Tmr} (hL : L' = if i = c then L.filter (fun t => !idB 3 t) else L) :
  L'.filter (dueB (N + 1)) = (if dueD d c i b = true then [tc n d b i] else []) ∧ InvC n d c b (i + 1) (nextL N L') := by
 have h0 : nextL N [] = [] := rfl
 rcases h with ⟨rfl, h⟩ | ⟨e, rfl, h1, h2, h3, h4, h5⟩
 ·have e1 : L' = [] := by rw [hL]; split <;> rfl
  subst e1
  have hD : dueD d c i b = false := by
   unfold dueD
   by_cases q : 0 < c ∧ c ≤ i
   ·have : offD c i = true := by unfold offD; rw [decide_eq_true q.1, decide_eq_true q.2]; rfl
    rw [this]
    exact Bool.and_false _
   ·have hb : b = false ∧ d < i := h.resolve_left (by omega)
    have : hitD d i b = false := by
     unfold hitD
     rw [hb.1, beq_eq_false_iff_ne.2 (show i ≠ d by omega)]
     rfl
    rw [this]
    rfl
  rw [hD, if_neg (by decide), h0]
  exact ⟨rfl, .inl ⟨rfl, h.imp (fun q => ⟨q.1, by omega⟩) (fun q => ⟨q.1, by omega⟩)⟩⟩
 ·by_cases q : i = c
  ·have e1 : L' = [] := by
    rw [hL, if_pos q, filter_one, if_neg (by rw [idB_tc]; decide)]
   subst e1
   have hD : dueD d c i b = false := by
    unfold dueD
    have : offD c i = true := by unfold offD; rw [decide_eq_true (show 0 < c by omega), decide_eq_true (show c ≤ i by omega)]; rfl
    rw [this]
    exact Bool.and_false _
   rw [hD, if_neg (by decide), h0]
   exact ⟨rfl, .inl ⟨rfl, .inl ⟨by omega, by omega⟩⟩⟩
  ·have e1 : L' = [tc n d b e] := by rw [hL, if_neg q]
   subst e1
   have ho : offD c i = false := by
    unfold offD
    by_cases q1 : 0 < c
    ·rw [decide_eq_false (show ¬ c ≤ i by omega)]
     exact Bool.and_false _
    ·rw [decide_eq_false q1]
     rfl
   have hh : hitD d i b = decide (e = i) := by
    unfold hitD
    cases b with
    | true =>
     have hm := mul_near hd hi h1 h2 h3
     by_cases g : e = i
     ·rw [decide_eq_true g, beq_iff_eq.2 (hm.2 g)]
      exact Bool.or_true _
     ·rw [decide_eq_false g, beq_eq_false_iff_ne.2 (fun k => g (hm.1 k)), beq_eq_false_iff_ne.2 (fun k : i = d => g (by
       refine hm.1 ?_
       rw [k, Int.tmod_eq_emod_of_nonneg (by omega)]
       exact Int.emod_self))]
      rfl
    | false =>
     have := h4 rfl
     by_cases g : e = i
     ·rw [decide_eq_true g, beq_iff_eq.2 (show i = d by omega)]
      rfl
     ·rw [decide_eq_false g, beq_eq_false_iff_ne.2 (show i ≠ d by omega)]
      rfl
   have hD : dueD d c i b = decide (e = i) := by
    unfold dueD
    rw [ho, hh]
    exact Bool.and_true _
   have hdb : dueB (N + 1) (tc n d b e) = decide (e = i) := by
    show (n + e == N + 1) = _
    by_cases g : e = i
    ·rw [decide_eq_true g]
     exact beq_iff_eq.2 (by omega)
    ·rw [decide_eq_false g]
     exact beq_eq_false_iff_ne.2 (by omega)
   rw [filter_one, nextL_one, hD, hdb]
   by_cases g : e = i
   ·subst g
    rw [decide_eq_true rfl]
    show ([tc n d b e] = [tc n d b e]) ∧ InvC n d c b (e + 1) (agL [tc n d b e])
    refine ⟨rfl, ?_⟩
    cases b with
    | true =>
     have e2 : agL [tc n d true e] = [tc n d true (e + d)] := by
      unfold agL
      have hb : agB (tc n d true e) = true := by
       show (!(d == 0)) = true
       rw [beq_eq_false_iff_ne.2 (show d ≠ 0 by omega)]
       rfl
      rw [filter_one, if_pos hb]
      show [Tmr.mk 3 (n + e + d) d 0 0 5] = [Tmr.mk 3 (n + (e + d)) d 0 0 5]
      rw [Int.add_assoc]
     rw [e2]
     obtain ⟨k, hk⟩ := h3
     exact .inr ⟨e + d, rfl, by omega, by omega, ⟨k + 1, by rw [Int.mul_add, Int.mul_one, ← hk]⟩, fun k => (by cases k), by omega⟩
    | false =>
     have e2 : agL [tc n d false e] = [] := by
      unfold agL
      rw [filter_one, if_neg (by rw [show agB (tc n d false e) = false from rfl]; decide)]
      rfl
     rw [e2]
     have := h4 rfl
     exact .inl ⟨rfl, .inr ⟨rfl, by omega⟩⟩
   ·rw [decide_eq_false g]
    show (([] : List Tmr) = []) ∧ InvC n d c b (i + 1) [tc n d b e]
    exact ⟨rfl, .inr ⟨e, rfl, by omega, by omega, h3, h4, by omega⟩⟩
theorem InvC.last {n d c : Int} {b : Bool} {L : List Tmr} (h : InvC n d c b 901 L) (hd : 1 ≤ d ∧ d ≤ 300) (hc : 0 ≤ c ∧ c < 900) : (L.length : Int) = if (b && (c == 0)) = true then 1 else 0 := by
 rcases h with ⟨rfl, h⟩ | ⟨e, rfl, h1, h2, h3, h4, h5⟩
 ·have : (b && (c == 0)) = false := by
   rcases h with h | h
   ·rw [beq_eq_false_iff_ne.2 (show c ≠ 0 by omega)]
    exact Bool.and_false _
   ·rw [h.1]
    rfl
  rw [this]
  rfl
 ·have : (b && (c == 0)) = true := by
   have hb : b = true := by
    cases b with
    | true => rfl
    | false =>
     have := h4 rfl
     omega
   rw [hb, beq_iff_eq.2 (show c = 0 by omega)]
   rfl
  rw [this]
  rfl
end Go.Proofs.Ytkmlmboclegpcaa
namespace Go.Proofs.Ytkmlmboclegpcaa
open Go Go.RowKit
set_option maxRecDepth 100000
theorem mod_in {d m : Int} (h : 0 ≤ d) (hm : 0 < m) : 0 ≤ d.tmod m ∧ d.tmod m < m := by
 rw [Int.tmod_eq_emod_of_nonneg h]
 exact ⟨Int.emod_nonneg _ (by omega), Int.emod_lt_of_pos _ hm⟩
theorem awp_cut2 {C : ACtx} {s : AS} {Q Q2 Q3 : Exit → AS → Prop} {c1 c2 c3 : Code} {T : Type} (S : T → AS) (I : T → Prop) (h1 : awp C c1 s (thenA (fun s1 => awp C c2 s1 (thenA (fun s' => ∃ t, (FrLe s'.fr (S t).fr ∧ HpLe s'.hp (S t).hp ∧ s'.gc ≤ (S t).gc) ∧ I t) Q2)) Q3))
  (h2 : ∀ t, I t → awp C c3 (S t) Q) : awp C c1 s (thenA (fun s1 => awp C c2 s1 (thenA (fun s' => awp C c3 s' Q) Q2)) Q3) :=
 awp_mono h1 (fun e s' h => by
  cases e <;> first
   | exact awp_cut S I h h2
   | exact h)
theorem awp_cutS {C : ACtx} {s : AS} {Q Q3 : Exit → AS → Prop} {c1 c2 c3 : Code} {T : Type} (S : T → AS) (I : T → Prop) (h1 : awp C c1 s (thenA (fun s1 => awp C c2 s1 (thenA (fun s' => ∃ t, (FrLe s'.fr (S t).fr ∧ HpLe s'.hp (S t).hp ∧ s'.gc ≤ (S t).gc) ∧ I t) Q)) Q3))
  (h2 : ∀ t, I t → awp C c3 (S t) Q) : awp C c1 s (thenA (fun s1 => awp C (c2.seq c3) s1 Q) Q3) :=
 awp_mono h1 (fun e s' h => by
  cases e <;> first
   | exact awp_seq (awp_cut S I h h2)
   | exact h)
def encCi (n d : Int) (b : Bool) (c : Int) : List AV := [.val (.int .i64 n), .val (.int .u16 d), .val (.bool b), .val (.int .u16 c)]
theorem encCi_closed (n d : Int) (b : Bool) (c : Int) : ∀ y, y ∈ encCi n d b c → Closed y := closedL_cons (.val _) (closedL_cons (.val _) (closedL_cons (.val _) (closedL_cons (.val _) closedL_nil)))
theorem len0_b (x : Bool) (h : x = false) : (((((([] : List Tmr).map encTm).length : Nat) : Int) == 1) != x) = false := by subst h; rfl
theorem len1_b (t : Tmr) (x : Bool) (h : x = true) : (((((([t] : List Tmr).map encTm).length : Nat) : Int) == 1) != x) = false := by subst h; rfl
theorem any4 (n d : Int) (b : Bool) (e : Int) : [tc n d b e].any (idB 4) = false := rfl
theorem gt_one (t : Tmr) : decide ((1 : Int) < ((([t].map encTm).length : Nat) : Int)) = false := rfl
theorem gt_nil : decide ((1 : Int) < (((([] : List Tmr).map encTm).length : Nat) : Int)) = false := rfl
theorem due_off {d c i : Int} {b : Bool} (h1 : 0 < c) (h2 : c ≤ i) : false = dueD d c i b := by
 unfold dueD offD
 rw [decide_eq_true h1, decide_eq_true h2]
 exact (Bool.and_false _).symm
theorem due_on {d c i : Int} {b x : Bool} (h : ¬ (0 < c ∧ c ≤ i)) (hx : x = hitD d i b) : x = dueD d c i b := by
 unfold dueD
 have : offD c i = false := by
  unfold offD
  by_cases q : 0 < c
  ·rw [decide_eq_false (show ¬ c ≤ i from fun k => h ⟨q, k⟩)]
   exact Bool.and_false _
  ·rw [decide_eq_false q]
   rfl
 rw [this, hx]
 exact (Bool.and_true _).symm
theorem hit_eq {d i : Int} {b : Bool} (h : (i == d) = true) : true = hitD d i b := by unfold hitD; rw [h]; rfl
theorem hit_rem {d i : Int} (h : (i == d) = false) : (i.tmod d == 0) = hitD d i true := by unfold hitD; rw [h]; rfl
theorem hit_no {d i : Int} (h : (i == d) = false) : false = hitD d i false := by unfold hitD; rw [h]; rfl
theorem ne_self (x : Bool) : (x != x) = false := by cases x <;> rfl
theorem ne_int (x : Int) : (x != x) = false := by simp
attribute [local irreducible] Decidable.decide awp ARun regK toK zP zW encP zBig30 zBig28 dueB nextL InvC dueD hitD
theorem flag20_c (b : Bool) : FnC Try.prog 23 [.val (.bool b)] (.val (.int .i64 (if b = true then 1 else 0))) := by
 cases b with
 | true =>
  refine goF Try.func23 (closedL_cons (.val _) closedL_nil) (fun w0 st0 => ?_)
  dsimp only [frOf]
  (repeat' (first | refine goA ?_ | refine goB ?_ | fail))
  exact awp_ret ⟨_, ResL.cons (ResA.tmp (.val _)) .nil, rfl⟩
 | false =>
  refine goF Try.func23 (closedL_cons (.val _) closedL_nil) (fun w0 st0 => ?_)
  dsimp only [frOf]
  (repeat' (first | refine goA ?_ | refine goB ?_ | fail))
  exact awp_ret ⟨_, ResL.cons (ResA.tmp (.val _)) .nil, rfl⟩
set_option maxHeartbeats 64000000 in
theorem comes20_c (n dl : Int) (b : Bool) (cn : Int) (hn : In64 n) (hdl : 0 ≤ dl ∧ dl ≤ 65535) (hcn : 0 ≤ cn ∧ cn ≤ 65535) : FnC Try.prog 4 [.agg (encCi n dl b cn)] (.val (.bool true)) := by
 have c0 := shown20_c
 have lz := zP_len
 have z1 : ((0 : Int) != 0) = false := by simp
 have z2 : ((-24 : Int) != 0) = true := by simp
 have z4 : ((-258 : Int) != -258) = false := by simp
 have hm1 := mod_in (m := 300) hdl.1 (by omega)
 have hm2 := mod_in (m := 900) hcn.1 (by omega)
 by_cases h : pnewB n 1
 case neg =>
  have c1 := pnew_no h
  have lp : (encP (encWh (wNew 0)) 0 0).length = 1027 := encP_len (encWh_len (wNew_len 0))
  generalize encP (encWh (wNew 0)) 0 0 = P0 at *
  refine goF Try.func4 (closedL_cons (.agg (encCi_closed n dl b cn)) closedL_nil) (fun w0 st0 => ?_)
  dsimp only [frOf]
  (repeat' (first | refine storeW (t := 30) rfl rfl rfl rfl rfl (by assumption) (by assumption) rfl rfl ?_ | refine loadW (t := 30) rfl rfl rfl rfl rfl (by assumption) rfl rfl ?_ | refine allocW (t := 30) rfl zPall zP_eq zP_len rfl rfl rfl ?_ | refine goA ?_ | refine cX c0 ?_ | refine cX c1 ?_ | refine goB ?_ | fail))
  exact awp_ret ⟨_, ResL.cons (ResA.tmp (.val _)) .nil, rfl⟩
 obtain ⟨p0, hw0, c1⟩ := pv_new h
 have hn0 := hw0.nn
 obtain ⟨p1, hw, c2⟩ := pv_start hw0 ⟨3, 0, 0, 0, 0, 5⟩ (1 + dl.tmod 300) b (by omega) rfl (by decide)
 have hw : PV p1 [tc n (1 + dl.tmod 300) b (1 + dl.tmod 300)] n 1 := hw
 have c3 := pv_start_full hw ⟨4, 0, 0, 0, 0, 0⟩ (1 + dl.tmod 300) b (by omega) (any4 _ _ _ _) (Int.le_refl 1)
 have l0 := hw0.len
 have l1 := hw.len
 have hI := InvC.first n (1 + dl.tmod 300) (cn.tmod 900) b (by omega)
 refine goF Try.func4 (closedL_cons (.agg (encCi_closed n dl b cn)) closedL_nil) (fun w0 st0 => ?_)
 dsimp only [frOf]
 (repeat' (first | refine storeW (t := 30) rfl rfl rfl rfl rfl (by assumption) (by assumption) rfl rfl ?_ | refine loadW (t := 30) rfl rfl rfl rfl rfl (by assumption) rfl rfl ?_ | refine allocW (t := 30) rfl zPall zP_eq zP_len rfl rfl rfl ?_ | refine goA ?_ | refine cX c0 ?_ | refine cX c1 ?_ | refine cX c2 ?_ | refine cX c3 ?_ | refine goB ?_ | fail))
 generalize hdd : 1 + dl.tmod 300 = d at *
 generalize hcc : cn.tmod 900 = c at *
 have hd : 1 ≤ d ∧ d ≤ 300 := by omega
 have hn1 : n ≤ 2305843009213693952 := h.1.2
 refine awp_loopT (T := Nat × Int × Int × List AV × List Tmr × Nat × Nat) (fun t => ⟨[(3, .val (.int .i64 n)), (5, .val (.bool b)), (7, .val (.bool true)), (8, .val (.int .i64 d)), (9, .val (.int .i64 c)), (10, .ptr 10 t.2.2.2.2.2.1 0 0), (15, .val (.int .i64 t.2.1))], [(10, some ⟨t.2.2.2.2.2.1, 1027, [t.2.2.2.1]⟩)], t.2.2.2.2.2.2⟩) (fun t => t.1 ≤ 900 ∧ t.2.1 = (t.1 : Nat) + 1 ∧ t.2.2.1 + 1 = n + t.2.1 ∧ PV t.2.2.2.1 t.2.2.2.2.1 t.2.2.1 1 ∧ InvC n d c b t.2.1 t.2.2.2.2.1) (fun t => 901 - t.1) (0, 1, n, p1, [tc n d b d], _, _) ⟨Nat.zero_le _, rfl, rfl, hw, hI⟩ ⟨⟨rfl, rfl, rfl, rfl, rfl, rfl, rfl, trivial⟩, ⟨rfl, trivial⟩, Nat.le_refl _⟩ (fun t ht => ?_)
 clear c0 c1 c2 c3 hI hw hw0 l0 l1
 obtain ⟨j, i, N, p, L, G10, gc⟩ := t
 dsimp only at ht ⊢
 obtain ⟨hj, hi, hN, hR, hI⟩ := ht
 have lw := hR.len
 by_cases hlt : j < 900
 ·have d1 : decide (i ≤ 900) = true := decide_eq_true (by omega)
  obtain ⟨L', hL⟩ : ∃ L', L' = if i = c then L.filter (fun t => !idB 3 t) else L := ⟨_, rfl⟩
  obtain ⟨hO, hI2⟩ := hI.tick hd.1 (by omega) hm2.1 hN hL
  (repeat' (first | refine goN ?_ | refine awp_region_ne 18 rfl (fun _ => hmix) ?_ | refine ARun.o rfl ?_ | refine goB ?_ | ((fail_if_success refine ARun.plain rfl ?_); refine ARun.fork rfl rfl rfl (fun h => ?_) (fun h => ?_)) | refine awp_cond rfl (fun h => ?_) (fun h => ?_)))
  refine awp_cut2 (T := List AV × Nat) (fun t => ⟨[(3, .val (.int .i64 n)), (5, .val (.bool b)), (7, .val (.bool true)), (8, .val (.int .i64 d)), (9, .val (.int .i64 c)), (10, .ptr 10 G10 0 0), (15, .val (.int .i64 i))], [(10, some ⟨G10, 1027, [t.1]⟩)], t.2⟩) (fun t => PV t.1 L' N 1) ?_ (fun t ht => ?_)
  ·by_cases hic : i = c
   ·have d2 : (i == c) = true := beq_iff_eq.2 hic
    rw [if_pos hic] at hL
    obtain ⟨p2, hX, c4⟩ := pv_cancel hR 3
    rw [← hL] at hX
    rw [hI.cut hic] at c4
    have lx := hX.len
    cases b with
    | true =>
     rw [Bool.true_or] at c4
     have f1 := ne_self true
     (repeat' (first | refine storeW (t := 30) rfl rfl rfl rfl rfl (by assumption) (by assumption) rfl rfl ?_ | refine loadW (t := 30) rfl rfl rfl rfl rfl (by assumption) rfl rfl ?_ | refine allocW (t := 30) rfl zPall zP_eq zP_len rfl rfl rfl ?_ | refine goA ?_ | refine cX c4 ?_ | refine goB ?_ | fail))
     exact ⟨(p2, _), ⟨⟨rfl, rfl, rfl, rfl, rfl, rfl, rfl, trivial⟩, ⟨rfl, trivial⟩, Nat.le_refl _⟩, hX⟩
    | false =>
     rw [Bool.false_or] at c4
     have f1 := ne_self (decide (i ≤ d))
     (repeat' (first | refine storeW (t := 30) rfl rfl rfl rfl rfl (by assumption) (by assumption) rfl rfl ?_ | refine loadW (t := 30) rfl rfl rfl rfl rfl (by assumption) rfl rfl ?_ | refine allocW (t := 30) rfl zPall zP_eq zP_len rfl rfl rfl ?_ | refine goA ?_ | refine cX c4 ?_ | refine goB ?_ | fail))
     exact ⟨(p2, _), ⟨⟨rfl, rfl, rfl, rfl, rfl, rfl, rfl, trivial⟩, ⟨rfl, trivial⟩, Nat.le_refl _⟩, hX⟩
   ·have d2 : (i == c) = false := beq_eq_false_iff_ne.2 hic
    rw [if_neg hic] at hL
    subst hL
    (repeat' (first | refine goA ?_ | refine goB ?_ | fail))
    exact ⟨(p, _), ⟨⟨rfl, rfl, rfl, rfl, rfl, rfl, rfl, trivial⟩, ⟨rfl, trivial⟩, Nat.le_refl _⟩, hR⟩
  ·obtain ⟨p', gc2⟩ := t
   dsimp only at ht ⊢
   have lw' := ht.len
   obtain ⟨p2, hX, c4⟩ := pv_tick ht (by omega)
   obtain ⟨O, hOe⟩ : ∃ O, O = if dueD d c i b = true then [tc n d b i] else [] := ⟨_, rfl⟩
   rw [hO, ← hOe] at c4
   have lx := hX.len
   clear hL hR lw hI hO ht
   (repeat' (first | refine goN ?_ | refine awp_region_ne 24 rfl (fun _ => hmix) ?_ | refine storeW (t := 30) rfl rfl rfl rfl rfl (by assumption) (by assumption) rfl rfl ?_ | refine loadW (t := 30) rfl rfl rfl rfl rfl (by assumption) rfl rfl ?_ | refine allocW (t := 30) rfl zPall zP_eq zP_len rfl rfl rfl ?_ | refine ARun.o rfl ?_ | refine cX c4 ?_ | refine goB ?_ | ((fail_if_success refine ARun.plain rfl ?_); refine ARun.fork rfl rfl rfl (fun h => ?_) (fun h => ?_)) | refine awp_cond rfl (fun h => ?_) (fun h => ?_)))
   refine awp_cutS (T := Bool × Nat × Nat) (fun t => ⟨[(3, .val (.int .i64 n)), (5, .val (.bool b)), (7, .val (.bool true)), (8, .val (.int .i64 d)), (9, .val (.int .i64 c)), (10, .ptr 10 G10 0 0), (15, .val (.int .i64 i)), (18, .ptr 18 t.2.1 0 0), (19, encTs O), (20, .val (.bool t.1))], [(10, some ⟨G10, 1027, [p']⟩), (18, some ⟨t.2.1, 1027, [p2]⟩)], t.2.2⟩) (fun t => t.1 = dueD d c i b) ?_ (fun t ht => ?_)
   ·by_cases q1 : 0 < c
    ·have d3 : decide (0 < c) = true := decide_eq_true q1
     by_cases q2 : c ≤ i
     ·have d4 : decide (c ≤ i) = true := decide_eq_true q2
      cases b with
      | true =>
       by_cases g : i = d
       ·have g1 : (i == d) = true := beq_iff_eq.2 g
        (repeat' (first | refine goA ?_ | refine goB ?_ | fail))
        exact ⟨(_, _, _), ⟨⟨rfl, rfl, rfl, rfl, rfl, rfl, rfl, rfl, rfl, rfl, trivial⟩, ⟨rfl, rfl, trivial⟩, Nat.le_refl _⟩, due_off q1 q2⟩
       ·have g1 : (i == d) = false := beq_eq_false_iff_ne.2 g
        (repeat' (first | refine goA ?_ | refine goB ?_ | fail))
        exact ⟨(_, _, _), ⟨⟨rfl, rfl, rfl, rfl, rfl, rfl, rfl, rfl, rfl, rfl, trivial⟩, ⟨rfl, rfl, trivial⟩, Nat.le_refl _⟩, due_off q1 q2⟩
      | false =>
       by_cases g : i = d
       ·have g1 : (i == d) = true := beq_iff_eq.2 g
        (repeat' (first | refine goA ?_ | refine goB ?_ | fail))
        exact ⟨(_, _, _), ⟨⟨rfl, rfl, rfl, rfl, rfl, rfl, rfl, rfl, rfl, rfl, trivial⟩, ⟨rfl, rfl, trivial⟩, Nat.le_refl _⟩, due_off q1 q2⟩
       ·have g1 : (i == d) = false := beq_eq_false_iff_ne.2 g
        (repeat' (first | refine goA ?_ | refine goB ?_ | fail))
        exact ⟨(_, _, _), ⟨⟨rfl, rfl, rfl, rfl, rfl, rfl, rfl, rfl, rfl, rfl, trivial⟩, ⟨rfl, rfl, trivial⟩, Nat.le_refl _⟩, due_off q1 q2⟩
     ·have d4 : decide (c ≤ i) = false := decide_eq_false q2
      cases b with
      | true =>
       by_cases g : i = d
       ·have g1 : (i == d) = true := beq_iff_eq.2 g
        (repeat' (first | refine goA ?_ | refine goB ?_ | fail))
        exact ⟨(_, _, _), ⟨⟨rfl, rfl, rfl, rfl, rfl, rfl, rfl, rfl, rfl, rfl, trivial⟩, ⟨rfl, rfl, trivial⟩, Nat.le_refl _⟩, due_on (fun k => q2 k.2) (hit_eq g1)⟩
       ·have g1 : (i == d) = false := beq_eq_false_iff_ne.2 g
        (repeat' (first | refine goA ?_ | refine goB ?_ | fail))
        exact ⟨(_, _, _), ⟨⟨rfl, rfl, rfl, rfl, rfl, rfl, rfl, rfl, rfl, rfl, trivial⟩, ⟨rfl, rfl, trivial⟩, Nat.le_refl _⟩, due_on (fun k => q2 k.2) (hit_rem g1)⟩
      | false =>
       by_cases g : i = d
       ·have g1 : (i == d) = true := beq_iff_eq.2 g
        (repeat' (first | refine goA ?_ | refine goB ?_ | fail))
        exact ⟨(_, _, _), ⟨⟨rfl, rfl, rfl, rfl, rfl, rfl, rfl, rfl, rfl, rfl, trivial⟩, ⟨rfl, rfl, trivial⟩, Nat.le_refl _⟩, due_on (fun k => q2 k.2) (hit_eq g1)⟩
       ·have g1 : (i == d) = false := beq_eq_false_iff_ne.2 g
        (repeat' (first | refine goA ?_ | refine goB ?_ | fail))
        exact ⟨(_, _, _), ⟨⟨rfl, rfl, rfl, rfl, rfl, rfl, rfl, rfl, rfl, rfl, trivial⟩, ⟨rfl, rfl, trivial⟩, Nat.le_refl _⟩, due_on (fun k => q2 k.2) (hit_no g1)⟩
    ·have d3 : decide (0 < c) = false := decide_eq_false q1
     cases b with
     | true =>
      by_cases g : i = d
      ·have g1 : (i == d) = true := beq_iff_eq.2 g
       (repeat' (first | refine goA ?_ | refine goB ?_ | fail))
       exact ⟨(_, _, _), ⟨⟨rfl, rfl, rfl, rfl, rfl, rfl, rfl, rfl, rfl, rfl, trivial⟩, ⟨rfl, rfl, trivial⟩, Nat.le_refl _⟩, due_on (fun k => q1 k.1) (hit_eq g1)⟩
      ·have g1 : (i == d) = false := beq_eq_false_iff_ne.2 g
       (repeat' (first | refine goA ?_ | refine goB ?_ | fail))
       exact ⟨(_, _, _), ⟨⟨rfl, rfl, rfl, rfl, rfl, rfl, rfl, rfl, rfl, rfl, trivial⟩, ⟨rfl, rfl, trivial⟩, Nat.le_refl _⟩, due_on (fun k => q1 k.1) (hit_rem g1)⟩
     | false =>
      by_cases g : i = d
      ·have g1 : (i == d) = true := beq_iff_eq.2 g
       (repeat' (first | refine goA ?_ | refine goB ?_ | fail))
       exact ⟨(_, _, _), ⟨⟨rfl, rfl, rfl, rfl, rfl, rfl, rfl, rfl, rfl, rfl, trivial⟩, ⟨rfl, rfl, trivial⟩, Nat.le_refl _⟩, due_on (fun k => q1 k.1) (hit_eq g1)⟩
      ·have g1 : (i == d) = false := beq_eq_false_iff_ne.2 g
       (repeat' (first | refine goA ?_ | refine goB ?_ | fail))
       exact ⟨(_, _, _), ⟨⟨rfl, rfl, rfl, rfl, rfl, rfl, rfl, rfl, rfl, rfl, trivial⟩, ⟨rfl, rfl, trivial⟩, Nat.le_refl _⟩, due_on (fun k => q1 k.1) (hit_no g1)⟩
   ·obtain ⟨D, G18, gc3⟩ := t
    dsimp only at ht ⊢
    rw [← ht] at hOe
    clear c4 ht
    cases D with
    | true =>
     rw [if_pos rfl] at hOe
     subst hOe
     have e1 := len1_b (tc n d b i) true rfl
     have e2 := gt_one (tc n d b i)
     have q1 := ne_int 3
     have q2 := ne_int (n + i)
     have q3 := ne_int 5
     have hp : ([tc n d b i].map encTm)[((0 : Int)).toNat]? = some (encTm (tc n d b i)) := rfl
     (repeat' (first | refine storeW (t := 30) rfl rfl rfl rfl rfl (by assumption) (by assumption) rfl rfl ?_ | refine loadW (t := 30) rfl rfl rfl rfl rfl (by assumption) rfl rfl ?_ | refine allocW (t := 30) rfl zPall zP_eq zP_len rfl rfl rfl ?_ | refine goA ?_ | refine ARun.indexAddr rfl rfl (by omega) (by with_reducible exact hp) rfl rfl rfl rfl rfl (guardF_spec rfl) ?_ | refine goB ?_ | fail))
     exact ⟨(j + 1, i + 1, N + 1, p2, nextL N L', G10, _), ⟨⟨rfl, rfl, rfl, rfl, rfl, rfl, rfl, trivial⟩, ⟨rfl, trivial⟩, Nat.le_refl _⟩, ⟨by dsimp only; omega, by dsimp only; omega, by dsimp only; omega, hX, hI2⟩, (by dsimp only; omega)⟩
    | false =>
     rw [if_neg (by decide)] at hOe
     subst hOe
     have e1 := len0_b false rfl
     have e2 := gt_nil
     (repeat' (first | refine storeW (t := 30) rfl rfl rfl rfl rfl (by assumption) (by assumption) rfl rfl ?_ | refine loadW (t := 30) rfl rfl rfl rfl rfl (by assumption) rfl rfl ?_ | refine allocW (t := 30) rfl zPall zP_eq zP_len rfl rfl rfl ?_ | refine goA ?_ | refine goB ?_ | fail))
     exact ⟨(j + 1, i + 1, N + 1, p2, nextL N L', G10, _), ⟨⟨rfl, rfl, rfl, rfl, rfl, rfl, rfl, trivial⟩, ⟨rfl, trivial⟩, Nat.le_refl _⟩, ⟨by dsimp only; omega, by dsimp only; omega, by dsimp only; omega, hX, hI2⟩, (by dsimp only; omega)⟩
 ·have d1 : decide (i ≤ 900) = false := decide_eq_false (by omega)
  obtain rfl : i = 901 := by omega
  have hl := hI.last hd hm2
  have c5 := pv_free hR
  cases b with
  | true =>
   have c4 := flag20_c (c == 0)
   by_cases q : c = 0
   ·have q1 : (c == 0) = true := beq_iff_eq.2 q
    rw [if_pos q1] at c4
    rw [q1, if_pos (by decide)] at hl
    have f1 : ((1 - (L.length : Nat) : Int) == 1 - 1) = true := beq_iff_eq.2 (by omega)
    (repeat' (first | refine loadW (t := 30) rfl rfl rfl rfl rfl (by assumption) rfl rfl ?_ | refine goA ?_ | refine cX c5 ?_ | refine cX c4 ?_ | refine goB ?_ | fail))
    exact awp_ret ⟨_, ResL.cons (ResA.tmp (.val _)) .nil, congrArg (fun b => AV.val (.bool b)) f1.symm⟩
   ·have q1 : (c == 0) = false := beq_eq_false_iff_ne.2 q
    rw [if_neg (by rw [q1]; decide)] at c4
    rw [q1, if_neg (by decide)] at hl
    have f1 : ((1 - (L.length : Nat) : Int) == 1 - 0) = true := beq_iff_eq.2 (by omega)
    (repeat' (first | refine loadW (t := 30) rfl rfl rfl rfl rfl (by assumption) rfl rfl ?_ | refine goA ?_ | refine cX c5 ?_ | refine cX c4 ?_ | refine goB ?_ | fail))
    exact awp_ret ⟨_, ResL.cons (ResA.tmp (.val _)) .nil, congrArg (fun b => AV.val (.bool b)) f1.symm⟩
  | false =>
   have c4 := flag20_c false
   rw [if_neg (by decide)] at c4
   rw [Bool.false_and, if_neg (by decide)] at hl
   have f1 : ((1 - (L.length : Nat) : Int) == 1 - 0) = true := beq_iff_eq.2 (by omega)
   (repeat' (first | refine loadW (t := 30) rfl rfl rfl rfl rfl (by assumption) rfl rfl ?_ | refine goA ?_ | refine cX c5 ?_ | refine cX c4 ?_ | refine goB ?_ | fail))
   exact awp_ret ⟨_, ResL.cons (ResA.tmp (.val _)) .nil, congrArg (fun b => AV.val (.bool b)) f1.symm⟩
end Go.Proofs.Ytkmlmboclegpcaa
namespace Go.Proofs.Ytkmlmboclegpcaa
open Go Go.RowKit Go.ChangeShapes Go.WideShapes Go.Deep Go.Proofs.Ytkmlmboclegpcaa
set_option maxRecDepth 100000
structure CoIn where
 n : Int
 d : Int
 b : Bool
 c : Int
theorem timerComes_lifted (os : Os) (started : os.Started) (H : Type) (enc : TypeId × Value → H) :
  ReturnsInHanded {} Try.checked os 4 .any (Rows.timerComesSpec.pre6 enc Try.prog Try.f4 Rows.timerComesRow.domain false) (Rows.timerComesSpec.post enc Try.prog Try.f4 false true false false) := by
 refine returnsInHanded_of_change (C := Try.checked) own_knob started (by kernel_rfl) Try.func4
  (ChangeSpec.witness6 (enc := enc) (C := Try.checked) false ⟨#[], #[.agg #[.int .i64 0, .int .u16 0, .bool false, .int .u16 0]], []⟩ 12 (by kernel_rfl) (by kernel_rfl) (by kernel_rfl) (by kernel_rfl)) ?_
 intro W base args ds gs before hval0 hW hcnd _
 have hval : ∀ (j : Nat) t v, Try.f4.params[j]? = some t → args[j]? = some v → Value.okWide Try.prog W .any base t v := hval0
 have hW' := hW
 obtain ⟨p, q, hA0, hV, rfl, hfz, hnd⟩ := hW
 have hA : DataW.TrodAll enc Try.prog W 0 (fun _ => true) true Try.f4.params.toList args.toList ds p := hA0
 rw [Try.params4] at hA hval
 obtain ⟨v0, vs0, d0, ds0, p0, q0, hargs, rfl, rfl, h0, r0⟩ := trodAll_cons hA
 obtain ⟨rfl, rfl, rfl⟩ := trodAll_nil r0
 obtain rfl : args = #[v0] := by cases args; simp_all
 obtain ⟨rfl, rfl⟩ := trodVars_none hV
 have k0 := h0
 have lt0 : ∀ x ∈ p0, x.block < W.heap.size := by obtain ⟨m, hm⟩ := k0; exact DataW.trod_lt m _ _ _ hm
 obtain ⟨y0, rep0, hy0⟩ := arg_struct Try.underlying61 (hval 0 61 v0 rfl rfl) h0 ((opens_struct Try.underlying61 (by kernel_rfl) (OpensFs.cons (sz := 1) rfl (by kernel_rfl) opens_i (OpensFs.cons (sz := 1) rfl (by kernel_rfl) opens_h (OpensFs.cons (sz := 1) rfl (by kernel_rfl) opens_b (OpensFs.cons (sz := 1) rfl (by kernel_rfl) opens_h OpensFs.nil))))).map (enc' := fun x => encCi x.n x.d x.b x.c) (Q' := fun x => In64 x.n ∧ (0 ≤ x.d ∧ x.d ≤ 65535) ∧ (0 ≤ x.c ∧ x.c ≤ 65535)) (fun y => (⟨y.1, y.2.1, y.2.2.1, y.2.2.2.1⟩ : CoIn)) (fun _ _ => rfl) (fun _ h => ⟨h.1, h.2.1, h.2.2.2.1⟩))
 clear hA0 hval0
 refine ((comes20_c y0.n y0.d y0.b y0.c hy0.1 hy0.2.1 hy0.2.2).law (us := [v0]) rfl (fun i x u hx hu => by
  cases i with
  | zero => simp only [List.getElem?_cons_zero, Option.some.injEq] at hx hu; rw [← hx, ← hu]; exact rep0
  | succ i =>
   simp only [List.getElem?_cons_succ] at hx hu
   simp at hx)).mono fun e W' ⟨he, bel⟩ => ?_
 subst he
 exact ⟨_, rfl, _, _, _, [], _, [], hW', trodAll_mk1 (shut_bool Try.underlying4 _), (trodAll_cons_mk (Below.trod laid_out (by kernel_rfl) (of_decide_eq_true (by kernel_rfl)) k0 bel lt0) trodAll_mk0), rfl, bel.frame _, fun h => by cases h⟩
theorem timerComes_holds : Rows.TimerComesSaid :=
 OpenClaim.holds_of_wide 4 Try.f4 rfl rfl rfl rfl rfl rfl rfl ⟨rfl, rfl, rfl, rfl, rfl⟩ rfl rfl rfl rfl rfl (by kernel_rfl) Try.func4 (by kernel_rfl)
  (of_decide_eq_true (by kernel_rfl)) (by unfold Func.isWrapper; first | (rw [if_pos (by decide +kernel)]; kernel_rfl) | (rw [if_neg (by decide +kernel)]; exact ⟨rfl, rfl⟩))
  (fun os started H enc _ => timerComes_lifted os started H enc)
#print axioms timerComes_holds
end Go.Proofs.Ytkmlmboclegpcaa
