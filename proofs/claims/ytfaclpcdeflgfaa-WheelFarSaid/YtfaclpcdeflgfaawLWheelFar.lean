/- WheelFar returns true at every input, and leaves its arguments as they were. -/
import Derived.Test.YtfaclpcdeflgfaaW1
import Derived.Test.YtfaclpcdeflgfaaW2
import Derived.Test.YtfaclpcdeflgfaaW3
import Derived.Test.YtfaclpcdeflgfaaW4
import Derived.Test.YtfaclpcdeflgfaawW5
import Derived.Test.YtfaclpcdeflgfaawW6
import Derived.Test.YtfaclpcdeflgfaawW7
import Derived.Test.YtfaclpcdeflgfaawW8
import Derived.Test.YtfaclpcdeflgfaawW9
set_option linter.unusedVariables false
set_option linter.unusedSimpArgs false
namespace Go.Proofs.Ytfaclpcdeflgfaa
open Go Go.RowKit
set_option maxRecDepth 100000
theorem flatTm : flatOf Try.prog 40 = some [0, 0, 0, 0, 0, 0] := by kernel_rfl
theorem tm_refl (a b c d e f : Int) : (!((a == a) && ((b == b) && ((c == c) && ((d == d) && ((e == e) && ((f == f) && true))))))) = false := by simp
theorem get16 {l : List Int} {i : Nat} {d : Int} (h : l[i]? = some d) : (l.map encU16)[i]? = some (encU16 d) := by rw [List.getElem?_map, h]; rfl
theorem mod600 {d : Int} (h : 0 ≤ d) : 0 ≤ d.tmod 600 ∧ d.tmod 600 < 600 := by
 rw [Int.tmod_eq_emod_of_nonneg h]
 omega
theorem encU16_closed (n : Int) : ∀ x, x ∈ encU16 n → Closed x := closedL_cons (.val _) closedL_nil
theorem flt_comm (p q : Tmr → Bool) (l : List Tmr) : (l.filter p).filter q = (l.filter q).filter p := by
 rw [List.filter_filter, List.filter_filter]
 exact List.filter_congr (fun t _ => Bool.and_comm _ _)
theorem sortT_filt (p : Tmr → Bool) (l : List Tmr) : (sortT l).filter p = sortT (l.filter p) := by
 refine sorted_uniq (sorted_filter p (sortT_sorted l)) (sortT_sorted _) (fun d i => ?_)
 rw [sortT_filter, flt_comm, sortT_filter, flt_comm]
def cutK (kp : Int → Bool) (j : Int) (t : Tmr) : Bool := kp t.id || decide (j ≤ t.id)
theorem cutK_0 {kp : Int → Bool} {l : List Tmr} (h : ∀ t, t ∈ l → 0 ≤ t.id) : l.filter (cutK kp 0) = l := List.filter_eq_self.2 (fun t ht => by
 unfold cutK
 rw [decide_eq_true (h t ht)]
 exact Bool.or_true _)
theorem cutK_n {kp : Int → Bool} {l : List Tmr} {n : Int} (h : ∀ t, t ∈ l → t.id < n) : l.filter (cutK kp n) = l.filter (fun t => kp t.id) := List.filter_congr (fun t ht => by
 unfold cutK
 rw [decide_eq_false (by have := h t ht; omega)]
 exact Bool.or_false _)
theorem cutK_keep {kp : Int → Bool} {l : List Tmr} {j : Int} (h : kp j = true) : l.filter (cutK kp (j + 1)) = l.filter (cutK kp j) := List.filter_congr (fun t ht => by
 unfold cutK
 by_cases e : t.id = j
 ·rw [e, h]; rfl
 ·congr 1
  by_cases q : j + 1 ≤ t.id
  ·rw [decide_eq_true q, decide_eq_true (by omega)]
  ·rw [decide_eq_false q, decide_eq_false (by omega)])
theorem cutK_cut {kp : Int → Bool} {l : List Tmr} {j : Int} (h : kp j = false) (p : Tmr → Bool) : ((l.filter (cutK kp j)).filter p).filter (fun t => !idB j t) = (l.filter (cutK kp (j + 1))).filter p := by
 rw [List.filter_filter, List.filter_filter, List.filter_filter]
 refine List.filter_congr (fun t ht => ?_)
 unfold cutK idB
 by_cases e : t.id = j
 ·rw [e, h, decide_eq_false (show ¬ j + 1 ≤ j by omega), show (j == j) = true from beq_iff_eq.2 rfl]
  cases p t <;> rfl
 ·rw [show (t.id == j) = false from beq_eq_false_iff_ne.2 e]
  have : decide (j + 1 ≤ t.id) = decide (j ≤ t.id) := by
   by_cases q : j + 1 ≤ t.id
   ·rw [decide_eq_true q, decide_eq_true (by omega)]
   ·rw [decide_eq_false q, decide_eq_false (by omega)]
  rw [this]
  cases p t <;> cases kp t.id <;> cases decide (j ≤ t.id) <;> rfl
theorem any_id {N : Int} {kp : Int → Bool} {S : List Tmr} {dl : List Int} {j : Nat} {d : Int} {n : Int} (hd : dl[j]? = some d) (hS : ∀ t, t ∈ S → ∃ (i : Nat) (d : Int), dl[i]? = some d ∧ t = tmD N i d) (hin : tmD N j d ∈ S) : ((S.filter (cutK kp j)).filter (aftB (N + n))).any (idB j) = decide (n < 1 + d.tmod 600) := by
 have q : (tmD N j d).due = N + 1 + d.tmod 600 := rfl
 have qi : (tmD N j d).id = j := rfl
 by_cases h : n < 1 + d.tmod 600
 ·rw [decide_eq_true h, List.any_eq_true]
  refine ⟨tmD N j d, List.mem_filter.2 ⟨List.mem_filter.2 ⟨hin, ?_⟩, ?_⟩, ?_⟩
  ·unfold cutK
   rw [qi, decide_eq_true (Int.le_refl _)]
   exact Bool.or_true _
  ·unfold aftB
   rw [q]
   exact decide_eq_true (by omega)
  ·unfold idB
   rw [qi]
   exact beq_iff_eq.2 rfl
 ·rw [decide_eq_false h]
  refine Bool.eq_false_iff.2 (fun e => ?_)
  obtain ⟨t, ht, hi⟩ := List.any_eq_true.1 e
  obtain ⟨ht, ha⟩ := List.mem_filter.1 ht
  obtain ⟨ht, _⟩ := List.mem_filter.1 ht
  obtain ⟨i, d2, h1, h2⟩ := hS t ht
  unfold idB at hi
  have hi := beq_iff_eq.1 hi
  rw [h2] at hi
  have hi : ((i : Nat) : Int) = (j : Nat) := hi
  obtain rfl : i = j := by omega
  rw [hd] at h1
  obtain rfl := Option.some.inj h1
  unfold aftB at ha
  rw [h2, q] at ha
  have := of_decide_eq_true ha
  omega
attribute [local irreducible] Decidable.decide awp ARun regK toK
set_option maxHeartbeats 4000000 in
theorem same19_c (l : List Tmr) (hl : l.length ≤ 1000000) : FnC Try.prog 17 [encTs l, encTs l] (.val (.bool true)) := by
 have em : (((l.map encTm).length : Nat) : Int) = l.length := by rw [List.length_map]
 have d1 : ((((l.map encTm).length : Nat) : Int) != (((l.map encTm).length : Nat) : Int)) = false := by simp
 refine goF Try.func17 (closedL_cons (closed_ts l) (closedL_cons (closed_ts l) closedL_nil)) (fun w0 st0 => ?_)
 dsimp only [frOf]
 (repeat' (first | refine goA ?_ | refine goB ?_ | fail))
 refine awp_loopT (T := Nat × Nat) (fun t => ⟨[(0, encTs l), (1, encTs l), (5, .val (.int .i64 (t.1 : Nat)))], [], t.2⟩) (fun t => t.1 ≤ l.length) (fun t => l.length - t.1) (0, _) (Nat.zero_le _) ⟨⟨rfl, rfl, rfl, trivial⟩, trivial, Nat.le_refl _⟩ (fun t ht => ?_)
 obtain ⟨k, gc⟩ := t
 dsimp only at ht ⊢
 clear d1
 by_cases hlt : k < l.length
 ·have d2 : decide (((k : Nat) : Int) < ((l.map encTm).length : Nat)) = true := decide_eq_true (by omega)
  obtain ⟨y, hy⟩ : ∃ y, l[k]? = some y := ⟨_, List.getElem?_eq_getElem hlt⟩
  have hp : (l.map encTm)[((k : Nat) : Int).toNat]? = some (encTm y) := map_at hy
  have d3 := tm_refl y.id y.due y.each y.rank y.hand y.arg
  (repeat' (first | refine goA ?_ | refine ARun.indexAddr rfl rfl (by omega) (by with_reducible exact hp) rfl rfl rfl rfl rfl (guardF_spec rfl) ?_ | refine neX flatTm rfl rfl rfl rfl rfl ?_ | refine goB ?_ | fail))
  exact ⟨(k + 1, _), ⟨⟨rfl, rfl, rfl, trivial⟩, trivial, Nat.le_refl _⟩, hlt, (by dsimp only; omega)⟩
 ·have d2 : decide (((k : Nat) : Int) < ((l.map encTm).length : Nat)) = false := decide_eq_false (by omega)
  (repeat' (first | refine goA ?_ | refine goB ?_ | fail))
  exact awp_ret ⟨_, ResL.cons (ResA.tmp (.val _)) .nil, rfl⟩
end Go.Proofs.Ytfaclpcdeflgfaa
namespace Go.Proofs.Ytfaclpcdeflgfaa
open Go Go.RowKit
set_option maxRecDepth 100000
structure FarIn where
 r : Int
 h : Int
 a : Int
 dl : List Int
def encFar (x : FarIn) : List AV := [.val (.int .u8 x.r), .val (.int .u16 x.h), .val (.int .u16 x.a), .sl 1 false (x.dl.map encU16)]
theorem encFar_closed (x : FarIn) : ∀ y, y ∈ encFar x → Closed y := closedL_cons (.val _) (closedL_cons (.val _) (closedL_cons (.val _) (closedL_cons (closed_map encU16_closed) closedL_nil)))
attribute [local irreducible] Decidable.decide awp ARun regK toK zW zBig28 dueB
set_option maxHeartbeats 32000000 in
theorem far19_c (x : FarIn) (hr : 0 ≤ x.r ∧ x.r ≤ 255) (hh : 0 ≤ x.h ∧ x.h ≤ 65535) (ha : 0 ≤ x.a ∧ x.a ≤ 65535) (hdl : ∀ d, d ∈ x.dl → 0 ≤ d ∧ d ≤ 65535) : FnC Try.prog 6 [.agg (encFar x)] (.val (.bool true)) := by
 have c0 := shown19_c
 have lz := zW_len
 have z1 : ((0 : Int) != 0) = false := by simp
 have em : (((x.dl.map encU16).length : Nat) : Int) = x.dl.length := by rw [List.length_map]
 by_cases h8 : 8 < x.dl.length
 ·have d1 : decide ((8 : Int) < ((x.dl.map encU16).length : Nat)) = true := decide_eq_true (by omega)
  refine goF Try.func6 (closedL_cons (.agg (encFar_closed x)) closedL_nil) (fun w0 st0 => ?_)
  dsimp only [frOf]
  (repeat' (first | refine goA ?_ | refine cX c0 ?_ | refine goB ?_ | fail))
  exact awp_ret ⟨_, ResL.cons (ResA.tmp (.val _)) .nil, rfl⟩
 have d1 : decide ((8 : Int) < ((x.dl.map encU16).length : Nat)) = false := decide_eq_false (by omega)
 have hh5 : 0 ≤ x.h.tmod 500 ∧ x.h.tmod 500 < 500 := by
  rw [Int.tmod_eq_emod_of_nonneg hh.1]
  omega
 have hr5 : 0 ≤ x.r.tmod 5 ∧ x.r.tmod 5 < 5 := by
  rw [Int.tmod_eq_emod_of_nonneg hr.1]
  omega
 have ha3 : 0 ≤ x.a.tmod 300 ∧ x.a.tmod 300 < 300 := by
  rw [Int.tmod_eq_emod_of_nonneg ha.1]
  omega
 have hE : 0 ≤ shlV .i64 (1 + x.h.tmod 500) (8 * x.r.tmod 5) ∧ shlV .i64 (1 + x.h.tmod 500) (8 * x.r.tmod 5) ≤ 2305843009213000000 := by
  have hc : x.r.tmod 5 = 0 ∨ x.r.tmod 5 = 1 ∨ x.r.tmod 5 = 2 ∨ x.r.tmod 5 = 3 ∨ x.r.tmod 5 = 4 := by omega
  unfold shlV
  rcases hc with e | e | e | e | e <;> rw [e]
  ·rw [show (min (8 * (0 : Int)).toNat IntKind.i64.bits) = 0 from rfl, IntKind.wrap_i64]; omega
  ·rw [show (min (8 * (1 : Int)).toNat IntKind.i64.bits) = 8 from rfl, IntKind.wrap_i64]; omega
  ·rw [show (min (8 * (2 : Int)).toNat IntKind.i64.bits) = 16 from rfl, IntKind.wrap_i64]; omega
  ·rw [show (min (8 * (3 : Int)).toNat IntKind.i64.bits) = 24 from rfl, IntKind.wrap_i64]; omega
  ·rw [show (min (8 * (4 : Int)).toNat IntKind.i64.bits) = 32 from rfl, IntKind.wrap_i64]; omega
 have hsub : BinR Try.prog .sub 3 (.int .i64 (shlV .i64 (1 + x.h.tmod 500) (8 * x.r.tmod 5))) (.int .i64 (x.a.tmod 300)) (.int .i64 (shlV .i64 (1 + x.h.tmod 500) (8 * x.r.tmod 5) - x.a.tmod 300)) := bin_sub64 (by omega)
 obtain ⟨N', hN'⟩ : ∃ N' : Int, N' = shlV .i64 (1 + x.h.tmod 500) (8 * x.r.tmod 5) - x.a.tmod 300 := ⟨_, rfl⟩
 rw [← hN'] at hsub
 have hc : ∃ N : Int, 0 ≤ N ∧ N ≤ 2305843009213693952 ∧ ((decide (N' < 0) = true ∧ N = 0) ∨ (decide (N' < 0) = false ∧ N = N')) := by
  by_cases h : N' < 0
  ·exact ⟨0, by omega, by omega, .inl ⟨decide_eq_true h, rfl⟩⟩
  ·exact ⟨N', by omega, by omega, .inr ⟨decide_eq_false h, rfl⟩⟩
 obtain ⟨N, hN0, hN1, hc⟩ := hc
 obtain ⟨c1, hw⟩ := new_yes (n := N) ⟨hN0, hN1⟩
 have hwn : (wNew N).now = N := rfl
 have lw := hw.len
 obtain ⟨wn, hwe⟩ : ∃ wn, wn = wNew N := ⟨_, rfl⟩
 rw [← hwe] at c1 hw hwn lw
 have hst := tms_strict N x.dl
 have htl := tmsF_len N x.dl 0
 have hta := tmsF_at N x.dl 0
 have htm : ∀ t, t ∈ tmsF N 0 x.dl → ∃ (i : Nat) (d : Int), x.dl[i]? = some d ∧ t = tmD N i d := fun t ht => tmsF_mem ht
 generalize hT : tmsF N 0 x.dl = T at *
 clear hT hwe hN'
 rcases hc with ⟨d2, hN⟩ | ⟨d2, hN⟩
 all_goals
  have c1' := c1
  rw [hN] at c1'
  refine goF Try.func6 (closedL_cons (.agg (encFar_closed x)) closedL_nil) (fun w0 st0 => ?_)
  dsimp only [frOf]
  (repeat' (first | refine ARun.bin rfl rfl hsub rfl (guardF_spec rfl) ?_ | refine storeW (t := 28) rfl rfl rfl rfl rfl (by assumption) (by assumption) rfl rfl ?_ | refine loadW (t := 28) rfl rfl rfl rfl rfl (by assumption) rfl rfl ?_ | refine allocW (t := 28) rfl zall zW_eq zW_len rfl rfl rfl ?_ | refine goA ?_ | refine cX c0 ?_ | refine cX c1' ?_ | refine goB ?_ | fail))
  refine awp_loopT (T := Nat × Wh × Int × Nat × Nat) (fun t => ⟨[(6, .sl 1 false (x.dl.map encU16)), (7, .val (.bool true)), (9, .val (.int .i64 N)), (10, .ptr 10 t.2.2.2.1 0 0), (12, .val (.int .i64 t.2.2.1)), (13, .val (.int .i64 (t.1 : Nat)))], [(10, some ⟨t.2.2.2.1, 1025, [encWh t.2.1]⟩)], t.2.2.2.2⟩) (fun t => t.1 ≤ x.dl.length ∧ WR t.2.1 (sortT (T.take t.1)) ∧ t.2.1.now = N ∧ t.2.2.1 = (t.1 : Nat)) (fun t => x.dl.length - t.1) (0, wn, 0, _, _) ⟨Nat.zero_le _, hw, hwn, rfl⟩ ⟨⟨rfl, rfl, by rw [hN]; rfl, rfl, rfl, rfl, trivial⟩, ⟨rfl, trivial⟩, Nat.le_refl _⟩ (fun t ht => ?_)
  obtain ⟨i, w, lf, G, gc⟩ := t
  dsimp only at ht ⊢
  obtain ⟨hi, hR, hnow, hlf⟩ := ht
  clear c0 c1 c1' hw hwn lw hsub d2 hN
  have lw := hR.len
  by_cases hlt : i < x.dl.length
  ·have d3 : decide (((i : Nat) : Int) < ((x.dl.map encU16).length : Nat)) = true := decide_eq_true (by omega)
   obtain ⟨d, hd⟩ : ∃ d, x.dl[i]? = some d := ⟨_, List.getElem?_eq_getElem hlt⟩
   have hd0 := hdl d (List.mem_of_getElem? hd)
   have hm6 := mod600 hd0.1
   have hp : (x.dl.map encU16)[((i : Nat) : Int).toNat]? = some (encU16 d) := get16 hd
   have hx := hta i d hd
   rw [Nat.zero_add] at hx
   have c2 := add_s hR (tmD N i d) (by rw [hnow]; show N < N + 1 + d.tmod 600; omega) (by rw [hnow]; show N + 1 + d.tmod 600 < N + 4294967296; omega)
   have hX := hR.add (t := tmD N i d) (by rw [hnow]; show N < N + 1 + d.tmod 600; omega) (by rw [hnow]; show N + 1 + d.tmod 600 < N + 4294967296; omega) (by rw [sortT_len, List.length_take]; omega)
   rw [← sortT_snoc, ← take_succ' hx] at hX
   have hnx : (putD w (tmD N i d)).now = N := hnow
   have lx := hX.len
   generalize putD w (tmD N i d) = X at *
   (repeat' (first | refine storeW (t := 28) rfl rfl rfl rfl rfl (by assumption) (by assumption) rfl rfl ?_ | refine loadW (t := 28) rfl rfl rfl rfl rfl (by assumption) rfl rfl ?_ | refine allocW (t := 28) rfl zall zW_eq zW_len rfl rfl rfl ?_ | refine goA ?_ | refine ARun.indexAddr rfl rfl (by omega) (by first | with_reducible exact hp | with_reducible exact hq) rfl rfl rfl rfl rfl (guardF_spec rfl) ?_ | refine cX c2 ?_ | refine goB ?_ | fail))
   exact ⟨(i + 1, X, lf + 1, G, _), ⟨⟨rfl, rfl, rfl, rfl, rfl, rfl, trivial⟩, ⟨rfl, trivial⟩, Nat.le_refl _⟩, ⟨hlt, hX, hnx, by dsimp only; omega⟩, (by dsimp only; omega)⟩
  have d3 : decide (((i : Nat) : Int) < ((x.dl.map encU16).length : Nat)) = false := decide_eq_false (by omega)
  rw [List.take_of_length_le (by omega)] at hR
  have hS := hst x.dl.length (Nat.le_refl _)
  rw [List.take_of_length_le (by omega)] at hS
  have hSl : (sortT T).length = x.dl.length := by rw [sortT_len, htl]
  have hSm : ∀ t, t ∈ sortT T → ∃ (i : Nat) (d : Int), x.dl[i]? = some d ∧ t = tmD N i d := fun t ht => htm t (mem_sortT.1 ht)
  generalize sortT T = S at *
  have hS0 : S.filter (aftB N) = S := List.filter_eq_self.2 (fun t ht => by
   obtain ⟨j, d, h1, h2⟩ := hSm t ht
   have := mod600 (hdl d (List.mem_of_getElem? h1)).1
   unfold aftB
   rw [h2]
   exact decide_eq_true (by show N < N + 1 + d.tmod 600; omega))
  clear hst htl hta htm
  (repeat' (first | refine goA ?_ | refine goB ?_ | fail))
  refine awp_loopT (T := Nat × Wh × Int × Nat) (fun t => ⟨[(6, .sl 1 false (x.dl.map encU16)), (7, .val (.bool true)), (9, .val (.int .i64 N)), (10, .ptr 10 G 0 0), (12, .val (.int .i64 t.2.2.1)), (16, .val (.int .i64 (t.1 : Nat)))], [(10, some ⟨G, 1025, [encWh t.2.1]⟩)], t.2.2.2⟩) (fun t => t.1 ≤ 600 ∧ WR t.2.1 (S.filter (aftB (N + (t.1 : Nat)))) ∧ t.2.1.now = N + (t.1 : Nat) ∧ t.2.2.1 = ((S.filter (aftB (N + (t.1 : Nat)))).length : Nat)) (fun t => 600 - t.1) (0, w, lf, _) ⟨Nat.zero_le _, by dsimp only; rw [show N + ((0 : Nat) : Int) = N by omega, hS0]; exact hR, by dsimp only; omega, by dsimp only; rw [show N + ((0 : Nat) : Int) = N by omega, hS0]; omega⟩ ⟨⟨rfl, rfl, rfl, rfl, rfl, rfl, trivial⟩, ⟨rfl, trivial⟩, Nat.le_refl _⟩ (fun t ht => ?_)
  obtain ⟨k, w2, lf2, gc2⟩ := t
  dsimp only at ht ⊢
  obtain ⟨hk, hR2, hnow2, hlf2⟩ := ht
  clear hR hnow hlf lw hi
  have lw := hR2.len
  by_cases hlk : k < 600
  ·have d4 : decide (((k : Nat) : Int) < 600) = true := decide_eq_true (by omega)
   have hfl : (S.filter (aftB (N + (k : Nat)))).length < 20 := by have := List.length_filter_le (aftB (N + (k : Nat))) S; omega
   have c4 := tick_s sort20 hR2 hfl
   have hX := hR2.tick (by omega)
   have en := tick_now hR2
   rw [hnow2] at c4 hX en
   have hsp := filter_split (dueB (N + (k : Nat) + 1)) (S.filter (aftB (N + (k : Nat))))
   rw [aft_next] at hX hsp
   rw [aft_out] at c4 hsp
   rw [show N + (k : Nat) + 1 = N + ((k + 1 : Nat) : Int) by omega] at hX hsp en c4
   have n5 := now0 (tickW w2)
   rw [en] at n5
   have lx := hX.len
   have hO : StrictT (S.filter (dueB (N + ((k + 1 : Nat) : Int)))) := hS.filter _
   have hOm : ∀ t, t ∈ S.filter (dueB (N + ((k + 1 : Nat) : Int))) → t.due = N + ((k + 1 : Nat) : Int) ∧ ∃ (i : Nat) (d : Int), x.dl[i]? = some d ∧ t = tmD N i d := fun t ht => by
    have := List.mem_filter.1 ht
    refine ⟨?_, hSm t this.1⟩
    have h2 := this.2
    unfold dueB at h2
    exact beq_iff_eq.1 h2
   generalize S.filter (dueB (N + ((k + 1 : Nat) : Int))) = O at *
   generalize tickW w2 = X at *
   (repeat' (first | refine storeW (t := 28) rfl rfl rfl rfl rfl (by assumption) (by assumption) rfl rfl ?_ | refine loadW (t := 28) rfl rfl rfl rfl rfl (by assumption) rfl rfl ?_ | refine allocW (t := 28) rfl zall zW_eq zW_len rfl rfl rfl ?_ | refine goA ?_ | refine cX c4 ?_ | refine goB ?_ | fail))
   refine awp_loopT (T := Nat × Int × Int × Nat × Nat) (fun t => ⟨[(6, .sl 1 false (x.dl.map encU16)), (7, .val (.bool true)), (9, .val (.int .i64 N)), (10, .ptr 10 G 0 0), (12, .val (.int .i64 t.2.2.1)), (16, .val (.int .i64 (k : Nat))), (17, .ptr 17 t.2.2.2.1 0 0), (18, encTs O), (19, .val (.int .i64 t.2.1)), (20, .val (.int .i64 (t.1 : Nat)))], [(10, some ⟨G, 1025, [encWh w2]⟩), (17, some ⟨t.2.2.2.1, 1025, [encWh X]⟩)], t.2.2.2.2⟩) (fun t => t.1 ≤ O.length ∧ (∀ y, O[t.1]? = some y → t.2.1 < y.id) ∧ t.2.2.1 = lf2 - (t.1 : Nat)) (fun t => O.length - t.1) (0, -1, lf2, _, _) ⟨Nat.zero_le _, fun y hy => by
    obtain ⟨_, i, d, h1, h2⟩ := hOm y (List.mem_of_getElem? hy)
    rw [h2]
    show (-1 : Int) < (i : Nat)
    omega, by dsimp only; omega⟩ ⟨⟨rfl, rfl, rfl, rfl, rfl, rfl, rfl, rfl, rfl, rfl, trivial⟩, ⟨rfl, rfl, trivial⟩, Nat.le_refl _⟩ (fun t ht => ?_)
   obtain ⟨j, la, lf3, G2, gc3⟩ := t
   dsimp only at ht ⊢
   obtain ⟨hj, hla, hlf3⟩ := ht
   have eO : (((O.map encTm).length : Nat) : Int) = O.length := by rw [List.length_map]
   clear c4
   by_cases hlj : j < O.length
   ·have d5 : decide (((j : Nat) : Int) < ((O.map encTm).length : Nat)) = true := decide_eq_true (by omega)
    obtain ⟨y, hy⟩ : ∃ y, O[j]? = some y := ⟨_, List.getElem?_eq_getElem hlj⟩
    obtain ⟨hyd, i2, d, hd, hyt⟩ := hOm y (List.mem_of_getElem? hy)
    have hp : (O.map encTm)[((j : Nat) : Int).toNat]? = some (encTm y) := map_at hy
    have hyi : y.id = (i2 : Nat) := by rw [hyt]; rfl
    have hyd2 : y.due = N + 1 + d.tmod 600 := by rw [hyt]; rfl
    have hd0 := hdl d (List.mem_of_getElem? hd)
    have hm6 := mod600 hd0.1
    have hi2 := (List.getElem?_eq_some_iff.1 hd).1
    have hq : (x.dl.map encU16)[y.id.toNat]? = some (encU16 d) := by rw [hyi]; exact get16 hd
    have f1 : (y.due != X.now) = false := by rw [hyd, en]; exact bne_int _
    have hlay := hla y hy
    have f2 : decide (y.id ≤ la) = false := decide_eq_false (by omega)
    have f3 : decide ((((x.dl.map encU16).length : Nat) : Int) ≤ y.id) = false := decide_eq_false (by omega)
    have f4 : (y.due != N + 1 + d.tmod 600) = false := by rw [hyd2]; exact bne_int _
    have hlfb : lf3 ≤ 100 ∧ -100 ≤ lf3 := by omega
    have hy0 : 0 ≤ y.id := by omega
    (repeat' (first | refine goA ?_ | refine ARun.indexAddr rfl rfl (by omega) (by first | with_reducible exact hp | with_reducible exact hq) rfl rfl rfl rfl rfl (guardF_spec rfl) ?_ | refine goB ?_ | fail))
    refine ⟨(j + 1, y.id, lf3 - 1, G2, _), ⟨⟨rfl, rfl, rfl, rfl, rfl, rfl, rfl, rfl, rfl, rfl, trivial⟩, ⟨rfl, rfl, trivial⟩, Nat.le_refl _⟩, ⟨hlj, fun z hz => ?_, by dsimp only; omega⟩, (by dsimp only; omega)⟩
    dsimp only at hz ⊢
    exact strict_next hO hy hz (by rw [hyd, (hOm z (List.mem_of_getElem? hz)).1])
   ·have d5 : decide (((j : Nat) : Int) < ((O.map encTm).length : Nat)) = false := decide_eq_false (by omega)
    (repeat' (first | refine storeW (t := 28) rfl rfl rfl rfl rfl (by assumption) (by assumption) rfl rfl ?_ | refine loadW (t := 28) rfl rfl rfl rfl rfl (by assumption) rfl rfl ?_ | refine goA ?_ | refine goB ?_ | fail))
    exact ⟨(k + 1, X, lf3, _), ⟨⟨rfl, rfl, rfl, rfl, rfl, rfl, trivial⟩, ⟨rfl, trivial⟩, Nat.le_refl _⟩, ⟨hlk, hX, en, by dsimp only; omega⟩, (by dsimp only; omega)⟩
  ·have d4 : decide (((k : Nat) : Int) < 600) = false := decide_eq_false (by omega)
   obtain rfl : k = 600 := by omega
   have hnil : S.filter (aftB (N + ((600 : Nat) : Int))) = [] := flt_no (fun t ht => by
    obtain ⟨j, d, h1, h2⟩ := hSm t ht
    have := mod600 (hdl d (List.mem_of_getElem? h1)).1
    unfold aftB
    rw [h2]
    exact decide_eq_false (by show ¬ (N + ((600 : Nat) : Int) < N + 1 + d.tmod 600); omega))
   rw [hnil] at hR2 hlf2
   have c4 := all_s sort20 hR2 (by show 0 < 20; omega)
   have f1 : (lf2 == 0) = true := beq_iff_eq.2 hlf2
   have f2 : (((((([] : List Tmr).map encTm).length : Nat) : Int)) == 0) = true := beq_iff_eq.2 rfl
   (repeat' (first | refine storeW (t := 28) rfl rfl rfl rfl rfl (by assumption) (by assumption) rfl rfl ?_ | refine loadW (t := 28) rfl rfl rfl rfl rfl (by assumption) rfl rfl ?_ | refine allocW (t := 28) rfl zall zW_eq zW_len rfl rfl rfl ?_ | refine goA ?_ | refine cX c4 ?_ | refine goB ?_ | fail))
   (refine awp_ret ⟨_, ResL.cons (ResA.tmp (.val _)) .nil, congrArg (fun b => AV.val (.bool b)) ?_⟩; first | rfl | (symm; assumption) | assumption | (symm; exact beq_int _))
end Go.Proofs.Ytfaclpcdeflgfaa
namespace Go.Proofs.Ytfaclpcdeflgfaa
open Go Go.RowKit Go.ChangeShapes Go.WideShapes Go.Deep Go.Proofs.Ytfaclpcdeflgfaa
set_option maxRecDepth 100000
theorem wheelFar_lifted (os : Os) (started : os.Started) (H : Type) (enc : TypeId × Value → H) :
  ReturnsInHanded {} Try.checked os 6 .any (Rows.wheelFarSpec.pre6 enc Try.prog Try.f6 Rows.wheelFarRow.domain false) (Rows.wheelFarSpec.post enc Try.prog Try.f6 false true false false) := by
 refine returnsInHanded_of_change (C := Try.checked) own_knob started (by kernel_rfl) Try.func6
  (ChangeSpec.witness6 (enc := enc) (C := Try.checked) false ⟨#[], #[.agg #[.int .u8 0, .int .u16 0, .int .u16 0, .slice none 0 0]], []⟩ 12 (by kernel_rfl) (by kernel_rfl) (by kernel_rfl) (by kernel_rfl)) ?_
 intro W base args ds gs before hval0 hW hcnd _
 have hval : ∀ (j : Nat) t v, Try.f6.params[j]? = some t → args[j]? = some v → Value.okWide Try.prog W .any base t v := hval0
 have hW' := hW
 obtain ⟨p, q, hA0, hV, rfl, hfz, hnd⟩ := hW
 have hA : DataW.TrodAll enc Try.prog W 0 (fun _ => true) true Try.f6.params.toList args.toList ds p := hA0
 rw [Try.params6] at hA hval
 obtain ⟨v0, vs0, d0, ds0, p0, q0, hargs, rfl, rfl, h0, r0⟩ := trodAll_cons hA
 obtain ⟨rfl, rfl, rfl⟩ := trodAll_nil r0
 obtain rfl : args = #[v0] := by cases args; simp_all
 obtain ⟨rfl, rfl⟩ := trodVars_none hV
 have k0 := h0
 have lt0 : ∀ x ∈ p0, x.block < W.heap.size := by obtain ⟨m, hm⟩ := k0; exact DataW.trod_lt m _ _ _ hm
 obtain ⟨y0, rep0, hy0⟩ := arg_struct Try.underlying59 (hval 0 59 v0 rfl rfl) h0 ((opens_struct Try.underlying59 (by kernel_rfl) (OpensFs.cons (sz := 1) rfl (by kernel_rfl) (opens_u8 Try.underlying5) (OpensFs.cons (sz := 1) rfl (by kernel_rfl) (opens_u16 Try.underlying36) (OpensFs.cons (sz := 1) rfl (by kernel_rfl) (opens_u16 Try.underlying36) (OpensFs.cons (sz := 1) rfl (by kernel_rfl) opens_dl OpensFs.nil))))).map (enc' := encFar) (Q' := fun x => (0 ≤ x.r ∧ x.r ≤ 255) ∧ (0 ≤ x.h ∧ x.h ≤ 65535) ∧ (0 ≤ x.a ∧ x.a ≤ 65535) ∧ ∀ d, d ∈ x.dl → 0 ≤ d ∧ d ≤ 65535) (fun y => (⟨y.1, y.2.1, y.2.2.1, y.2.2.2.1⟩ : FarIn)) (fun _ _ => rfl) (fun _ h => ⟨h.1, h.2.1, h.2.2.1, h.2.2.2.1⟩))
 clear hA0 hval0
 refine ((far19_c y0 hy0.1 hy0.2.1 hy0.2.2.1 hy0.2.2.2).law (us := [v0]) rfl (fun i x u hx hu => by
  cases i with
  | zero => simp only [List.getElem?_cons_zero, Option.some.injEq] at hx hu; rw [← hx, ← hu]; exact rep0
  | succ i =>
   simp only [List.getElem?_cons_succ] at hx hu
   simp at hx)).mono fun e W' ⟨he, bel⟩ => ?_
 subst he
 exact ⟨_, rfl, _, _, _, [], _, [], hW', trodAll_mk1 (shut_bool Try.underlying4 _), (trodAll_cons_mk (Below.trod laid_out (by kernel_rfl) (of_decide_eq_true (by kernel_rfl)) k0 bel lt0) trodAll_mk0), rfl, bel.frame _, fun h => by cases h⟩
theorem wheelFar_holds : Rows.WheelFarSaid :=
 OpenClaim.holds_of_wide 6 Try.f6 rfl rfl rfl rfl rfl rfl rfl ⟨rfl, rfl, rfl, rfl, rfl⟩ rfl rfl rfl rfl rfl (by kernel_rfl) Try.func6 (by kernel_rfl)
  (of_decide_eq_true (by kernel_rfl)) (by unfold Func.isWrapper; first | (rw [if_pos (by decide +kernel)]; kernel_rfl) | (rw [if_neg (by decide +kernel)]; exact ⟨rfl, rfl⟩))
  (fun os started H enc _ => wheelFar_lifted os started H enc)
#print axioms wheelFar_holds
end Go.Proofs.Ytfaclpcdeflgfaa
