/- WheelCuts returns true at every input, and leaves its argument as it was. -/
import Derived.Test.YtfaclpcdeflgfaaW1
import Derived.Test.YtfaclpcdeflgfaaW2
import Derived.Test.YtfaclpcdeflgfaaW3
import Derived.Test.YtfaclpcdeflgfaaW4
import Derived.Test.YtfaclpcdeflgfaawW5
import Derived.Test.YtfaclpcdeflgfaawW6
import Derived.Test.YtfaclpcdeflgfaawW7
import Derived.Test.YtfaclpcdeflgfaawW8
import Derived.Test.YtfaclpcdeflgfaawW9
set_option linter.unusedVariables false
set_option linter.unusedSimpArgs false
namespace Go.Proofs.Ytfaclpcdeflgfaa
open Go Go.RowKit
set_option maxRecDepth 100000
theorem flatTm : flatOf Try.prog 40 = some [0, 0, 0, 0, 0, 0] := by kernel_rfl
theorem tm_refl (a b c d e f : Int) : (!((a == a) && ((b == b) && ((c == c) && ((d == d) && ((e == e) && ((f == f) && true))))))) = false := by simp
theorem get16 {l : List Int} {i : Nat} {d : Int} (h : l[i]? = some d) : (l.map encU16)[i]? = some (encU16 d) := by rw [List.getElem?_map, h]; rfl
theorem mod600 {d : Int} (h : 0 ≤ d) : 0 ≤ d.tmod 600 ∧ d.tmod 600 < 600 := by
 rw [Int.tmod_eq_emod_of_nonneg h]
 omega
theorem encU16_closed (n : Int) : ∀ x, x ∈ encU16 n → Closed x := closedL_cons (.val _) closedL_nil
theorem flt_comm (p q : Tmr → Bool) (l : List Tmr) : (l.filter p).filter q = (l.filter q).filter p := by
 rw [List.filter_filter, List.filter_filter]
 exact List.filter_congr (fun t _ => Bool.and_comm _ _)
theorem sortT_filt (p : Tmr → Bool) (l : List Tmr) : (sortT l).filter p = sortT (l.filter p) := by
 refine sorted_uniq (sorted_filter p (sortT_sorted l)) (sortT_sorted _) (fun d i => ?_)
 rw [sortT_filter, flt_comm, sortT_filter, flt_comm]
def cutK (kp : Int → Bool) (j : Int) (t : Tmr) : Bool := kp t.id || decide (j ≤ t.id)
theorem cutK_0 {kp : Int → Bool} {l : List Tmr} (h : ∀ t, t ∈ l → 0 ≤ t.id) : l.filter (cutK kp 0) = l := List.filter_eq_self.2 (fun t ht => by
 unfold cutK
 rw [decide_eq_true (h t ht)]
 exact Bool.or_true _)
theorem cutK_n {kp : Int → Bool} {l : List Tmr} {n : Int} (h : ∀ t, t ∈ l → t.id < n) : l.filter (cutK kp n) = l.filter (fun t => kp t.id) := List.filter_congr (fun t ht => by
 unfold cutK
 rw [decide_eq_false (by have := h t ht; omega)]
 exact Bool.or_false _)
theorem cutK_keep {kp : Int → Bool} {l : List Tmr} {j : Int} (h : kp j = true) : l.filter (cutK kp (j + 1)) = l.filter (cutK kp j) := List.filter_congr (fun t ht => by
 unfold cutK
 by_cases e : t.id = j
 ·rw [e, h]; rfl
 ·congr 1
  by_cases q : j + 1 ≤ t.id
  ·rw [decide_eq_true q, decide_eq_true (by omega)]
  ·rw [decide_eq_false q, decide_eq_false (by omega)])
theorem cutK_cut {kp : Int → Bool} {l : List Tmr} {j : Int} (h : kp j = false) (p : Tmr → Bool) : ((l.filter (cutK kp j)).filter p).filter (fun t => !idB j t) = (l.filter (cutK kp (j + 1))).filter p := by
 rw [List.filter_filter, List.filter_filter, List.filter_filter]
 refine List.filter_congr (fun t ht => ?_)
 unfold cutK idB
 by_cases e : t.id = j
 ·rw [e, h, decide_eq_false (show ¬ j + 1 ≤ j by omega), show (j == j) = true from beq_iff_eq.2 rfl]
  cases p t <;> rfl
 ·rw [show (t.id == j) = false from beq_eq_false_iff_ne.2 e]
  have : decide (j + 1 ≤ t.id) = decide (j ≤ t.id) := by
   by_cases q : j + 1 ≤ t.id
   ·rw [decide_eq_true q, decide_eq_true (by omega)]
   ·rw [decide_eq_false q, decide_eq_false (by omega)]
  rw [this]
  cases p t <;> cases kp t.id <;> cases decide (j ≤ t.id) <;> rfl
theorem any_id {N : Int} {kp : Int → Bool} {S : List Tmr} {dl : List Int} {j : Nat} {d : Int} {n : Int} (hd : dl[j]? = some d) (hS : ∀ t, t ∈ S → ∃ (i : Nat) (d : Int), dl[i]? = some d ∧ t = tmD N i d) (hin : tmD N j d ∈ S) : ((S.filter (cutK kp j)).filter (aftB (N + n))).any (idB j) = decide (n < 1 + d.tmod 600) := by
 have q : (tmD N j d).due = N + 1 + d.tmod 600 := rfl
 have qi : (tmD N j d).id = j := rfl
 by_cases h : n < 1 + d.tmod 600
 ·rw [decide_eq_true h, List.any_eq_true]
  refine ⟨tmD N j d, List.mem_filter.2 ⟨List.mem_filter.2 ⟨hin, ?_⟩, ?_⟩, ?_⟩
  ·unfold cutK
   rw [qi, decide_eq_true (Int.le_refl _)]
   exact Bool.or_true _
  ·unfold aftB
   rw [q]
   exact decide_eq_true (by omega)
  ·unfold idB
   rw [qi]
   exact beq_iff_eq.2 rfl
 ·rw [decide_eq_false h]
  refine Bool.eq_false_iff.2 (fun e => ?_)
  obtain ⟨t, ht, hi⟩ := List.any_eq_true.1 e
  obtain ⟨ht, ha⟩ := List.mem_filter.1 ht
  obtain ⟨ht, _⟩ := List.mem_filter.1 ht
  obtain ⟨i, d2, h1, h2⟩ := hS t ht
  unfold idB at hi
  have hi := beq_iff_eq.1 hi
  rw [h2] at hi
  have hi : ((i : Nat) : Int) = (j : Nat) := hi
  obtain rfl : i = j := by omega
  rw [hd] at h1
  obtain rfl := Option.some.inj h1
  unfold aftB at ha
  rw [h2, q] at ha
  have := of_decide_eq_true ha
  omega
attribute [local irreducible] Decidable.decide awp ARun regK toK
set_option maxHeartbeats 4000000 in
theorem same19_c (l : List Tmr) (hl : l.length ≤ 1000000) : FnC Try.prog 17 [encTs l, encTs l] (.val (.bool true)) := by
 have em : (((l.map encTm).length : Nat) : Int) = l.length := by rw [List.length_map]
 have d1 : ((((l.map encTm).length : Nat) : Int) != (((l.map encTm).length : Nat) : Int)) = false := by simp
 refine goF Try.func17 (closedL_cons (closed_ts l) (closedL_cons (closed_ts l) closedL_nil)) (fun w0 st0 => ?_)
 dsimp only [frOf]
 (repeat' (first | refine goA ?_ | refine goB ?_ | fail))
 refine awp_loopT (T := Nat × Nat) (fun t => ⟨[(0, encTs l), (1, encTs l), (5, .val (.int .i64 (t.1 : Nat)))], [], t.2⟩) (fun t => t.1 ≤ l.length) (fun t => l.length - t.1) (0, _) (Nat.zero_le _) ⟨⟨rfl, rfl, rfl, trivial⟩, trivial, Nat.le_refl _⟩ (fun t ht => ?_)
 obtain ⟨k, gc⟩ := t
 dsimp only at ht ⊢
 clear d1
 by_cases hlt : k < l.length
 ·have d2 : decide (((k : Nat) : Int) < ((l.map encTm).length : Nat)) = true := decide_eq_true (by omega)
  obtain ⟨y, hy⟩ : ∃ y, l[k]? = some y := ⟨_, List.getElem?_eq_getElem hlt⟩
  have hp : (l.map encTm)[((k : Nat) : Int).toNat]? = some (encTm y) := map_at hy
  have d3 := tm_refl y.id y.due y.each y.rank y.hand y.arg
  (repeat' (first | refine goA ?_ | refine ARun.indexAddr rfl rfl (by omega) (by with_reducible exact hp) rfl rfl rfl rfl rfl (guardF_spec rfl) ?_ | refine neX flatTm rfl rfl rfl rfl rfl ?_ | refine goB ?_ | fail))
  exact ⟨(k + 1, _), ⟨⟨rfl, rfl, rfl, trivial⟩, trivial, Nat.le_refl _⟩, hlt, (by dsimp only; omega)⟩
 ·have d2 : decide (((k : Nat) : Int) < ((l.map encTm).length : Nat)) = false := decide_eq_false (by omega)
  (repeat' (first | refine goA ?_ | refine goB ?_ | fail))
  exact awp_ret ⟨_, ResL.cons (ResA.tmp (.val _)) .nil, rfl⟩
end Go.Proofs.Ytfaclpcdeflgfaa
namespace Go.Proofs.Ytfaclpcdeflgfaa
open Go Go.RowKit
set_option maxRecDepth 100000
structure CutIn where
 n : Int
 dl : List Int
 c : Int
 a : Int
def encCut (x : CutIn) : List AV := [.val (.int .i64 x.n), .sl 1 false (x.dl.map encU16), .val (.int .u16 x.c), .val (.int .u16 x.a)]
theorem encCut_closed (x : CutIn) : ∀ y, y ∈ encCut x → Closed y := closedL_cons (.val _) (closedL_cons (closed_map encU16_closed) (closedL_cons (.val _) (closedL_cons (.val _) closedL_nil)))
def kB (c i : Int) : Bool := (shrV .i64 c i).tmod 2 == 0
theorem kB_1 {c i : Int} (hc : 0 ≤ c) : ((shrV .i64 c i).tmod 2 == 1) = !kB c i := by
 have h : 0 ≤ shrV .i64 c i := by
  unfold shrV
  exact Int.fdiv_nonneg hc (Int.le_of_lt (Int.pow_pos (by decide)))
 have h2 : (shrV .i64 c i).tmod 2 = 0 ∨ (shrV .i64 c i).tmod 2 = 1 := by
  rw [Int.tmod_eq_emod_of_nonneg h]
  omega
 unfold kB
 rcases h2 with e | e <;> rw [e] <;> rfl
theorem tick_p {w : Wh} {L : List Tmr} {N : Int} {k : Nat} (hR : WR w (L.filter (aftB (N + (k : Nat))))) (hnow : w.now = N + (k : Nat)) (hl : (L.filter (aftB (N + (k : Nat)))).length < 20) (hN : N ≤ 2305843009213693952) (hk : k < 610) : FnC Try.prog 15 [.agg (encWh w)] (.tup [.agg (encWh (tickW w)), encTs (L.filter (dueB (N + ((k + 1 : Nat) : Int))))]) ∧ WR (tickW w) (L.filter (aftB (N + ((k + 1 : Nat) : Int)))) ∧ (tickW w).now = N + ((k + 1 : Nat) : Int) := by
 have c4 := tick_s sort20 hR hl
 have hX := hR.tick (by omega)
 have en := tick_now hR
 rw [hnow] at c4 hX en
 rw [aft_next] at hX
 rw [aft_out] at c4
 rw [show N + (k : Nat) + 1 = N + ((k + 1 : Nat) : Int) by omega] at hX en c4
 exact ⟨c4, hX, en⟩
attribute [local irreducible] Decidable.decide awp ARun regK toK zW zBig28 dueB
set_option maxHeartbeats 32000000 in
theorem cuts19_c (x : CutIn) (hn : In64 x.n) (hc : 0 ≤ x.c ∧ x.c ≤ 65535) (ha : 0 ≤ x.a ∧ x.a ≤ 65535) (hdl : ∀ d, d ∈ x.dl → 0 ≤ d ∧ d ≤ 65535) : FnC Try.prog 7 [.agg (encCut x)] (.val (.bool true)) := by
 obtain ⟨N, dl, c, a⟩ := x
 dsimp only at hn hc ha hdl
 have c0 := shown19_c
 have lz := zW_len
 have z1 : ((0 : Int) != 0) = false := by simp
 have z2 : ((-24 : Int) != 0) = true := by simp
 have em : (((dl.map encU16).length : Nat) : Int) = dl.length := by rw [List.length_map]
 by_cases h12 : 12 < dl.length
 ·have d1 : decide ((12 : Int) < ((dl.map encU16).length : Nat)) = true := decide_eq_true (by omega)
  refine goF Try.func7 (closedL_cons (.agg (encCut_closed _)) closedL_nil) (fun w0 st0 => ?_)
  dsimp only [frOf]
  (repeat' (first | refine goA ?_ | refine cX c0 ?_ | refine goB ?_ | fail))
  exact awp_ret ⟨_, ResL.cons (ResA.tmp (.val _)) .nil, rfl⟩
 have d1 : decide ((12 : Int) < ((dl.map encU16).length : Nat)) = false := decide_eq_false (by omega)
 by_cases h : 0 ≤ N ∧ N ≤ 2305843009213693952
 case neg =>
  have c1 := new_no h
  have lw : (encWh (wNew 0)).length = 1025 := (new_yes (n := 0) (by omega)).2.len
  generalize encWh (wNew 0) = W at *
  refine goF Try.func7 (closedL_cons (.agg (encCut_closed _)) closedL_nil) (fun w0 st0 => ?_)
  dsimp only [frOf]
  (repeat' (first | refine storeW (t := 28) rfl rfl rfl rfl rfl (by assumption) (by assumption) rfl rfl ?_ | refine loadW (t := 28) rfl rfl rfl rfl rfl (by assumption) rfl rfl ?_ | refine allocW (t := 28) rfl zall zW_eq zW_len rfl rfl rfl ?_ | refine goA ?_ | refine cX c0 ?_ | refine cX c1 ?_ | refine goB ?_ | fail))
  exact awp_ret ⟨_, ResL.cons (ResA.tmp (.val _)) .nil, rfl⟩
 obtain ⟨c1, hw⟩ := new_yes h
 have hwn : (wNew N).now = N := rfl
 have lw := hw.len
 have hm6 := mod600 ha.1
 obtain ⟨A, hA⟩ : ∃ A : Nat, a.tmod 600 = (A : Nat) := ⟨(a.tmod 600).toNat, by omega⟩
 have hst := tms_strict N dl
 have htl := tmsF_len N dl 0
 have hta := tmsF_at N dl 0
 have htm : ∀ t, t ∈ tmsF N 0 dl → ∃ (i : Nat) (d : Int), dl[i]? = some d ∧ t = tmD N i d := fun t ht => tmsF_mem ht
 generalize wNew N = wn at *
 generalize hT : tmsF N 0 dl = T at *
 clear hT
 refine goF Try.func7 (closedL_cons (.agg (encCut_closed _)) closedL_nil) (fun w0 st0 => ?_)
 dsimp only [frOf]
 (repeat' (first | refine storeW (t := 28) rfl rfl rfl rfl rfl (by assumption) (by assumption) rfl rfl ?_ | refine loadW (t := 28) rfl rfl rfl rfl rfl (by assumption) rfl rfl ?_ | refine allocW (t := 28) rfl zall zW_eq zW_len rfl rfl rfl ?_ | refine goA ?_ | refine cX c0 ?_ | refine cX c1 ?_ | refine goB ?_ | fail))
 refine awp_loopT (T := Nat × Wh × Wh × Nat × Nat × Nat) (fun t => ⟨[(3, .val (.int .i64 N)), (4, .sl 1 false (dl.map encU16)), (5, .val (.int .u16 c)), (6, .val (.int .u16 a)), (7, .val (.bool true)), (8, .ptr 8 t.2.2.2.1 0 0), (10, .ptr 10 t.2.2.2.2.1 0 0), (12, .val (.int .i64 (t.1 : Nat)))], [(8, some ⟨t.2.2.2.1, 1025, [encWh t.2.1]⟩), (10, some ⟨t.2.2.2.2.1, 1025, [encWh t.2.2.1]⟩)], t.2.2.2.2.2⟩) (fun t => t.1 ≤ dl.length ∧ WR t.2.1 (sortT (T.take t.1)) ∧ t.2.1.now = N ∧ WR t.2.2.1 (sortT ((T.take t.1).filter (fun t => kB c t.id))) ∧ t.2.2.1.now = N) (fun t => dl.length - t.1) (0, wn, wn, _, _, _) ⟨Nat.zero_le _, hw, hwn, hw, hwn⟩ ⟨⟨rfl, rfl, rfl, rfl, rfl, rfl, rfl, rfl, trivial⟩, ⟨rfl, rfl, trivial⟩, Nat.le_refl _⟩ (fun t ht => ?_)
 obtain ⟨i, wa, wb, Ga, Gb, gc⟩ := t
 dsimp only at ht ⊢
 obtain ⟨hi, hR, hnow, hRb, hnowb⟩ := ht
 clear c0 c1 hw hwn lw
 have lw := hR.len
 have lwb := hRb.len
 by_cases hlt : i < dl.length
 ·have d3 : decide (((i : Nat) : Int) < ((dl.map encU16).length : Nat)) = true := decide_eq_true (by omega)
  obtain ⟨d, hd⟩ : ∃ d, dl[i]? = some d := ⟨_, List.getElem?_eq_getElem hlt⟩
  have hd0 := hdl d (List.mem_of_getElem? hd)
  have hd6 := mod600 hd0.1
  have hp : (dl.map encU16)[((i : Nat) : Int).toNat]? = some (encU16 d) := get16 hd
  have hx := hta i d hd
  rw [Nat.zero_add] at hx
  have e1 := take_succ' hx
  have c2 := add_s hR (tmD N i d) (by rw [hnow]; show N < N + 1 + d.tmod 600; omega) (by rw [hnow]; show N + 1 + d.tmod 600 < N + 4294967296; omega)
  have hX := hR.add (t := tmD N i d) (by rw [hnow]; show N < N + 1 + d.tmod 600; omega) (by rw [hnow]; show N + 1 + d.tmod 600 < N + 4294967296; omega) (by rw [sortT_len, List.length_take]; omega)
  rw [← sortT_snoc, ← e1] at hX
  have hnx : (putD wa (tmD N i d)).now = N := hnow
  have lx := hX.len
  generalize putD wa (tmD N i d) = X at *
  by_cases hk : kB c ((i : Nat) : Int) = true
  ·have d4 : ((shrV .i64 c ((i : Nat) : Int)).tmod 2 == 0) = true := hk
   have c3 := add_s hRb (tmD N i d) (by rw [hnowb]; show N < N + 1 + d.tmod 600; omega) (by rw [hnowb]; show N + 1 + d.tmod 600 < N + 4294967296; omega)
   have hY := hRb.add (t := tmD N i d) (by rw [hnowb]; show N < N + 1 + d.tmod 600; omega) (by rw [hnowb]; show N + 1 + d.tmod 600 < N + 4294967296; omega) (by rw [sortT_len]; have := List.length_filter_le (fun t => kB c t.id) (T.take i); rw [List.length_take] at this; omega)
   have e2 : (T.take (i + 1)).filter (fun t => kB c t.id) = (T.take i).filter (fun t => kB c t.id) ++ [tmD N i d] := by
    rw [e1, List.filter_append, List.filter_cons, if_pos (by exact hk)]
    rfl
   rw [← sortT_snoc, ← e2] at hY
   have hny : (putD wb (tmD N i d)).now = N := hnowb
   have ly := hY.len
   generalize putD wb (tmD N i d) = Y at *
   (repeat' (first | refine storeW (t := 28) rfl rfl rfl rfl rfl (by assumption) (by assumption) rfl rfl ?_ | refine loadW (t := 28) rfl rfl rfl rfl rfl (by assumption) rfl rfl ?_ | refine allocW (t := 28) rfl zall zW_eq zW_len rfl rfl rfl ?_ | refine goA ?_ | refine ARun.indexAddr rfl rfl (by omega) (by with_reducible exact hp) rfl rfl rfl rfl rfl (guardF_spec rfl) ?_ | refine cX c2 ?_ | refine cX c3 ?_ | refine goB ?_ | fail))
   exact ⟨(i + 1, X, Y, Ga, Gb, _), ⟨⟨rfl, rfl, rfl, rfl, rfl, rfl, rfl, rfl, trivial⟩, ⟨rfl, rfl, trivial⟩, Nat.le_refl _⟩, ⟨hlt, hX, hnx, hY, hny⟩, (by dsimp only; omega)⟩
  ·have hk2 := Bool.eq_false_iff.2 hk
   have d4 : ((shrV .i64 c ((i : Nat) : Int)).tmod 2 == 0) = false := hk2
   have e2 : (T.take (i + 1)).filter (fun t => kB c t.id) = (T.take i).filter (fun t => kB c t.id) := by
    rw [e1, List.filter_append, List.filter_cons, if_neg (by exact hk)]
    exact List.append_nil _
   rw [← e2] at hRb
   (repeat' (first | refine storeW (t := 28) rfl rfl rfl rfl rfl (by assumption) (by assumption) rfl rfl ?_ | refine loadW (t := 28) rfl rfl rfl rfl rfl (by assumption) rfl rfl ?_ | refine allocW (t := 28) rfl zall zW_eq zW_len rfl rfl rfl ?_ | refine goA ?_ | refine ARun.indexAddr rfl rfl (by omega) (by with_reducible exact hp) rfl rfl rfl rfl rfl (guardF_spec rfl) ?_ | refine cX c2 ?_ | refine goB ?_ | fail))
   exact ⟨(i + 1, X, wb, Ga, Gb, _), ⟨⟨rfl, rfl, rfl, rfl, rfl, rfl, rfl, rfl, trivial⟩, ⟨rfl, rfl, trivial⟩, Nat.le_refl _⟩, ⟨hlt, hX, hnx, hRb, hnowb⟩, (by dsimp only; omega)⟩
 have d3 : decide (((i : Nat) : Int) < ((dl.map encU16).length : Nat)) = false := decide_eq_false (by omega)
 rw [List.take_of_length_le (by omega)] at hR hRb
 have hSl : (sortT T).length = dl.length := by rw [sortT_len, htl]
 have hSm : ∀ t, t ∈ sortT T → ∃ (i : Nat) (d : Int), dl[i]? = some d ∧ t = tmD N i d := fun t ht => htm t (mem_sortT.1 ht)
 have hSi : ∀ (i : Nat) (d : Int), dl[i]? = some d → tmD N i d ∈ sortT T := fun i d h => mem_sortT.2 (by have := hta i d h; rw [Nat.zero_add] at this; exact List.mem_of_getElem? this)
 rw [← sortT_filt] at hRb
 generalize sortT T = S at *
 clear hst htl hta htm
 have hS0 : ∀ p : Tmr → Bool, (S.filter p).filter (aftB N) = S.filter p := fun p => List.filter_eq_self.2 (fun t ht => by
  obtain ⟨j, d, h1, h2⟩ := hSm t (List.mem_filter.1 ht).1
  have := mod600 (hdl d (List.mem_of_getElem? h1)).1
  unfold aftB
  rw [h2]
  exact decide_eq_true (by show N < N + 1 + d.tmod 600; omega))
 have hS1 : S.filter (cutK (kB c) 0) = S := cutK_0 (fun t ht => by
  obtain ⟨j, d, h1, h2⟩ := hSm t ht
  rw [h2]
  show (0 : Int) ≤ (j : Nat)
  omega)
 have hSn : S.filter (cutK (kB c) (dl.length : Nat)) = S.filter (fun t => kB c t.id) := cutK_n (fun t ht => by
  obtain ⟨j, d, h1, h2⟩ := hSm t ht
  have := (List.getElem?_eq_some_iff.1 h1).1
  rw [h2]
  show ((j : Nat) : Int) < (dl.length : Nat)
  omega)
 have hSf : ∀ p : Tmr → Bool, ∀ q : Tmr → Bool, ((S.filter p).filter q).length < 20 := fun p q => by
  have h1 := List.length_filter_le p S
  have h2 := List.length_filter_le q (S.filter p)
  omega
 (repeat' (first | refine goA ?_ | refine goB ?_ | fail))
 refine awp_loopT (T := Nat × Wh × Wh × Nat) (fun t => ⟨[(3, .val (.int .i64 N)), (4, .sl 1 false (dl.map encU16)), (5, .val (.int .u16 c)), (6, .val (.int .u16 a)), (7, .val (.bool true)), (8, .ptr 8 Ga 0 0), (10, .ptr 10 Gb 0 0), (16, .val (.int .i64 (t.1 : Nat)))], [(8, some ⟨Ga, 1025, [encWh t.2.1]⟩), (10, some ⟨Gb, 1025, [encWh t.2.2.1]⟩)], t.2.2.2⟩) (fun t => t.1 ≤ 610 ∧ WR t.2.1 ((S.filter (if t.1 ≤ A then cutK (kB c) 0 else fun t => kB c t.id)).filter (aftB (N + (t.1 : Nat)))) ∧ t.2.1.now = N + (t.1 : Nat) ∧ WR t.2.2.1 ((S.filter (fun t => kB c t.id)).filter (aftB (N + (t.1 : Nat)))) ∧ t.2.2.1.now = N + (t.1 : Nat)) (fun t => 610 - t.1) (0, wa, wb, _) ⟨Nat.zero_le _, by dsimp only; rw [if_pos (Nat.zero_le _), show N + ((0 : Nat) : Int) = N by omega, hS0, hS1]; exact hR, by dsimp only; omega, by dsimp only; rw [show N + ((0 : Nat) : Int) = N by omega, hS0]; exact hRb, by dsimp only; omega⟩ ⟨⟨rfl, rfl, rfl, rfl, rfl, rfl, rfl, rfl, trivial⟩, ⟨rfl, rfl, trivial⟩, Nat.le_refl _⟩ (fun t ht => ?_)
 obtain ⟨k, wa2, wb2, gc2⟩ := t
 dsimp only at ht ⊢
 obtain ⟨hk, hR2, hnow2, hRb2, hnowb2⟩ := ht
 clear hR hnow hRb hnowb lw lwb hi d1 d3
 have lw := hR2.len
 have lwb := hRb2.len
 by_cases hlk : k < 610
 ·have d4 : decide (((k : Nat) : Int) < 610) = true := decide_eq_true (by omega)
  by_cases hka : k < A
  ·have d5 : (((k : Nat) : Int) == a.tmod 600) = false := beq_eq_false_iff_ne.2 (by omega)
   have d6 : decide (a.tmod 600 ≤ ((k : Nat) : Int)) = false := decide_eq_false (by omega)
   rw [if_pos (by omega)] at hR2
   obtain ⟨c4, hX, hnx⟩ := tick_p hR2 hnow2 (hSf _ _) h.2 hlk
   obtain ⟨c5, hY, hny⟩ := tick_p hRb2 hnowb2 (hSf _ _) h.2 hlk
   have lx := hX.len
   have ly := hY.len
   generalize tickW wa2 = X at *
   generalize tickW wb2 = Y at *
   (repeat' (first | refine storeW (t := 28) rfl rfl rfl rfl rfl (by assumption) (by assumption) rfl rfl ?_ | refine loadW (t := 28) rfl rfl rfl rfl rfl (by assumption) rfl rfl ?_ | refine allocW (t := 28) rfl zall zW_eq zW_len rfl rfl rfl ?_ | refine goA ?_ | refine cX c4 ?_ | refine cX c5 ?_ | refine goB ?_ | fail))
   refine ⟨(k + 1, X, Y, _), ⟨⟨rfl, rfl, rfl, rfl, rfl, rfl, rfl, rfl, trivial⟩, ⟨rfl, rfl, trivial⟩, Nat.le_refl _⟩, ⟨hlk, ?_, hnx, hY, hny⟩, (by dsimp only; omega)⟩
   dsimp only
   rw [if_pos (by omega)]
   exact hX
  by_cases hka2 : A < k
  ·have d5 : (((k : Nat) : Int) == a.tmod 600) = false := beq_eq_false_iff_ne.2 (by omega)
   have d6 : decide (a.tmod 600 ≤ ((k : Nat) : Int)) = true := decide_eq_true (by omega)
   rw [if_neg (by omega)] at hR2
   obtain ⟨c4, hX, hnx⟩ := tick_p hR2 hnow2 (hSf _ _) h.2 hlk
   obtain ⟨c5, hY, hny⟩ := tick_p hRb2 hnowb2 (hSf _ _) h.2 hlk
   have lx := hX.len
   have ly := hY.len
   have c6 := same19_c ((S.filter (fun t => kB c t.id)).filter (dueB (N + ((k + 1 : Nat) : Int)))) (by have := hSf (fun t => kB c t.id) (dueB (N + ((k + 1 : Nat) : Int))); omega)
   have d7 : (!true) = false := rfl
   generalize tickW wa2 = X at *
   generalize tickW wb2 = Y at *
   (repeat' (first | refine storeW (t := 28) rfl rfl rfl rfl rfl (by assumption) (by assumption) rfl rfl ?_ | refine loadW (t := 28) rfl rfl rfl rfl rfl (by assumption) rfl rfl ?_ | refine allocW (t := 28) rfl zall zW_eq zW_len rfl rfl rfl ?_ | refine goA ?_ | refine cX c4 ?_ | refine cX c5 ?_ | refine cX c6 ?_ | refine goB ?_ | fail))
   refine ⟨(k + 1, X, Y, _), ⟨⟨rfl, rfl, rfl, rfl, rfl, rfl, rfl, rfl, trivial⟩, ⟨rfl, rfl, trivial⟩, Nat.le_refl _⟩, ⟨hlk, ?_, hnx, hY, hny⟩, (by dsimp only; omega)⟩
   dsimp only
   rw [if_neg (by omega)]
   exact hX
  obtain rfl : A = k := by omega
  have d5 : (((A : Nat) : Int) == a.tmod 600) = true := beq_iff_eq.2 hA.symm
  have d6 : decide (a.tmod 600 ≤ ((A : Nat) : Int)) = true := decide_eq_true (by omega)
  rw [if_pos (Nat.le_refl _)] at hR2
  (repeat' (first | refine goA ?_ | refine goB ?_ | fail))
  refine awp_loopT (T := Nat × Wh × Nat) (fun t => ⟨[(3, .val (.int .i64 N)), (4, .sl 1 false (dl.map encU16)), (5, .val (.int .u16 c)), (6, .val (.int .u16 a)), (7, .val (.bool true)), (8, .ptr 8 Ga 0 0), (10, .ptr 10 Gb 0 0), (16, .val (.int .i64 (A : Nat))), (17, .val (.int .i64 (t.1 : Nat)))], [(8, some ⟨Ga, 1025, [encWh t.2.1]⟩), (10, some ⟨Gb, 1025, [encWh wb2]⟩)], t.2.2⟩) (fun t => t.1 ≤ dl.length ∧ WR t.2.1 ((S.filter (cutK (kB c) (t.1 : Nat))).filter (aftB (N + (A : Nat)))) ∧ t.2.1.now = N + (A : Nat)) (fun t => dl.length - t.1) (0, wa2, _) ⟨Nat.zero_le _, hR2, hnow2⟩ ⟨⟨rfl, rfl, rfl, rfl, rfl, rfl, rfl, rfl, rfl, trivial⟩, ⟨rfl, rfl, trivial⟩, Nat.le_refl _⟩ (fun t ht => ?_)
  clear hR2 hnow2 lw
  obtain ⟨j, wa2, gc3⟩ := t
  dsimp only at ht ⊢
  obtain ⟨hj, hR2, hnow2⟩ := ht
  have lw := hR2.len
  by_cases hlj : j < dl.length
  ·have d3 : decide (((j : Nat) : Int) < ((dl.map encU16).length : Nat)) = true := decide_eq_true (by omega)
   obtain ⟨d, hd⟩ : ∃ d, dl[j]? = some d := ⟨_, List.getElem?_eq_getElem hlj⟩
   have hd0 := hdl d (List.mem_of_getElem? hd)
   have hd6 := mod600 hd0.1
   have hp : (dl.map encU16)[((j : Nat) : Int).toNat]? = some (encU16 d) := get16 hd
   by_cases hkb : kB c ((j : Nat) : Int) = true
   ·have d7 : ((shrV .i64 c ((j : Nat) : Int)).tmod 2 == 1) = false := by rw [kB_1 hc.1, hkb]; rfl
    (repeat' (first | refine storeW (t := 28) rfl rfl rfl rfl rfl (by assumption) (by assumption) rfl rfl ?_ | refine loadW (t := 28) rfl rfl rfl rfl rfl (by assumption) rfl rfl ?_ | refine allocW (t := 28) rfl zall zW_eq zW_len rfl rfl rfl ?_ | refine goA ?_ | refine ARun.indexAddr rfl rfl (by omega) (by with_reducible exact hp) rfl rfl rfl rfl rfl (guardF_spec rfl) ?_ | refine goB ?_ | fail))
    refine ⟨(j + 1, wa2, _), ⟨⟨rfl, rfl, rfl, rfl, rfl, rfl, rfl, rfl, rfl, trivial⟩, ⟨rfl, rfl, trivial⟩, Nat.le_refl _⟩, ⟨hlj, ?_, hnow2⟩, (by dsimp only; omega)⟩
    dsimp only
    rw [show ((j + 1 : Nat) : Int) = (j : Nat) + 1 by omega, cutK_keep hkb]
    exact hR2
   ·have hk2 := Bool.eq_false_iff.2 hkb
    have d7 : ((shrV .i64 c ((j : Nat) : Int)).tmod 2 == 1) = true := by rw [kB_1 hc.1, hk2]; rfl
    have c4 := cut_s hR2 ((j : Nat) : Int)
    have hX := hR2.cut ((j : Nat) : Int)
    have hnx : (cutW wa2 ((j : Nat) : Int)).now = N + (A : Nat) := hnow2
    rw [any_id hd hSm (hSi j d hd)] at c4
    rw [cutK_cut hk2, show ((j : Nat) : Int) + 1 = ((j + 1 : Nat) : Int) by omega] at hX
    have lx := hX.len
    have d8 : (decide (((A : Nat) : Int) < 1 + d.tmod 600) != decide (((A : Nat) : Int) < 1 + d.tmod 600)) = false := by simp
    generalize cutW wa2 ((j : Nat) : Int) = X at *
    (repeat' (first | refine storeW (t := 28) rfl rfl rfl rfl rfl (by assumption) (by assumption) rfl rfl ?_ | refine loadW (t := 28) rfl rfl rfl rfl rfl (by assumption) rfl rfl ?_ | refine allocW (t := 28) rfl zall zW_eq zW_len rfl rfl rfl ?_ | refine goA ?_ | refine ARun.indexAddr rfl rfl (by omega) (by with_reducible exact hp) rfl rfl rfl rfl rfl (guardF_spec rfl) ?_ | refine cX c4 ?_ | refine goB ?_ | fail))
    exact ⟨(j + 1, X, _), ⟨⟨rfl, rfl, rfl, rfl, rfl, rfl, rfl, rfl, rfl, trivial⟩, ⟨rfl, rfl, trivial⟩, Nat.le_refl _⟩, ⟨hlj, hX, hnx⟩, (by dsimp only; omega)⟩
  have d3 : decide (((j : Nat) : Int) < ((dl.map encU16).length : Nat)) = false := decide_eq_false (by omega)
  obtain rfl : j = dl.length := by omega
  rw [hSn] at hR2
  obtain ⟨c4, hX, hnx⟩ := tick_p hR2 hnow2 (hSf _ _) h.2 hlk
  obtain ⟨c5, hY, hny⟩ := tick_p hRb2 hnowb2 (hSf _ _) h.2 hlk
  have lx := hX.len
  have ly := hY.len
  have c6 := same19_c ((S.filter (fun t => kB c t.id)).filter (dueB (N + ((A + 1 : Nat) : Int)))) (by have := hSf (fun t => kB c t.id) (dueB (N + ((A + 1 : Nat) : Int))); omega)
  have d7 : (!true) = false := rfl
  generalize tickW wa2 = X at *
  generalize tickW wb2 = Y at *
  (repeat' (first | refine storeW (t := 28) rfl rfl rfl rfl rfl (by assumption) (by assumption) rfl rfl ?_ | refine loadW (t := 28) rfl rfl rfl rfl rfl (by assumption) rfl rfl ?_ | refine allocW (t := 28) rfl zall zW_eq zW_len rfl rfl rfl ?_ | refine goA ?_ | refine cX c4 ?_ | refine cX c5 ?_ | refine cX c6 ?_ | refine goB ?_ | fail))
  refine ⟨(A + 1, X, Y, _), ⟨⟨rfl, rfl, rfl, rfl, rfl, rfl, rfl, rfl, trivial⟩, ⟨rfl, rfl, trivial⟩, Nat.le_refl _⟩, ⟨hlk, ?_, hnx, hY, hny⟩, (by dsimp only; omega)⟩
  dsimp only
  rw [if_neg (by omega)]
  exact hX
 have d4 : decide (((k : Nat) : Int) < 610) = false := decide_eq_false (by omega)
 obtain rfl : k = 610 := by omega
 have hnil : ∀ p : Tmr → Bool, (S.filter p).filter (aftB (N + ((610 : Nat) : Int))) = [] := fun p => flt_no (fun t ht => by
  obtain ⟨j, d, h1, h2⟩ := hSm t (List.mem_filter.1 ht).1
  have := mod600 (hdl d (List.mem_of_getElem? h1)).1
  unfold aftB
  rw [h2]
  exact decide_eq_false (by show ¬ (N + ((610 : Nat) : Int) < N + 1 + d.tmod 600); omega))
 rw [hnil] at hR2
 have c4 := all_s sort20 hR2 (by show 0 < 20; omega)
 have f2 : (((((([] : List Tmr).map encTm).length : Nat) : Int)) == 0) = true := beq_iff_eq.2 rfl
 have f1 : (wa2.now == N + 610) = true := beq_iff_eq.2 hnow2
 have f3 : (wb2.now == N + 610) = true := beq_iff_eq.2 hnowb2
 (repeat' (first | refine storeW (t := 28) rfl rfl rfl rfl rfl (by assumption) (by assumption) rfl rfl ?_ | refine loadW (t := 28) rfl rfl rfl rfl rfl (by assumption) rfl rfl ?_ | refine allocW (t := 28) rfl zall zW_eq zW_len rfl rfl rfl ?_ | refine goA ?_ | refine cX c4 ?_ | refine goB ?_ | fail))
 (refine awp_ret ⟨_, ResL.cons (ResA.tmp (.val _)) .nil, congrArg (fun b => AV.val (.bool b)) ?_⟩; first | rfl | (symm; assumption) | assumption | (symm; exact beq_int _))
end Go.Proofs.Ytfaclpcdeflgfaa
namespace Go.Proofs.Ytfaclpcdeflgfaa
open Go Go.RowKit Go.ChangeShapes Go.WideShapes Go.Deep Go.Proofs.Ytfaclpcdeflgfaa
set_option maxRecDepth 100000
theorem wheelCuts_lifted (os : Os) (started : os.Started) (H : Type) (enc : TypeId × Value → H) :
  ReturnsInHanded {} Try.checked os 7 .any (Rows.wheelCutsSpec.pre6 enc Try.prog Try.f7 Rows.wheelCutsRow.domain false) (Rows.wheelCutsSpec.post enc Try.prog Try.f7 false true false false) := by
 refine returnsInHanded_of_change (C := Try.checked) own_knob started (by kernel_rfl) Try.func7
  (ChangeSpec.witness6 (enc := enc) (C := Try.checked) false ⟨#[], #[.agg #[.int .i64 0, .slice none 0 0, .int .u16 0, .int .u16 0]], []⟩ 12 (by kernel_rfl) (by kernel_rfl) (by kernel_rfl) (by kernel_rfl)) ?_
 intro W base args ds gs before hval0 hW hcnd _
 have hval : ∀ (j : Nat) t v, Try.f7.params[j]? = some t → args[j]? = some v → Value.okWide Try.prog W .any base t v := hval0
 have hW' := hW
 obtain ⟨p, q, hA0, hV, rfl, hfz, hnd⟩ := hW
 have hA : DataW.TrodAll enc Try.prog W 0 (fun _ => true) true Try.f7.params.toList args.toList ds p := hA0
 rw [Try.params7] at hA hval
 obtain ⟨v0, vs0, d0, ds0, p0, q0, hargs, rfl, rfl, h0, r0⟩ := trodAll_cons hA
 obtain ⟨rfl, rfl, rfl⟩ := trodAll_nil r0
 obtain rfl : args = #[v0] := by cases args; simp_all
 obtain ⟨rfl, rfl⟩ := trodVars_none hV
 have k0 := h0
 have lt0 : ∀ x ∈ p0, x.block < W.heap.size := by obtain ⟨m, hm⟩ := k0; exact DataW.trod_lt m _ _ _ hm
 obtain ⟨y0, rep0, hy0⟩ := arg_struct Try.underlying62 (hval 0 62 v0 rfl rfl) h0 ((opens_struct Try.underlying62 (by kernel_rfl) (OpensFs.cons (sz := 1) rfl (by kernel_rfl) opens_i (OpensFs.cons (sz := 1) rfl (by kernel_rfl) opens_dl (OpensFs.cons (sz := 1) rfl (by kernel_rfl) (opens_u16 Try.underlying36) (OpensFs.cons (sz := 1) rfl (by kernel_rfl) (opens_u16 Try.underlying36) OpensFs.nil))))).map (enc' := encCut) (Q' := fun x => In64 x.n ∧ (0 ≤ x.c ∧ x.c ≤ 65535) ∧ (0 ≤ x.a ∧ x.a ≤ 65535) ∧ ∀ d, d ∈ x.dl → 0 ≤ d ∧ d ≤ 65535) (fun y => (⟨y.1, y.2.1, y.2.2.1, y.2.2.2.1⟩ : CutIn)) (fun _ _ => rfl) (fun _ h => ⟨h.1, h.2.2.1, h.2.2.2.1, h.2.1⟩))
 clear hA0 hval0
 refine ((cuts19_c y0 hy0.1 hy0.2.1 hy0.2.2.1 hy0.2.2.2).law (us := [v0]) rfl (fun i x u hx hu => by
  cases i with
  | zero => simp only [List.getElem?_cons_zero, Option.some.injEq] at hx hu; rw [← hx, ← hu]; exact rep0
  | succ i =>
   simp only [List.getElem?_cons_succ] at hx hu
   simp at hx)).mono fun e W' ⟨he, bel⟩ => ?_
 subst he
 exact ⟨_, rfl, _, _, _, [], _, [], hW', trodAll_mk1 (shut_bool Try.underlying4 _), (trodAll_cons_mk (Below.trod laid_out (by kernel_rfl) (of_decide_eq_true (by kernel_rfl)) k0 bel lt0) trodAll_mk0), rfl, bel.frame _, fun h => by cases h⟩
theorem wheelCuts_holds : Rows.WheelCutsSaid :=
 OpenClaim.holds_of_wide 7 Try.f7 rfl rfl rfl rfl rfl rfl rfl ⟨rfl, rfl, rfl, rfl, rfl⟩ rfl rfl rfl rfl rfl (by kernel_rfl) Try.func7 (by kernel_rfl)
  (of_decide_eq_true (by kernel_rfl)) (by unfold Func.isWrapper; first | (rw [if_pos (by decide +kernel)]; kernel_rfl) | (rw [if_neg (by decide +kernel)]; exact ⟨rfl, rfl⟩))
  (fun os started H enc _ => wheelCuts_lifted os started H enc)
#print axioms wheelCuts_holds
end Go.Proofs.Ytfaclpcdeflgfaa
