/- WheelTells returns true at every input, and leaves its arguments as they were. -/
import Derived.Test.YtfaclpcdeflgfaaW1
import Derived.Test.YtfaclpcdeflgfaaW2
import Derived.Test.YtfaclpcdeflgfaaW3
import Derived.Test.YtfaclpcdeflgfaaW4
import Derived.Test.YtfaclpcdeflgfaawW5
import Derived.Test.YtfaclpcdeflgfaawW6
import Derived.Test.YtfaclpcdeflgfaawW7
import Derived.Test.YtfaclpcdeflgfaawW8
import Derived.Test.YtfaclpcdeflgfaawW9
import Derived.Test.YtfaclpcdeflgfaawW10
import Derived.Test.YtfaclpcdeflgfaawW11
import Derived.Test.YtfaclpcdeflgfaawW12
import Derived.Test.YtfaclpcdeflgfaawW13
import Derived.Test.YtfaclpcdeflgfaawW14
import Derived.Test.YtfaclpcdeflgfaawW15
set_option linter.unusedVariables false
set_option linter.unusedSimpArgs false
namespace Go.Proofs.Ytfaclpcdeflgfaa
open Go Go.RowKit
set_option maxRecDepth 100000
structure ActT where
 k : Int
 d : Int
 i : Int
 n : Int
def encAct (x : ActT) : List AV := [.val (.int .u8 x.k), .val (.int .i64 x.d), .val (.int .i64 x.i), .val (.int .u16 x.n)]
theorem encAct_closed (x : ActT) : ∀ y, y ∈ encAct x → Closed y := closedL_cons (.val _) (closedL_cons (.val _) (closedL_cons (.val _) (closedL_cons (.val _) closedL_nil)))
theorem act_at {l : List ActT} {i : Nat} {x : ActT} (h : l[i]? = some x) : (l.map encAct)[i]? = some (encAct x) := by rw [List.getElem?_map, h]; rfl
attribute [local irreducible] Decidable.decide awp ARun regK toK zW zBig28 dueB
set_option maxHeartbeats 32000000 in
theorem tells19_c (n : Int) (acts : List ActT) (hn : In64 n) (ha : ∀ a, a ∈ acts → (0 ≤ a.k ∧ a.k ≤ 255) ∧ In64 a.d ∧ In64 a.i ∧ (0 ≤ a.n ∧ a.n ≤ 65535)) : FnC Try.prog 3 [.val (.int .i64 n), .sl 4 false (acts.map encAct)] (.val (.bool true)) := by
 have c0 := shown19_c
 have lz := zW_len
 have em : (((acts.map encAct).length : Nat) : Int) = acts.length := by rw [List.length_map]
 have z1 : ((0 : Int) != 0) = false := by simp
 have z2 : ((-24 : Int) != 0) = true := by simp
 have z3 : ((-24 : Int) != -24) = false := by simp
 have z5 : ((0 : Int) == 0) = true := by simp
 by_cases h25 : 25 < acts.length
 ·have d1 : decide ((25 : Int) < ((acts.map encAct).length : Nat)) = true := decide_eq_true (by omega)
  refine goF Try.func3 (closedL_cons (.val _) (closedL_cons (closed_map encAct_closed) closedL_nil)) (fun w0 st0 => ?_)
  dsimp only [frOf]
  (repeat' (first | refine goA ?_ | refine cX c0 ?_ | refine goB ?_ | fail))
  exact awp_ret ⟨_, ResL.cons (ResA.tmp (.val _)) .nil, rfl⟩
 have d1 : decide ((25 : Int) < ((acts.map encAct).length : Nat)) = false := decide_eq_false (by omega)
 by_cases h : 0 ≤ n ∧ n ≤ 2305843009213693952
 case neg =>
  have c1 := new_no h
  have c2 := ref_new_no h
  have lw : (encWh (wNew 0)).length = 1025 := (new_yes (n := 0) (by omega)).2.len
  have n5 := now0 (wNew 0)
  have e5 : (wNew 0).now = 0 := rfl
  rw [e5] at n5
  generalize encWh (wNew 0) = W at *
  refine goF Try.func3 (closedL_cons (.val _) (closedL_cons (closed_map encAct_closed) closedL_nil)) (fun w0 st0 => ?_)
  dsimp only [frOf]
  (repeat' (first | refine storeW (t := 28) rfl rfl rfl rfl rfl (by assumption) (by assumption) rfl rfl ?_ | refine loadW (t := 28) rfl rfl rfl rfl rfl (by assumption) rfl rfl ?_ | refine allocW (t := 28) rfl zall zW_eq zW_len rfl rfl rfl ?_ | refine goA ?_ | refine cX c0 ?_ | refine cX c1 ?_ | refine cX c2 ?_ | refine loadC rfl rfl rfl rfl rfl n5 rfl rfl ?_ | refine goB ?_ | fail))
  (refine awp_ret ⟨_, ResL.cons (ResA.tmp (.val _)) .nil, congrArg (fun b => AV.val (.bool b)) ?_⟩; first | rfl | (symm; assumption) | assumption | (symm; exact beq_int _))
 obtain ⟨c1, hw⟩ := new_yes h
 have c2 := ref_new_yes h
 have hwn : (wNew n).now = n := rfl
 have lw := hw.len
 generalize wNew n = wn at *
 refine goF Try.func3 (closedL_cons (.val _) (closedL_cons (closed_map encAct_closed) closedL_nil)) (fun w0 st0 => ?_)
 dsimp only [frOf]
 (repeat' (first | refine storeW (t := 28) rfl rfl rfl rfl rfl (by assumption) (by assumption) rfl rfl ?_ | refine loadW (t := 28) rfl rfl rfl rfl rfl (by assumption) rfl rfl ?_ | refine allocW (t := 28) rfl zall zW_eq zW_len rfl rfl rfl ?_ | refine goA ?_ | refine cX c0 ?_ | refine cX c1 ?_ | refine cX c2 ?_ | refine goB ?_ | fail))
 refine awp_loopT (T := Nat × Wh × Int × List Tmr × Nat × Nat × Nat) (fun t => ⟨[(1, .sl 4 false (acts.map encAct)), (5, .val (.bool true)), (6, .ptr 6 t.2.2.2.2.1 0 0), (8, .ptr 8 t.2.2.2.2.2.1 0 0), (10, .val (.int .i64 (t.1 : Nat)))], [(6, some ⟨t.2.2.2.2.1, 1025, [encWh t.2.1]⟩), (8, some ⟨t.2.2.2.2.2.1, 2, [encCk t.2.2.1 t.2.2.2.1]⟩)], t.2.2.2.2.2.2⟩) (fun t => t.1 ≤ acts.length ∧ WR t.2.1 t.2.2.2.1 ∧ t.2.1.now = t.2.2.1 ∧ t.2.2.2.1.length ≤ t.1 ∧ 0 ≤ t.2.2.1 ∧ t.2.2.1 ≤ n + 600 * (t.1 : Nat)) (fun t => acts.length - t.1) (0, wn, n, [], _, _, _) ⟨Nat.zero_le _, hw, hwn, Nat.le_refl _, h.1, by dsimp only; omega⟩ ⟨⟨rfl, rfl, rfl, rfl, rfl, trivial⟩, ⟨rfl, rfl, trivial⟩, Nat.le_refl _⟩ (fun t ht => ?_)
 obtain ⟨i, W, N, l, G6, G8, gc⟩ := t
 dsimp only at ht ⊢
 obtain ⟨hi, hR, hnow, hll, hN0, hN1⟩ := ht
 clear c0 c1 c2 hw hwn lw
 have lw := hR.len
 by_cases hlt : i < acts.length
 ·have d3 : decide (((i : Nat) : Int) < ((acts.map encAct).length : Nat)) = true := decide_eq_true (by omega)
  obtain ⟨a, hai⟩ : ∃ a, acts[i]? = some a := ⟨_, List.getElem?_eq_getElem hlt⟩
  obtain ⟨hk, hd, hid, hnn⟩ := ha a (List.mem_of_getElem? hai)
  have hp : (acts.map encAct)[((i : Nat) : Int).toNat]? = some (encAct a) := act_at hai
  have hk3 : a.k.tmod 3 = 0 ∨ a.k.tmod 3 = 1 ∨ a.k.tmod 3 = 2 := by
   rw [Int.tmod_eq_emod_of_nonneg hk.1]
   omega
  rcases hk3 with e | e | e
  ·have f0 : (a.k.tmod 3 == 0) = true := by rw [e]; simp
   have hadd : BinR Try.prog .add 3 (.int .i64 N) (.int .i64 a.d) (.int .i64 (IntKind.i64.wrap (N + a.d))) := bin_add
   have hD : -9223372036854775808 ≤ IntKind.i64.wrap (N + a.d) ∧ IntKind.i64.wrap (N + a.d) ≤ 9223372036854775807 := by
    rw [IntKind.wrap_i64]
    omega
   generalize IntKind.i64.wrap (N + a.d) = D at hadd hD
   have f4 : (!true) = false := rfl
   by_cases hq : N < D ∧ D - N ≤ 4294967295
   ·have c3 := add_s hR ⟨a.i, D, (i : Nat), 0, 0, a.i⟩ (by show W.now < D; omega) (by show D < W.now + 4294967296; omega)
    have c4 := ref_add_c N l ⟨a.i, D, (i : Nat), 0, 0, a.i⟩ hq (by omega) (by omega)
    have hX := hR.add (t := ⟨a.i, D, (i : Nat), 0, 0, a.i⟩) (by show W.now < D; omega) (by show D < W.now + 4294967296; omega) (by omega)
    have hnx : (putD W ⟨a.i, D, (i : Nat), 0, 0, a.i⟩).now = N := hnow
    have lx := hX.len
    have hl2 : (insT ⟨a.i, D, (i : Nat), 0, 0, a.i⟩ l).length = l.length + 1 := insT_len ..
    have f3 : ((putD W ⟨a.i, D, (i : Nat), 0, 0, a.i⟩).now != N) = false := by rw [hnx]; exact bne_int _
    have c5 := all_s sort40 hX (by omega)
    have c6 := same19_c (insT ⟨a.i, D, (i : Nat), 0, 0, a.i⟩ l) (by omega)
    generalize putD W ⟨a.i, D, (i : Nat), 0, 0, a.i⟩ = X at *
    generalize insT ⟨a.i, D, (i : Nat), 0, 0, a.i⟩ l = l2 at *
    (repeat' (first | refine ARun.bin rfl rfl hadd rfl (guardF_spec rfl) ?_ | refine storeW (t := 28) rfl rfl rfl rfl rfl (by assumption) (by assumption) rfl rfl ?_ | refine loadW (t := 28) rfl rfl rfl rfl rfl (by assumption) rfl rfl ?_ | refine allocW (t := 28) rfl zall zW_eq zW_len rfl rfl rfl ?_ | refine goA ?_ | refine ARun.indexAddr rfl rfl (by omega) (by with_reducible exact hp) rfl rfl rfl rfl rfl (guardF_spec rfl) ?_ | refine cX c3 ?_ | refine cX c4 ?_ | refine cX c5 ?_ | refine cX c6 ?_ | refine goB ?_ | fail))
    exact ⟨(i + 1, X, N, l2, G6, G8, _), ⟨⟨rfl, rfl, rfl, rfl, rfl, trivial⟩, ⟨rfl, rfl, trivial⟩, Nat.le_refl _⟩, ⟨hlt, hX, hnx, by dsimp only; omega, hN0, by dsimp only; omega⟩, (by dsimp only; omega)⟩
   ·have c3 := add_no hR ⟨a.i, D, (i : Nat), 0, 0, a.i⟩ hD (by show ¬ (W.now < D ∧ D < W.now + 4294967296); omega)
    have c4 := ref_add_no N l ⟨a.i, D, (i : Nat), 0, 0, a.i⟩ hq (by omega) hD
    have f3 : (W.now != N) = false := by rw [hnow]; exact bne_int _
    have c5 := all_s sort40 hR (by omega)
    have c6 := same19_c l (by omega)
    (repeat' (first | refine ARun.bin rfl rfl hadd rfl (guardF_spec rfl) ?_ | refine storeW (t := 28) rfl rfl rfl rfl rfl (by assumption) (by assumption) rfl rfl ?_ | refine loadW (t := 28) rfl rfl rfl rfl rfl (by assumption) rfl rfl ?_ | refine allocW (t := 28) rfl zall zW_eq zW_len rfl rfl rfl ?_ | refine goA ?_ | refine ARun.indexAddr rfl rfl (by omega) (by with_reducible exact hp) rfl rfl rfl rfl rfl (guardF_spec rfl) ?_ | refine cX c3 ?_ | refine cX c4 ?_ | refine cX c5 ?_ | refine cX c6 ?_ | refine goB ?_ | fail))
    exact ⟨(i + 1, W, N, l, G6, G8, _), ⟨⟨rfl, rfl, rfl, rfl, rfl, trivial⟩, ⟨rfl, rfl, trivial⟩, Nat.le_refl _⟩, ⟨hlt, hR, hnow, by dsimp only; omega, hN0, by dsimp only; omega⟩, (by dsimp only; omega)⟩
  ·have f0 : (a.k.tmod 3 == 0) = false := by rw [e]; simp
   have f1 : (a.k.tmod 3 == 1) = true := by rw [e]; simp
   have c3 := cut_s hR a.i
   have c4 := ref_cut_c N l a.i (by omega)
   have hX := hR.cut a.i
   have hnx : (cutW W a.i).now = N := hnow
   have lx := hX.len
   have hlf := List.length_filter_le (fun t => !idB a.i t) l
   have f2 : (l.any (idB a.i) != l.any (idB a.i)) = false := by simp
   have f3 : ((cutW W a.i).now != N) = false := by rw [hnx]; exact bne_int _
   have c5 := all_s sort40 hX (by omega)
   have c6 := same19_c (l.filter (fun t => !idB a.i t)) (by omega)
   have f4 : (!true) = false := rfl
   generalize cutW W a.i = X at *
   generalize l.filter (fun t => !idB a.i t) = l2 at *
   (repeat' (first | refine storeW (t := 28) rfl rfl rfl rfl rfl (by assumption) (by assumption) rfl rfl ?_ | refine loadW (t := 28) rfl rfl rfl rfl rfl (by assumption) rfl rfl ?_ | refine allocW (t := 28) rfl zall zW_eq zW_len rfl rfl rfl ?_ | refine goA ?_ | refine ARun.indexAddr rfl rfl (by omega) (by with_reducible exact hp) rfl rfl rfl rfl rfl (guardF_spec rfl) ?_ | refine cX c3 ?_ | refine cX c4 ?_ | refine cX c5 ?_ | refine cX c6 ?_ | refine goB ?_ | fail))
   exact ⟨(i + 1, X, N, l2, G6, G8, _), ⟨⟨rfl, rfl, rfl, rfl, rfl, trivial⟩, ⟨rfl, rfl, trivial⟩, Nat.le_refl _⟩, ⟨hlt, hX, hnx, by dsimp only; omega, hN0, by dsimp only; omega⟩, (by dsimp only; omega)⟩
  ·have f0 : (a.k.tmod 3 == 0) = false := by rw [e]; simp
   have f1 : (a.k.tmod 3 == 1) = false := by rw [e]; simp
   have f2 : (a.k.tmod 3 == 2) = true := by rw [e]; simp
   have f4 : (!true) = false := rfl
   have hm6 := mod600 hnn.1
   obtain ⟨M, hM⟩ : ∃ M : Nat, a.n.tmod 600 = (M : Nat) := ⟨(a.n.tmod 600).toNat, by omega⟩
   (repeat' (first | refine goA ?_ | refine ARun.indexAddr rfl rfl (by omega) (by with_reducible exact hp) rfl rfl rfl rfl rfl (guardF_spec rfl) ?_ | refine goB ?_ | fail))
   refine awp_loopT (T := Nat × Wh × Int × List Tmr × Nat × Nat) (fun t => ⟨[(1, .sl 4 false (acts.map encAct)), (5, .val (.bool true)), (6, .ptr 6 G6 0 0), (8, .ptr 8 G8 0 0), (10, .val (.int .i64 (i : Nat))), (11, .ptr 11 t.2.2.2.2.1 0 0), (21, .val (.int .i64 (t.1 : Nat)))], [(6, some ⟨G6, 1025, [encWh t.2.1]⟩), (8, some ⟨G8, 2, [encCk t.2.2.1 t.2.2.2.1]⟩), (11, some ⟨t.2.2.2.2.1, 4, [encAct a]⟩)], t.2.2.2.2.2⟩) (fun t => t.1 ≤ M ∧ WR t.2.1 t.2.2.2.1 ∧ t.2.1.now = t.2.2.1 ∧ t.2.2.2.1.length ≤ i ∧ t.2.2.1 = N + (t.1 : Nat)) (fun t => M - t.1) (0, W, N, l, _, _) ⟨Nat.zero_le _, hR, hnow, hll, by dsimp only; omega⟩ ⟨⟨rfl, rfl, rfl, rfl, rfl, rfl, rfl, trivial⟩, ⟨rfl, rfl, rfl, trivial⟩, Nat.le_refl _⟩ (fun t ht => ?_)
   clear hR hnow hll lw
   obtain ⟨k, W, N2, l, G11, gc2⟩ := t
   dsimp only at ht ⊢
   obtain ⟨hkM, hR, hnow, hll, hN2⟩ := ht
   have lw := hR.len
   by_cases hlk : k < M
   ·have d5 : decide (((k : Nat) : Int) < a.n.tmod 600) = true := decide_eq_true (by omega)
    have c3 := tick_s sort40 hR (by omega)
    have c4 := ref_tick_c N2 l (by omega) (by omega)
    have hX := hR.tick (by omega)
    have en := tick_now hR
    rw [hnow] at c3 hX en
    have hlf := List.length_filter_le (fun t => !dueB (N2 + 1) t) l
    have hlg := List.length_filter_le (dueB (N2 + 1)) l
    have c6 := same19_c (l.filter (dueB (N2 + 1))) (by omega)
    have lx := hX.len
    generalize tickW W = X at *
    generalize l.filter (fun t => !dueB (N2 + 1) t) = l2 at *
    generalize l.filter (dueB (N2 + 1)) = O at *
    (repeat' (first | refine storeW (t := 28) rfl rfl rfl rfl rfl (by assumption) (by assumption) rfl rfl ?_ | refine loadW (t := 28) rfl rfl rfl rfl rfl (by assumption) rfl rfl ?_ | refine allocW (t := 28) rfl zall zW_eq zW_len rfl rfl rfl ?_ | refine goA ?_ | refine cX c3 ?_ | refine cX c4 ?_ | refine cX c6 ?_ | refine goB ?_ | fail))
    exact ⟨(k + 1, X, N2 + 1, l2, G11, _), ⟨⟨rfl, rfl, rfl, rfl, rfl, rfl, rfl, trivial⟩, ⟨rfl, rfl, rfl, trivial⟩, Nat.le_refl _⟩, ⟨hlk, hX, en, by dsimp only; omega, by dsimp only; omega⟩, (by dsimp only; omega)⟩
   ·have d5 : decide (((k : Nat) : Int) < a.n.tmod 600) = false := decide_eq_false (by omega)
    have f3 : (W.now != N2) = false := by rw [hnow]; exact bne_int _
    have c5 := all_s sort40 hR (by omega)
    have c6 := same19_c l (by omega)
    (repeat' (first | refine storeW (t := 28) rfl rfl rfl rfl rfl (by assumption) (by assumption) rfl rfl ?_ | refine loadW (t := 28) rfl rfl rfl rfl rfl (by assumption) rfl rfl ?_ | refine allocW (t := 28) rfl zall zW_eq zW_len rfl rfl rfl ?_ | refine goA ?_ | refine cX c5 ?_ | refine cX c6 ?_ | refine goB ?_ | fail))
    exact ⟨(i + 1, W, N2, l, G6, G8, _), ⟨⟨rfl, rfl, rfl, rfl, rfl, trivial⟩, ⟨rfl, rfl, trivial⟩, Nat.le_refl _⟩, ⟨hlt, hR, hnow, by dsimp only; omega, by dsimp only; omega, by dsimp only; omega⟩, (by dsimp only; omega)⟩
 ·have d3 : decide (((i : Nat) : Int) < ((acts.map encAct).length : Nat)) = false := decide_eq_false (by omega)
  (repeat' (first | refine goA ?_ | refine goB ?_ | fail))
  exact awp_ret ⟨_, ResL.cons (ResA.tmp (.val _)) .nil, rfl⟩
end Go.Proofs.Ytfaclpcdeflgfaa
namespace Go.Proofs.Ytfaclpcdeflgfaa
open Go Go.RowKit Go.ChangeShapes Go.WideShapes Go.Deep Go.Proofs.Ytfaclpcdeflgfaa
set_option maxRecDepth 100000
section
variable {H : Type} {encT : TypeId × Value → H} {w : World} {base : Nat} {spare : Nat → Bool} {held : Bool}
theorem opens_act : Opens encT Try.prog w base spare held 38 encAct (fun a => (0 ≤ a.k ∧ a.k ≤ 255) ∧ In64 a.d ∧ In64 a.i ∧ (0 ≤ a.n ∧ a.n ≤ 65535)) := (opens_struct Try.underlying38 (by kernel_rfl) (OpensFs.cons (sz := 1) rfl (by kernel_rfl) (opens_u8 Try.underlying5) (OpensFs.cons (sz := 1) rfl (by kernel_rfl) opens_i (OpensFs.cons (sz := 1) rfl (by kernel_rfl) opens_i (OpensFs.cons (sz := 1) rfl (by kernel_rfl) (opens_u16 Try.underlying36) OpensFs.nil))))).map (fun y => (⟨y.1, y.2.1, y.2.2.1, y.2.2.2.1⟩ : ActT)) (fun _ _ => rfl) (fun _ h => ⟨h.1, h.2.1, h.2.2.1, h.2.2.2.1⟩)
end
theorem wheelTells_lifted (os : Os) (started : os.Started) (H : Type) (enc : TypeId × Value → H) :
  ReturnsInHanded {} Try.checked os 3 .any (Rows.wheelTellsSpec.pre6 enc Try.prog Try.f3 Rows.wheelTellsRow.domain false) (Rows.wheelTellsSpec.post enc Try.prog Try.f3 false true false false) := by
 refine returnsInHanded_of_change (C := Try.checked) own_knob started (by kernel_rfl) Try.func3
  (ChangeSpec.witness6 (enc := enc) (C := Try.checked) false ⟨#[], #[.int .i64 0, .slice none 0 0], []⟩ 12 (by kernel_rfl) (by kernel_rfl) (by kernel_rfl) (by kernel_rfl)) ?_
 intro W base args ds gs before hval0 hW hcnd _
 have hval : ∀ (j : Nat) t v, Try.f3.params[j]? = some t → args[j]? = some v → Value.okWide Try.prog W .any base t v := hval0
 have hW' := hW
 obtain ⟨p, q, hA0, hV, rfl, hfz, hnd⟩ := hW
 have hA : DataW.TrodAll enc Try.prog W 0 (fun _ => true) true Try.f3.params.toList args.toList ds p := hA0
 rw [Try.params3] at hA hval
 obtain ⟨v0, vs0, d0, ds0, p0, q0, hargs, rfl, rfl, h0, r0⟩ := trodAll_cons hA
 obtain ⟨v1, vs1, d1, ds1, p1, q1, rfl, rfl, rfl, h1, r1⟩ := trodAll_cons r0
 obtain ⟨rfl, rfl, rfl⟩ := trodAll_nil r1
 obtain rfl : args = #[v0, v1] := by cases args; simp_all
 obtain ⟨rfl, rfl⟩ := trodVars_none hV
 have k0 := h0
 have lt0 : ∀ x ∈ p0, x.block < W.heap.size := by obtain ⟨m, hm⟩ := k0; exact DataW.trod_lt m _ _ _ hm
 have k1 := h1
 have lt1 : ∀ x ∈ p1, x.block < W.heap.size := by obtain ⟨m, hm⟩ := k1; exact DataW.trod_lt m _ _ _ hm
 obtain ⟨y0, rep0, hy0⟩ := arg_int Try.underlying3 (hval 0 3 v0 rfl rfl) h0
 obtain ⟨y1, rep1, hy1⟩ := arg_slice Try.underlying22 (hval 1 22 v1 rfl rfl) h1 (opens_slice (sz := 4) (enc := encAct) Try.underlying22 (by kernel_rfl) (by decide) (fun _ => rfl) opens_act)
 clear hA0 hval0
 refine ((tells19_c y0 y1 hy0 hy1.2).law (us := [v0, v1]) rfl (fun i x u hx hu => by
  cases i with
  | zero => simp only [List.getElem?_cons_zero, Option.some.injEq] at hx hu; rw [← hx, ← hu]; exact rep0
  | succ i =>
   simp only [List.getElem?_cons_succ] at hx hu
   cases i with
   | zero => simp only [List.getElem?_cons_zero, Option.some.injEq] at hx hu; rw [← hx, ← hu]; exact rep1
   | succ i =>
    simp only [List.getElem?_cons_succ] at hx hu
    simp at hx)).mono fun e W' ⟨he, bel⟩ => ?_
 subst he
 exact ⟨_, rfl, _, _, _, [], _, [], hW', trodAll_mk1 (shut_bool Try.underlying4 _), (trodAll_cons_mk (Below.trod laid_out (by kernel_rfl) (of_decide_eq_true (by kernel_rfl)) k0 bel lt0) (trodAll_cons_mk (Below.trod laid_out (by kernel_rfl) (of_decide_eq_true (by kernel_rfl)) k1 bel lt1) trodAll_mk0)), rfl, bel.frame _, fun h => by cases h⟩
theorem wheelTells_holds : Rows.WheelTellsSaid :=
 OpenClaim.holds_of_wide 3 Try.f3 rfl rfl rfl rfl rfl rfl rfl ⟨rfl, rfl, rfl, rfl, rfl⟩ rfl rfl rfl rfl rfl (by kernel_rfl) Try.func3 (by kernel_rfl)
  (of_decide_eq_true (by kernel_rfl)) (by unfold Func.isWrapper; first | (rw [if_pos (by decide +kernel)]; kernel_rfl) | (rw [if_neg (by decide +kernel)]; exact ⟨rfl, rfl⟩))
  (fun os started H enc _ => wheelTells_lifted os started H enc)
#print axioms wheelTells_holds
end Go.Proofs.Ytfaclpcdeflgfaa
