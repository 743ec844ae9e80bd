/- wA29, wA30, wA31. -/
import Derived.Test.YtfaclpcdeflgfaaW1
import Derived.Test.YtfaclpcdeflgfaaW2
import Derived.Test.YtfaclpcdeflgfaaW3
import Derived.Test.YtfaclpcdeflgfaaW4
import Derived.Test.YtfaclpcdeflgfaawW5
import Derived.Test.YtfaclpcdeflgfaawW6
import Derived.Test.YtfaclpcdeflgfaawW7
import Derived.Test.YtfaclpcdeflgfaawW8
import Derived.Test.YtfaclpcdeflgfaawW9
import Derived.Test.YtfaclpcdeflgfaawW10
import Derived.Test.YtfaclpcdeflgfaawW11
import Derived.Test.YtfaclpcdeflgfaawW12
set_option linter.unusedVariables false
set_option linter.unusedSimpArgs false
namespace Go.Proofs.Ytfaclpcdeflgfaa
open Go Go.RowKit
set_option maxRecDepth 100000
theorem shr_half {a h : Int} (h0 : 2 * h ≤ a) (h1 : a ≤ 2 * h + 1) : shrV .u64 a 1 = h := by
 unfold shrV
 rw [show (min (1 : Int).toNat IntKind.u64.bits) = 1 from rfl, Int.fdiv_eq_ediv_of_nonneg _ (by decide)]
 omega
theorem bin_half {P : Program} {t : TypeId} {a h : Int} (h0 : 2 * h ≤ a) (h1 : a ≤ 2 * h + 1) : BinR P .shr t (.int .u64 a) (.int .u64 1) (.int .u64 h) := by
 rw [← shr_half h0 h1]
 refine bin_guard (fun _ h => by cases h) (fun h => by cases h) (fun w => ?_)
 simp [binOp, Op.shift, shrV]
theorem u64_id {n : Int} (h0 : 0 ≤ n) (h1 : n < 18446744073709551616) : IntKind.u64.wrap n = n := by
 rw [IntKind.wrap_u64]
 omega
section
variable {C : ACtx} {ops : Array Oper} {K : AS → List (List Nat × List Nat) → Prop} {k : Nat} {rest : List Oper} {fr : List (Nat × AV)} {hp : List (Nat × Option Blk)} {gc : Nat} {fps : List (List Nat × List Nat)}
 {d : Nat} {ty : TypeId} {pos : String} {after : Array Edge} {gd : Option (Nat × Bool)} {x : Operand}
theorem convE {ts td : Nat} {si di : TI} {kk ks : IntKind} {n m : Int} (hm : kk.wrap n = m) (hx : evA fr x = .val (.int ks n)) (hs : C.T ts = some si) (ht : C.T td = some di) (hk : di.k = .int kk) (hd : Nat.blt d C.n = true) (hg : guardIs ops ⟨fr, hp, gc⟩ ⟨some d, .convert ts td x, ty, pos, after, gd⟩ true)
  (nx : ARun C ops K (k + 1) rest ⟨(d, .val (.int kk m)) :: fr, hp, gc⟩ (fps ++ [([], [])])) : ARun C ops K k (⟨some d, .convert ts td x, ty, pos, after, gd⟩ :: rest) ⟨fr, hp, gc⟩ fps := by
 subst hm
 exact ARun.convInt hx hs ht hk hd hg nx
end
attribute [local irreducible] Decidable.decide awp ARun regK toK
set_option maxHeartbeats 8000000 in
theorem sm1_l (A V R : List Tmr) (x : Tmr) (n : Nat) (hv : 0 < V.length) (hV : SortedT V) (hn : n = A.length + (1 + (V.length + R.length))) (hb : n ≤ 1000000) : FnL Try.prog 39 [.own 1000 0 0 n, .val (.int .i64 (A.length : Nat)), .val (.int .i64 ((A.length + 1 : Nat) : Int)), .val (.int .i64 ((A.length + 1 + V.length : Nat) : Int)), .val (.func (.func 30) #[] #[])] [(6, (A ++ (x :: (V ++ R))).map encTm)] (.tup []) [(A ++ (sortT (x :: V) ++ R)).map encTm] := by
 have d1 : (((A.length + 1 : Nat) : Int) - (A.length : Nat) == 1) = true := beq_iff_eq.2 (by omega)
 refine FnL.of_awp (T := tt) (ok := tok) Try.func39 (by kernel_rfl) rfl (by kernel_rfl) (by kernel_rfl) (fun w0 st0 lent c0 => ?_)
 dsimp only [frOf, hpFrom, List.length_cons, List.length_nil]
 (repeat' (first | refine goA ?_ | refine awp_skip ?_ | refine goB ?_ | fail))
 refine awp_loopT (T := Nat × Nat × Nat) (fun t => ⟨[(0, .own 1000 0 0 n), (1, .val (.int .i64 (A.length : Nat))), (2, .val (.int .i64 ((A.length + 1 : Nat) : Int))), (3, .val (.int .i64 ((A.length + 1 + V.length : Nat) : Int))), (4, .val (.func (.func 30) #[] #[])), (10, .val (.int .i64 ((A.length + 1 + t.1 : Nat) : Int))), (11, .val (.int .i64 ((A.length + 1 + t.2.1 : Nat) : Int)))], [(1000, some ⟨0, 6, (A ++ (x :: (V ++ R))).map encTm⟩)], t.2.2⟩) (fun t => t.1 ≤ t.2.1 ∧ t.2.1 ≤ V.length ∧ (∀ v, V[t.1 - 1]? = some v → 0 < t.1 → ltT v x = true) ∧ (∀ v, V[t.2.1]? = some v → ltT v x = false)) (fun t => t.2.1 - t.1) (0, V.length, _) ⟨Nat.zero_le _, Nat.le_refl _, fun v _ h => absurd h (by omega), fun v h => by rw [List.getElem?_eq_none (Nat.le_refl _)] at h; cases h⟩ ⟨⟨rfl, rfl, rfl, rfl, rfl, rfl, rfl, trivial⟩, ⟨rfl, trivial⟩, Nat.le_refl _⟩ (fun t ht => ?_)
 obtain ⟨i, j, gc⟩ := t
 dsimp only at ht ⊢
 obtain ⟨hij, hj, h1, h2⟩ := ht
 by_cases hlt : i < j
 ·have d2 : decide (((A.length + 1 + i : Nat) : Int) < ((A.length + 1 + j : Nat) : Int)) = true := decide_eq_true (by omega)
  obtain ⟨h, hh⟩ : ∃ h, h = (A.length + 1 + i + (A.length + 1 + j)) / 2 - (A.length + 1) := ⟨_, rfl⟩
  have hsh : BinR Try.prog .shr 83 (.int .u64 (((A.length + 1 + i : Nat) : Int) + ((A.length + 1 + j : Nat) : Int))) (.int .u64 1) (.int .u64 ((A.length + 1 + h : Nat) : Int)) := bin_half (by omega) (by omega)
  have hw1 : IntKind.u64.wrap (((A.length + 1 + i : Nat) : Int) + ((A.length + 1 + j : Nat) : Int)) = ((A.length + 1 + i : Nat) : Int) + ((A.length + 1 + j : Nat) : Int) := u64_id (by omega) (by omega)
  have hhl : h < V.length := by omega
  obtain ⟨v, hvh⟩ : ∃ v, V[h]? = some v := ⟨_, List.getElem?_eq_getElem hhl⟩
  have gx : ((A ++ (x :: (V ++ R))).map encTm)[0 + ((A.length + 1 + h : Nat) : Int).toNat]? = some (encTm v) := map_at (by
   rw [List.getElem?_append_right (by omega), show 0 + ((A.length + 1 + h : Nat) : Int).toNat - A.length = h + 1 by omega, List.getElem?_cons_succ, List.getElem?_append_left hhl, hvh])
  have gy : ((A ++ (x :: (V ++ R))).map encTm)[0 + ((A.length : Nat) : Int).toNat]? = some (encTm x) := map_at (mid_get _ _ _ (by omega))
  have c1 := order_c v x
  have d3 := ordI_lt v x
  cases hb : ltT v x with
  | true =>
   rw [hb] at d3
   (repeat' (first | refine ARun.bin rfl rfl hsh rfl (guardF_spec rfl) ?_ | refine convE hw1 rfl rfl rfl rfl rfl (guardF_spec rfl) ?_ | refine goA ?_ | refine cX c1 ?_ | refine ARun.indexAddr_own rfl rfl rfl rfl (by omega) (by omega) rfl rfl rfl rfl rfl (guardF_spec rfl) ?_ | refine ARun.loadAgg rfl rfl rfl (by first | exact gx | exact gy) rfl rfl rfl rfl (guardF_spec rfl) ?_ | refine goB ?_ | fail))
   refine ⟨(h + 1, j, _), ⟨⟨rfl, rfl, rfl, rfl, rfl, rfl, rfl, trivial⟩, ⟨rfl, trivial⟩, Nat.le_refl _⟩, ⟨by dsimp only; omega, hj, fun u hu _ => ?_, h2⟩, (by dsimp only; omega)⟩
   dsimp only at hu
   rw [Nat.add_sub_cancel, hvh] at hu
   rw [← Option.some.inj hu]
   exact hb
  | false =>
   rw [hb] at d3
   (repeat' (first | refine ARun.bin rfl rfl hsh rfl (guardF_spec rfl) ?_ | refine convE hw1 rfl rfl rfl rfl rfl (guardF_spec rfl) ?_ | refine goA ?_ | refine cX c1 ?_ | refine ARun.indexAddr_own rfl rfl rfl rfl (by omega) (by omega) rfl rfl rfl rfl rfl (guardF_spec rfl) ?_ | refine ARun.loadAgg rfl rfl rfl (by first | exact gx | exact gy) rfl rfl rfl rfl (guardF_spec rfl) ?_ | refine goB ?_ | fail))
   refine ⟨(i, h, _), ⟨⟨rfl, rfl, rfl, rfl, rfl, rfl, rfl, trivial⟩, ⟨rfl, trivial⟩, Nat.le_refl _⟩, ⟨by dsimp only; omega, by dsimp only; omega, h1, fun u hu => ?_⟩, (by dsimp only; omega)⟩
   dsimp only at hu
   rw [hvh] at hu
   rw [← Option.some.inj hu]
   exact hb
 have d2 : decide (((A.length + 1 + i : Nat) : Int) < ((A.length + 1 + j : Nat) : Int)) = false := decide_eq_false (by omega)
 obtain rfl : i = j := by omega
 obtain ⟨p, q, rfl, hp⟩ : ∃ p q, V = p ++ q ∧ p.length = i := ⟨V.take i, V.drop i, (List.take_append_drop _ _).symm, by rw [List.length_take]; omega⟩
 have hp1 : ∀ v, v ∈ p → ltT v x = true := fun v hv => by
  obtain ⟨a, ha⟩ := List.getElem?_of_mem hv
  have la := (List.getElem?_eq_some_iff.1 ha).1
  have hva : (p ++ q)[a]? = some v := by rw [List.getElem?_append_left la, ha]
  obtain ⟨w, hw⟩ : ∃ w, (p ++ q)[i - 1]? = some w := ⟨_, List.getElem?_eq_getElem (by omega)⟩
  have g1 := h1 w hw (by omega)
  have g2 := sorted_at hV hva hw (by omega)
  rw [ltT_iff] at g1 ⊢
  rw [ltT_no] at g2
  omega
 have hq1 : ∀ v, v ∈ q → ltT v x = false := fun v hv => by
  obtain ⟨a, ha⟩ := List.getElem?_of_mem hv
  have hva : (p ++ q)[i + a]? = some v := by rw [List.getElem?_append_right (by omega), show i + a - p.length = a by omega, ha]
  have la := (List.getElem?_eq_some_iff.1 hva).1
  obtain ⟨w, hw⟩ : ∃ w, (p ++ q)[i]? = some w := ⟨_, List.getElem?_eq_getElem (by omega)⟩
  have g1 := h2 w hw
  have g2 := sorted_at hV hw hva (by omega)
  rw [ltT_no] at g1 g2 ⊢
  omega
 rw [merge_one hV hp1 hq1]
 clear h1 h2 hp1 hq1 hV d1
 rw [List.length_append] at hn
 (repeat' (first | refine goA ?_ | refine goB ?_ | fail))
 refine awp_loopT (T := Nat × List Tmr × Nat) (fun t => ⟨[(0, .own 1000 0 0 n), (10, .val (.int .i64 ((A.length + 1 + i : Nat) : Int))), (13, .val (.int .i64 ((A.length + t.1 : Nat) : Int)))], [(1000, some ⟨0, 6, t.2.1.map encTm⟩)], t.2.2⟩) (fun t => t.1 ≤ p.length ∧ t.2.1 = A ++ (p.take t.1 ++ x :: (p.drop t.1 ++ (q ++ R)))) (fun t => p.length - t.1) (0, A ++ (x :: ((p ++ q) ++ R)), _) ⟨Nat.zero_le _, by simp⟩ ⟨⟨rfl, rfl, rfl, trivial⟩, ⟨rfl, trivial⟩, Nat.le_refl _⟩ (fun t ht => ?_)
 obtain ⟨k, L, gc⟩ := t
 dsimp only at ht ⊢
 obtain ⟨hkp, hL⟩ := ht
 clear d2
 by_cases hlk : k < p.length
 ·have d2 : decide (((A.length + k : Nat) : Int) < ((A.length + 1 + i : Nat) : Int) - 1) = true := decide_eq_true (by omega)
  obtain ⟨v, hv⟩ : ∃ v, p[k]? = some v := ⟨_, List.getElem?_eq_getElem hlk⟩
  have hdv := drop_c hv
  have htv := take_succ' hv
  have l1 : (p.take k).length = k := by rw [List.length_take]; omega
  have l2 : (p.drop (k + 1)).length = p.length - (k + 1) := List.length_drop
  rw [hdv] at hL
  have eL : L = (A ++ p.take k) ++ x :: (v :: (p.drop (k + 1) ++ (q ++ R))) := by rw [hL]; simp
  have eL' : L = (A ++ (p.take k ++ [x])) ++ v :: (p.drop (k + 1) ++ (q ++ R)) := by rw [hL]; simp
  have k1 : (A ++ p.take k).length = A.length + k := by rw [List.length_append, l1]
  have k2 : ∀ z : Tmr, (A ++ (p.take k ++ [z])).length = A.length + k + 1 := fun z => by simp only [List.length_append, List.length_cons, List.length_nil, l1]; omega
  have hLl : L.length = n := by rw [eL']; simp only [List.length_append, List.length_cons, List.length_nil, l1, l2]; omega
  have gx : (L.map encTm)[0 + (((A.length + k : Nat) : Int) + 1).toNat]? = some (encTm v) := map_at (by rw [eL']; exact mid_get _ _ _ (by rw [k2]; omega))
  have gy : (L.map encTm)[0 + ((A.length + k : Nat) : Int).toNat]? = some (encTm x) := map_at (by rw [eL]; exact mid_get _ _ _ (by rw [k1]; omega))
  have hk : 0 + ((A.length + k : Nat) : Int).toNat < (L.map encTm).length := by rw [List.length_map, hLl]; omega
  have e3 : (A ++ p.take k) ++ v :: (v :: (p.drop (k + 1) ++ (q ++ R))) = (A ++ (p.take k ++ [v])) ++ v :: (p.drop (k + 1) ++ (q ++ R)) := by simp
  have s1 : (L.map encTm).set (0 + ((A.length + k : Nat) : Int).toNat) (encTm v) = ((A ++ (p.take k ++ [v])) ++ v :: (p.drop (k + 1) ++ (q ++ R))).map encTm := map_set' (by rw [eL, mid_set _ _ _ _ (by rw [k1]; omega), e3])
  have s2 : (((A ++ (p.take k ++ [v])) ++ v :: (p.drop (k + 1) ++ (q ++ R))).map encTm).set (0 + (((A.length + k : Nat) : Int) + 1).toNat) (encTm x) = ((A ++ (p.take k ++ [v])) ++ x :: (p.drop (k + 1) ++ (q ++ R))).map encTm := map_set' (mid_set _ _ _ _ (by rw [k2]; omega))
  have hk' : 0 + (((A.length + k : Nat) : Int) + 1).toNat < (((A ++ (p.take k ++ [v])) ++ v :: (p.drop (k + 1) ++ (q ++ R))).map encTm).length := by rw [List.length_map, List.length_append, k2, List.length_cons]; omega
  (repeat' (first | refine goA ?_ | refine ARun.indexAddr_own rfl rfl rfl rfl (by omega) (by omega) rfl rfl rfl rfl rfl (guardF_spec rfl) ?_ | refine ARun.loadAgg rfl rfl rfl (by first | exact gx | exact gy) rfl rfl rfl rfl (guardF_spec rfl) ?_ | refine ARun.storeEl rfl rfl rfl hk (map_len (fun _ => rfl)) rfl rfl rfl rfl rfl s1 (guardF_spec rfl) ?_ | refine ARun.storeEl rfl rfl rfl hk' (map_len (fun _ => rfl)) rfl rfl rfl rfl rfl s2 (guardF_spec rfl) ?_ | refine goB ?_ | fail))
  refine ⟨(k + 1, (A ++ (p.take k ++ [v])) ++ x :: (p.drop (k + 1) ++ (q ++ R)), _), ⟨⟨rfl, rfl, rfl, trivial⟩, ⟨rfl, trivial⟩, Nat.le_refl _⟩, ⟨hlk, ?_⟩, (by dsimp only; omega)⟩
  dsimp only
  rw [htv]
  simp
 ·have d2 : decide (((A.length + k : Nat) : Int) < ((A.length + 1 + i : Nat) : Int) - 1) = false := decide_eq_false (by omega)
  have hfin : L = A ++ ((p ++ x :: q) ++ R) := by rw [hL, List.take_of_length_le (by omega), List.drop_of_length_le (by omega)]; simp
  rw [← hfin]
  (repeat' (first | refine goA ?_ | refine awp_skip ?_ | refine goB ?_ | fail))
  exact awp_ret ⟨_, ResL.nil, rfl, ⟨_, rfl, RlR.closed (rows_closed L)⟩, trivial⟩
end Go.Proofs.Ytfaclpcdeflgfaa
namespace Go.Proofs.Ytfaclpcdeflgfaa
open Go Go.RowKit
set_option maxRecDepth 100000
attribute [local irreducible] Decidable.decide awp ARun regK toK
set_option maxHeartbeats 8000000 in
theorem sm2_l (A U R : List Tmr) (x : Tmr) (n : Nat) (hu : 2 ≤ U.length) (hU : SortedT U) (hn : n = A.length + (U.length + (1 + R.length))) (hb : n ≤ 1000000) : FnL Try.prog 39 [.own 1000 0 0 n, .val (.int .i64 (A.length : Nat)), .val (.int .i64 ((A.length + U.length : Nat) : Int)), .val (.int .i64 ((A.length + U.length + 1 : Nat) : Int)), .val (.func (.func 30) #[] #[])] [(6, (A ++ (U ++ x :: R)).map encTm)] (.tup []) [(A ++ (sortT (U ++ [x]) ++ R)).map encTm] := by
 have d1 : (((A.length + U.length : Nat) : Int) - (A.length : Nat) == 1) = false := beq_eq_false_iff_ne.2 (by omega)
 have d0 : (((A.length + U.length + 1 : Nat) : Int) - ((A.length + U.length : Nat) : Int) == 1) = true := beq_iff_eq.2 (by omega)
 refine FnL.of_awp (T := tt) (ok := tok) Try.func39 (by kernel_rfl) rfl (by kernel_rfl) (by kernel_rfl) (fun w0 st0 lent c0 => ?_)
 dsimp only [frOf, hpFrom, List.length_cons, List.length_nil]
 (repeat' (first | refine goA ?_ | refine awp_skip ?_ | refine goB ?_ | fail))
 refine awp_loopT (T := Nat × Nat × Nat) (fun t => ⟨[(0, .own 1000 0 0 n), (2, .val (.int .i64 ((A.length + U.length : Nat) : Int))), (4, .val (.func (.func 30) #[] #[])), (14, .val (.int .i64 ((A.length + t.1 : Nat) : Int))), (15, .val (.int .i64 ((A.length + t.2.1 : Nat) : Int)))], [(1000, some ⟨0, 6, (A ++ (U ++ x :: R)).map encTm⟩)], t.2.2⟩) (fun t => t.1 ≤ t.2.1 ∧ t.2.1 ≤ U.length ∧ (∀ v, U[t.1 - 1]? = some v → 0 < t.1 → ltT x v = false) ∧ (∀ v, U[t.2.1]? = some v → ltT x v = true)) (fun t => t.2.1 - t.1) (0, U.length, _) ⟨Nat.zero_le _, Nat.le_refl _, fun v _ h => absurd h (by omega), fun v h => by rw [List.getElem?_eq_none (Nat.le_refl _)] at h; cases h⟩ ⟨⟨rfl, rfl, rfl, rfl, rfl, trivial⟩, ⟨rfl, trivial⟩, Nat.le_refl _⟩ (fun t ht => ?_)
 obtain ⟨i, j, gc⟩ := t
 dsimp only at ht ⊢
 obtain ⟨hij, hj, h1, h2⟩ := ht
 clear d1 d0
 by_cases hlt : i < j
 ·have d2 : decide (((A.length + i : Nat) : Int) < ((A.length + j : Nat) : Int)) = true := decide_eq_true (by omega)
  obtain ⟨h, hh⟩ : ∃ h, h = (A.length + i + (A.length + j)) / 2 - A.length := ⟨_, rfl⟩
  have hsh : BinR Try.prog .shr 83 (.int .u64 (((A.length + i : Nat) : Int) + ((A.length + j : Nat) : Int))) (.int .u64 1) (.int .u64 ((A.length + h : Nat) : Int)) := bin_half (by omega) (by omega)
  have hw1 : IntKind.u64.wrap (((A.length + i : Nat) : Int) + ((A.length + j : Nat) : Int)) = ((A.length + i : Nat) : Int) + ((A.length + j : Nat) : Int) := u64_id (by omega) (by omega)
  have hhl : h < U.length := by omega
  obtain ⟨v, hvh⟩ : ∃ v, U[h]? = some v := ⟨_, List.getElem?_eq_getElem hhl⟩
  have gx : ((A ++ (U ++ x :: R)).map encTm)[0 + ((A.length + h : Nat) : Int).toNat]? = some (encTm v) := map_at (by
   rw [List.getElem?_append_right (by omega), show 0 + ((A.length + h : Nat) : Int).toNat - A.length = h by omega, List.getElem?_append_left hhl, hvh])
  have gy : ((A ++ (U ++ x :: R)).map encTm)[0 + ((A.length + U.length : Nat) : Int).toNat]? = some (encTm x) := map_at (by
   rw [← List.append_assoc]
   exact mid_get _ _ _ (by rw [List.length_append]; omega))
  have c1 := order_c x v
  have d3 := ordI_lt x v
  cases hb2 : ltT x v with
  | false =>
   rw [hb2] at d3
   have d4 : (!decide (ordI x v < 0)) = true := by rw [d3]; rfl
   (repeat' (first | refine ARun.bin rfl rfl hsh rfl (guardF_spec rfl) ?_ | refine convE hw1 rfl rfl rfl rfl rfl (guardF_spec rfl) ?_ | refine goA ?_ | refine cX c1 ?_ | refine ARun.indexAddr_own rfl rfl rfl rfl (by omega) (by omega) rfl rfl rfl rfl rfl (guardF_spec rfl) ?_ | refine ARun.loadAgg rfl rfl rfl (by first | exact gx | exact gy) rfl rfl rfl rfl (guardF_spec rfl) ?_ | refine goB ?_ | fail))
   refine ⟨(h + 1, j, _), ⟨⟨rfl, rfl, rfl, rfl, rfl, trivial⟩, ⟨rfl, trivial⟩, Nat.le_refl _⟩, ⟨by dsimp only; omega, hj, fun u hu _ => ?_, h2⟩, (by dsimp only; omega)⟩
   dsimp only at hu
   rw [Nat.add_sub_cancel, hvh] at hu
   rw [← Option.some.inj hu]
   exact hb2
  | true =>
   rw [hb2] at d3
   have d4 : (!decide (ordI x v < 0)) = false := by rw [d3]; rfl
   (repeat' (first | refine ARun.bin rfl rfl hsh rfl (guardF_spec rfl) ?_ | refine convE hw1 rfl rfl rfl rfl rfl (guardF_spec rfl) ?_ | refine goA ?_ | refine cX c1 ?_ | refine ARun.indexAddr_own rfl rfl rfl rfl (by omega) (by omega) rfl rfl rfl rfl rfl (guardF_spec rfl) ?_ | refine ARun.loadAgg rfl rfl rfl (by first | exact gx | exact gy) rfl rfl rfl rfl (guardF_spec rfl) ?_ | refine goB ?_ | fail))
   refine ⟨(i, h, _), ⟨⟨rfl, rfl, rfl, rfl, rfl, trivial⟩, ⟨rfl, trivial⟩, Nat.le_refl _⟩, ⟨by dsimp only; omega, by dsimp only; omega, h1, fun u hu => ?_⟩, (by dsimp only; omega)⟩
   dsimp only at hu
   rw [hvh] at hu
   rw [← Option.some.inj hu]
   exact hb2
 have d2 : decide (((A.length + i : Nat) : Int) < ((A.length + j : Nat) : Int)) = false := decide_eq_false (by omega)
 obtain rfl : i = j := by omega
 obtain ⟨p, q, rfl, hp⟩ : ∃ p q, U = p ++ q ∧ p.length = i := ⟨U.take i, U.drop i, (List.take_append_drop _ _).symm, by rw [List.length_take]; omega⟩
 have hp1 : ∀ v, p.getLast? = some v → ltT x v = false := fun v hv => by
  rcases snoc_or p with rfl | ⟨p', y, rfl⟩
  ·cases hv
  ·rw [List.getLast?_append, List.getLast?_singleton] at hv
   have hv : y = v := by simpa using hv
   subst hv
   rw [List.length_append] at hp
   have hp : p'.length + 1 = i := hp
   refine h1 y ?_ (by omega)
   rw [List.append_assoc, List.getElem?_append_right (by omega), show i - 1 - p'.length = 0 by omega]
   rfl
 have hq1 : ∀ v, v ∈ q → ltT x v = true := fun v hv => by
  obtain ⟨a, ha⟩ := List.getElem?_of_mem hv
  have hva : (p ++ q)[i + a]? = some v := by rw [List.getElem?_append_right (by omega), show i + a - p.length = a by omega, ha]
  have la := (List.getElem?_eq_some_iff.1 hva).1
  obtain ⟨w, hw⟩ : ∃ w, (p ++ q)[i]? = some w := ⟨_, List.getElem?_eq_getElem (by omega)⟩
  have g1 := h2 w hw
  have g2 := sorted_at hU hw hva (by omega)
  rw [ltT_no] at g2
  rw [ltT_iff] at g1 ⊢
  omega
 rw [sortT_snoc, sortT_id hU, insT_at hU hp1 hq1]
 clear h1 h2 hp1 hq1 hU
 rw [List.length_append] at hn
 have hz0 : ((A.length + (p ++ q).length : Nat) : Int) = ((A.length + i + q.length : Nat) : Int) := by rw [List.length_append]; omega
 (repeat' (first | refine goA ?_ | refine goB ?_ | fail))
 refine awp_loopT (T := Nat × List Tmr × Int × Nat) (fun t => ⟨[(0, .own 1000 0 0 n), (14, .val (.int .i64 ((A.length + i : Nat) : Int))), (17, .val (.int .i64 t.2.2.1))], [(1000, some ⟨0, 6, t.2.1.map encTm⟩)], t.2.2.2⟩) (fun t => t.1 ≤ q.length ∧ t.2.1 = A ++ (p ++ (q.take t.1 ++ x :: (q.drop t.1 ++ R))) ∧ t.2.2.1 = ((A.length + i + t.1 : Nat) : Int)) (fun t => t.1) (q.length, A ++ ((p ++ q) ++ x :: R), _, _) ⟨Nat.le_refl _, by simp, hz0⟩ ⟨⟨rfl, rfl, rfl, trivial⟩, ⟨rfl, trivial⟩, Nat.le_refl _⟩ (fun t ht => ?_)
 obtain ⟨k, L, z, gc⟩ := t
 dsimp only at ht ⊢
 obtain ⟨hkq, hL, hz⟩ := ht
 clear d2
 rcases k with _ | k
 ·have d2 : decide (((A.length + i : Nat) : Int) < z) = false := decide_eq_false (by omega)
  have hfin : L = A ++ ((p ++ x :: q) ++ R) := by rw [hL]; simp
  rw [← hfin]
  (repeat' (first | refine goA ?_ | refine awp_skip ?_ | refine goB ?_ | fail))
  exact awp_ret ⟨_, ResL.nil, rfl, ⟨_, rfl, RlR.closed (rows_closed L)⟩, trivial⟩
 ·have d2 : decide (((A.length + i : Nat) : Int) < z) = true := decide_eq_true (by omega)
  obtain ⟨v, hv⟩ : ∃ v, q[k]? = some v := ⟨_, List.getElem?_eq_getElem (by omega)⟩
  have hdv := drop_c hv
  have htv := take_succ' hv
  have l1 : (q.take k).length = k := by rw [List.length_take]; omega
  have l2 : (q.drop (k + 1)).length = q.length - (k + 1) := List.length_drop
  rw [htv] at hL
  have eL : L = (A ++ (p ++ q.take k)) ++ v :: (x :: (q.drop (k + 1) ++ R)) := by rw [hL]; simp
  have eL' : L = (A ++ (p ++ (q.take k ++ [v]))) ++ x :: (q.drop (k + 1) ++ R) := by rw [hL]; simp
  have k1 : (A ++ (p ++ q.take k)).length = A.length + i + k := by simp only [List.length_append, l1]; omega
  have k2 : ∀ z : Tmr, (A ++ (p ++ (q.take k ++ [z]))).length = A.length + i + k + 1 := fun z => by simp only [List.length_append, List.length_cons, List.length_nil, l1]; omega
  have hLl : L.length = n := by rw [eL']; simp only [List.length_append, List.length_cons, List.length_nil, l1, l2]; omega
  have gx : (L.map encTm)[0 + (z - 1).toNat]? = some (encTm v) := map_at (by rw [eL]; exact mid_get _ _ _ (by rw [k1]; omega))
  have gy : (L.map encTm)[0 + z.toNat]? = some (encTm x) := map_at (by rw [eL']; exact mid_get _ _ _ (by rw [k2]; omega))
  have hk : 0 + z.toNat < (L.map encTm).length := by rw [List.length_map, hLl]; omega
  have e3 : (A ++ (p ++ (q.take k ++ [v]))) ++ v :: (q.drop (k + 1) ++ R) = (A ++ (p ++ q.take k)) ++ v :: (v :: (q.drop (k + 1) ++ R)) := by simp
  have s1 : (L.map encTm).set (0 + z.toNat) (encTm v) = ((A ++ (p ++ q.take k)) ++ v :: (v :: (q.drop (k + 1) ++ R))).map encTm := map_set' (by rw [eL', mid_set _ _ _ _ (by rw [k2]; omega), e3])
  have s2 : (((A ++ (p ++ q.take k)) ++ v :: (v :: (q.drop (k + 1) ++ R))).map encTm).set (0 + (z - 1).toNat) (encTm x) = ((A ++ (p ++ q.take k)) ++ x :: (v :: (q.drop (k + 1) ++ R))).map encTm := map_set' (mid_set _ _ _ _ (by rw [k1]; omega))
  have hk' : 0 + (z - 1).toNat < (((A ++ (p ++ q.take k)) ++ v :: (v :: (q.drop (k + 1) ++ R))).map encTm).length := by rw [List.length_map, List.length_append, k1, List.length_cons]; omega
  (repeat' (first | refine goA ?_ | refine ARun.indexAddr_own rfl rfl rfl rfl (by omega) (by omega) rfl rfl rfl rfl rfl (guardF_spec rfl) ?_ | refine ARun.loadAgg rfl rfl rfl (by first | exact gx | exact gy) rfl rfl rfl rfl (guardF_spec rfl) ?_ | refine ARun.storeEl rfl rfl rfl hk (map_len (fun _ => rfl)) rfl rfl rfl rfl rfl s1 (guardF_spec rfl) ?_ | refine ARun.storeEl rfl rfl rfl hk' (map_len (fun _ => rfl)) rfl rfl rfl rfl rfl s2 (guardF_spec rfl) ?_ | refine goB ?_ | fail))
  refine ⟨(k, (A ++ (p ++ q.take k)) ++ x :: (v :: (q.drop (k + 1) ++ R)), _, _), ⟨⟨rfl, rfl, rfl, trivial⟩, ⟨rfl, trivial⟩, Nat.le_refl _⟩, ⟨by dsimp only; omega, ?_, by dsimp only; omega⟩, (by dsimp only; omega)⟩
  dsimp only
  rw [hdv]
  simp
end Go.Proofs.Ytfaclpcdeflgfaa
namespace Go.Proofs.Ytfaclpcdeflgfaa
open Go Go.RowKit
set_option maxRecDepth 100000
attribute [local irreducible] Decidable.decide awp ARun regK toK
def SmOk (z : Nat) : Prop := ∀ (A U V R : List Tmr) (n : Nat), 0 < U.length → 0 < V.length → U.length + V.length ≤ z → SortedT U → SortedT V → n = A.length + (U.length + (V.length + R.length)) → n ≤ 1000000 → FnL Try.prog 39 [.own 1000 0 0 n, .val (.int .i64 (A.length : Nat)), .val (.int .i64 ((A.length + U.length : Nat) : Int)), .val (.int .i64 ((A.length + U.length + V.length : Nat) : Int)), .val (.func (.func 30) #[] #[])] [(6, (A ++ (U ++ (V ++ R))).map encTm)] (.tup []) [(A ++ (sortT (U ++ V) ++ R)).map encTm]
theorem app_get {l r : List Tmr} {i : Nat} {x : Tmr} (h : l[i]? = some x) : (l ++ r)[i]? = some x := by
 rw [List.getElem?_append_left (List.getElem?_eq_some_iff.1 h).1, h]
theorem app_get2 {l r : List Tmr} {i j : Nat} {x : Tmr} (h : r[i]? = some x) (hj : j = l.length + i) : (l ++ r)[j]? = some x := by
 rw [List.getElem?_append_right (by omega), show j - l.length = i by omega, h]
set_option maxHeartbeats 32000000 in
theorem sm3_l {z : Nat} (ih : SmOk z) (A U V R : List Tmr) (n : Nat) (hu : 2 ≤ U.length) (hv : 2 ≤ V.length) (hz : U.length + V.length ≤ z + 1) (hU : SortedT U) (hV : SortedT V) (hn : n = A.length + (U.length + (V.length + R.length))) (hb : n ≤ 1000000) : FnL Try.prog 39 [.own 1000 0 0 n, .val (.int .i64 (A.length : Nat)), .val (.int .i64 ((A.length + U.length : Nat) : Int)), .val (.int .i64 ((A.length + U.length + V.length : Nat) : Int)), .val (.func (.func 30) #[] #[])] [(6, (A ++ (U ++ (V ++ R))).map encTm)] (.tup []) [(A ++ (sortT (U ++ V) ++ R)).map encTm] := by
 have d1 : (((A.length + U.length : Nat) : Int) - (A.length : Nat) == 1) = false := beq_eq_false_iff_ne.2 (by omega)
 have d0 : (((A.length + U.length + V.length : Nat) : Int) - ((A.length + U.length : Nat) : Int) == 1) = false := beq_eq_false_iff_ne.2 (by omega)
 obtain ⟨h, hh⟩ : ∃ h, h = (U.length + V.length) / 2 := ⟨_, rfl⟩
 have hsh : BinR Try.prog .shr 83 (.int .u64 (((A.length : Nat) : Int) + ((A.length + U.length + V.length : Nat) : Int))) (.int .u64 1) (.int .u64 ((A.length + h : Nat) : Int)) := bin_half (by omega) (by omega)
 have hw1 : IntKind.u64.wrap (((A.length : Nat) : Int) + ((A.length + U.length + V.length : Nat) : Int)) = ((A.length : Nat) : Int) + ((A.length + U.length + V.length : Nat) : Int) := u64_id (by omega) (by omega)
 refine FnL.of_awp (T := tt) (ok := tok) Try.func39 (by kernel_rfl) rfl (by kernel_rfl) (by kernel_rfl) (fun w0 st0 lent c0 => ?_)
 dsimp only [frOf, hpFrom, List.length_cons, List.length_nil]
 (repeat' (first | refine ARun.bin rfl rfl hsh rfl (guardF_spec rfl) ?_ | refine convE hw1 rfl rfl rfl rfl rfl (guardF_spec rfl) ?_ | refine goA ?_ | refine awp_skip ?_ | refine goB ?_ | fail))
 refine awp_cut (T := Nat × Nat × Int × Int × Nat) (fun t => ⟨[(0, .own 1000 0 0 n), (1, .val (.int .i64 (A.length : Nat))), (2, .val (.int .i64 ((A.length + U.length : Nat) : Int))), (3, .val (.int .i64 ((A.length + U.length + V.length : Nat) : Int))), (4, .val (.func (.func 30) #[] #[])), (18, .val (.int .i64 ((A.length + h : Nat) : Int))), (19, .val (.int .i64 (((A.length + h : Nat) : Int) + ((A.length + U.length : Nat) : Int)))), (20, .val (.int .i64 t.2.2.1)), (21, .val (.int .i64 t.2.2.2.1))], [(1000, some ⟨0, 6, (A ++ (U ++ (V ++ R))).map encTm⟩)], t.2.2.2.2⟩) (fun t => t.2.2.1 = ((A.length + t.1 : Nat) : Int) ∧ t.2.2.2.1 = ((A.length + t.2.1 : Nat) : Int) ∧ t.1 ≤ t.2.1 ∧ t.2.1 ≤ h ∧ t.2.1 ≤ U.length ∧ h ≤ V.length + t.1 ∧ (t.1 = 0 ∨ t.1 + V.length = h) ∧ (t.2.1 = h ∨ t.2.1 = U.length)) ?_ (fun t ht => ?_)
 ·by_cases hp : h < U.length
  ·have d2 : decide (((A.length + h : Nat) : Int) < ((A.length + U.length : Nat) : Int)) = true := decide_eq_true (by omega)
   (repeat' (first | refine goA ?_ | refine goB ?_ | fail))
   exact ⟨(h - V.length, h, _, _, _), ⟨⟨rfl, rfl, rfl, rfl, rfl, rfl, rfl, rfl, rfl, trivial⟩, ⟨rfl, trivial⟩, Nat.le_refl _⟩, by dsimp only; omega, rfl, by dsimp only; omega, by dsimp only; omega, by dsimp only; omega, by dsimp only; omega, by dsimp only; omega, by dsimp only; omega⟩
  ·have d2 : decide (((A.length + h : Nat) : Int) < ((A.length + U.length : Nat) : Int)) = false := decide_eq_false (by omega)
   (repeat' (first | refine goA ?_ | refine goB ?_ | fail))
   exact ⟨(0, U.length, _, _, _), ⟨⟨rfl, rfl, rfl, rfl, rfl, rfl, rfl, rfl, rfl, trivial⟩, ⟨rfl, trivial⟩, Nat.le_refl _⟩, rfl, rfl, by dsimp only; omega, by dsimp only; omega, by dsimp only; omega, by dsimp only; omega, by dsimp only; omega, by dsimp only; omega⟩
 obtain ⟨s0, r0, zs0, zr0, gc0⟩ := t
 dsimp only at ht ⊢
 obtain ⟨hzs0, hzr0, h1, h2, h3, h4, h5, h6⟩ := ht
 clear hsh hw1 d1 d0
 (repeat' (first | refine goA ?_ | refine awp_skip ?_ | refine goB ?_ | fail))
 refine awp_loopT (T := Nat × Nat × Int × Int × Nat) (fun t => ⟨[(0, .own 1000 0 0 n), (1, .val (.int .i64 (A.length : Nat))), (2, .val (.int .i64 ((A.length + U.length : Nat) : Int))), (3, .val (.int .i64 ((A.length + U.length + V.length : Nat) : Int))), (4, .val (.func (.func 30) #[] #[])), (18, .val (.int .i64 ((A.length + h : Nat) : Int))), (19, .val (.int .i64 (((A.length + h : Nat) : Int) + ((A.length + U.length : Nat) : Int)))), (20, .val (.int .i64 t.2.2.1)), (21, .val (.int .i64 t.2.2.2.1)), (22, .val (.int .i64 (((A.length + h : Nat) : Int) + ((A.length + U.length : Nat) : Int) - 1)))], [(1000, some ⟨0, 6, (A ++ (U ++ (V ++ R))).map encTm⟩)], t.2.2.2.2⟩) (fun t => t.2.2.1 = ((A.length + t.1 : Nat) : Int) ∧ t.2.2.2.1 = ((A.length + t.2.1 : Nat) : Int) ∧ t.1 ≤ t.2.1 ∧ s0 ≤ t.1 ∧ t.2.1 ≤ r0 ∧ (∀ v u, V[h - t.1]? = some v → U[t.1 - 1]? = some u → s0 < t.1 → ltT v u = false) ∧ (∀ v u, V[h - 1 - t.2.1]? = some v → U[t.2.1]? = some u → t.2.1 < r0 → ltT v u = true)) (fun t => t.2.1 - t.1) (s0, r0, zs0, zr0, _) ⟨hzs0, hzr0, h1, Nat.le_refl _, Nat.le_refl _, fun v u _ _ h => absurd h (Nat.lt_irrefl _), fun v u _ _ h => absurd h (Nat.lt_irrefl _)⟩ ⟨⟨rfl, rfl, rfl, rfl, rfl, rfl, rfl, rfl, rfl, rfl, trivial⟩, ⟨rfl, trivial⟩, Nat.le_refl _⟩ (fun t ht => ?_)
 obtain ⟨s, r, zs, zr, gc⟩ := t
 dsimp only at ht ⊢
 obtain ⟨rfl, rfl, hsr, hs0, hr0, k1, k2⟩ := ht
 by_cases hlt : s < r
 ·have d2 : decide (((A.length + s : Nat) : Int) < ((A.length + r : Nat) : Int)) = true := decide_eq_true (by omega)
  obtain ⟨c, hc⟩ : ∃ c, c = (A.length + s + (A.length + r)) / 2 - A.length := ⟨_, rfl⟩
  have hsh : BinR Try.prog .shr 83 (.int .u64 (((A.length + s : Nat) : Int) + ((A.length + r : Nat) : Int))) (.int .u64 1) (.int .u64 ((A.length + c : Nat) : Int)) := bin_half (by omega) (by omega)
  have hw1 : IntKind.u64.wrap (((A.length + s : Nat) : Int) + ((A.length + r : Nat) : Int)) = ((A.length + s : Nat) : Int) + ((A.length + r : Nat) : Int) := u64_id (by omega) (by omega)
  obtain ⟨u, hu1⟩ : ∃ u, U[c]? = some u := ⟨_, List.getElem?_eq_getElem (by omega)⟩
  obtain ⟨v, hv1⟩ : ∃ v, V[h - 1 - c]? = some v := ⟨_, List.getElem?_eq_getElem (by omega)⟩
  have gx : ((A ++ (U ++ (V ++ R))).map encTm)[0 + (((A.length + h : Nat) : Int) + ((A.length + U.length : Nat) : Int) - 1 - ((A.length + c : Nat) : Int)).toNat]? = some (encTm v) := map_at (app_get2 (app_get2 (app_get hv1) rfl) (by omega))
  have gy : ((A ++ (U ++ (V ++ R))).map encTm)[0 + ((A.length + c : Nat) : Int).toNat]? = some (encTm u) := map_at (app_get2 (app_get hu1) (by omega))
  have c1 := order_c v u
  have d3 := ordI_lt v u
  cases hb2 : ltT v u with
  | false =>
   rw [hb2] at d3
   have d4 : (!decide (ordI v u < 0)) = true := by rw [d3]; rfl
   (repeat' (first | refine ARun.bin rfl rfl hsh rfl (guardF_spec rfl) ?_ | refine convE hw1 rfl rfl rfl rfl rfl (guardF_spec rfl) ?_ | refine goA ?_ | refine cX c1 ?_ | refine ARun.indexAddr_own rfl rfl rfl rfl (by omega) (by omega) rfl rfl rfl rfl rfl (guardF_spec rfl) ?_ | refine ARun.loadAgg rfl rfl rfl (by first | exact gx | exact gy) rfl rfl rfl rfl (guardF_spec rfl) ?_ | refine goB ?_ | fail))
   refine ⟨(c + 1, r, _, _, _), ⟨⟨rfl, rfl, rfl, rfl, rfl, rfl, rfl, rfl, rfl, rfl, trivial⟩, ⟨rfl, trivial⟩, Nat.le_refl _⟩, ⟨rfl, rfl, by dsimp only; omega, by dsimp only; omega, hr0, fun v' u' hv' hu' _ => ?_, k2⟩, (by dsimp only; omega)⟩
   dsimp only at hv' hu'
   rw [Nat.add_sub_cancel, hu1] at hu'
   rw [show h - (c + 1) = h - 1 - c by omega, hv1] at hv'
   rw [← Option.some.inj hu', ← Option.some.inj hv']
   exact hb2
  | true =>
   rw [hb2] at d3
   have d4 : (!decide (ordI v u < 0)) = false := by rw [d3]; rfl
   (repeat' (first | refine ARun.bin rfl rfl hsh rfl (guardF_spec rfl) ?_ | refine convE hw1 rfl rfl rfl rfl rfl (guardF_spec rfl) ?_ | refine goA ?_ | refine cX c1 ?_ | refine ARun.indexAddr_own rfl rfl rfl rfl (by omega) (by omega) rfl rfl rfl rfl rfl (guardF_spec rfl) ?_ | refine ARun.loadAgg rfl rfl rfl (by first | exact gx | exact gy) rfl rfl rfl rfl (guardF_spec rfl) ?_ | refine goB ?_ | fail))
   refine ⟨(s, c, _, _, _), ⟨⟨rfl, rfl, rfl, rfl, rfl, rfl, rfl, rfl, rfl, rfl, trivial⟩, ⟨rfl, trivial⟩, Nat.le_refl _⟩, ⟨rfl, rfl, by dsimp only; omega, hs0, by dsimp only; omega, k1, fun v' u' hv' hu' _ => ?_⟩, (by dsimp only; omega)⟩
   dsimp only at hv' hu'
   rw [hu1] at hu'
   rw [hv1] at hv'
   rw [← Option.some.inj hu', ← Option.some.inj hv']
   exact hb2
 have d2 : decide (((A.length + s : Nat) : Int) < ((A.length + r : Nat) : Int)) = false := decide_eq_false (by omega)
 obtain rfl : s = r := by omega
 have F3 := bound_a (s := s) (e := h - s) hU hV (by omega) (fun v u hv' hu' he => k2 v u (by rw [← hv']; congr 1; omega) hu' (by
  have := (List.getElem?_eq_some_iff.1 hu').1
  omega))
 have F4 := bound_b (s := s) (e := h - s) hU hV (by omega) (fun v u hv' hu' he => k1 v u hv' hu' (by
  have := (List.getElem?_eq_some_iff.1 hv').1
  omega))
 obtain ⟨U1, U2, rfl, l1, t1, t2⟩ : ∃ U1 U2, U = U1 ++ U2 ∧ U1.length = s ∧ U.take s = U1 ∧ U.drop s = U2 := ⟨_, _, (List.take_append_drop s U).symm, by rw [List.length_take]; omega, rfl, rfl⟩
 obtain ⟨V1, V2, rfl, l2, t3, t4⟩ : ∃ V1 V2, V = V1 ++ V2 ∧ V1.length = h - s ∧ V.take (h - s) = V1 ∧ V.drop (h - s) = V2 := ⟨_, _, (List.take_append_drop (h - s) V).symm, by rw [List.length_take]; omega, rfl, rfl⟩
 rw [t3, t2] at F3
 rw [t4, t1] at F4
 have hm := merge_two hU hV F3 F4
 have hUs := List.pairwise_append.1 hU
 have hVs := List.pairwise_append.1 hV
 have hs1 : (sortT (U1 ++ V1)).length = h := by rw [sortT_len, List.length_append]; omega
 clear k1 k2 F3 F4 t1 t2 t3 t4 hzs0 hzr0
 rw [← hm]
 have eU : (U1 ++ U2).length = s + U2.length := by rw [List.length_append, l1]
 have eV : (V1 ++ V2).length = (h - s) + V2.length := by rw [List.length_append, l2]
 have hsh2 : s ≤ h := by omega
 have R1 : (decide (((A.length + s : Nat) : Int) < ((A.length + (U1 ++ U2).length : Nat) : Int)) = false ∧ A ++ ((U1 ++ U2) ++ ((V1 ++ V2) ++ R)) = A ++ (U1 ++ (V1 ++ (U2 ++ (V2 ++ R))))) ∨ (decide (((A.length + s : Nat) : Int) < ((A.length + (U1 ++ U2).length : Nat) : Int)) = true ∧ decide (((A.length + (U1 ++ U2).length : Nat) : Int) < ((A.length + h : Nat) : Int) + ((A.length + (U1 ++ U2).length : Nat) : Int) - ((A.length + s : Nat) : Int)) = false ∧ A ++ ((U1 ++ U2) ++ ((V1 ++ V2) ++ R)) = A ++ (U1 ++ (V1 ++ (U2 ++ (V2 ++ R))))) ∨ (decide (((A.length + s : Nat) : Int) < ((A.length + (U1 ++ U2).length : Nat) : Int)) = true ∧ decide (((A.length + (U1 ++ U2).length : Nat) : Int) < ((A.length + h : Nat) : Int) + ((A.length + (U1 ++ U2).length : Nat) : Int) - ((A.length + s : Nat) : Int)) = true ∧ FnL Try.prog 41 [.own 1000 0 0 n, .val (.int .i64 ((A.length + s : Nat) : Int)), .val (.int .i64 ((A.length + (U1 ++ U2).length : Nat) : Int)), .val (.int .i64 (((A.length + h : Nat) : Int) + ((A.length + (U1 ++ U2).length : Nat) : Int) - ((A.length + s : Nat) : Int))), .val (.func (.func 30) #[] #[])] [(6, (A ++ ((U1 ++ U2) ++ ((V1 ++ V2) ++ R))).map encTm)] (.tup []) [(A ++ (U1 ++ (V1 ++ (U2 ++ (V2 ++ R))))).map encTm]) := by
  by_cases q1 : U2.length = 0
  ·refine .inl ⟨decide_eq_false (by omega), ?_⟩
   rw [List.eq_nil_of_length_eq_zero q1]
   simp
  by_cases q2 : V1.length = 0
  ·refine .inr (.inl ⟨decide_eq_true (by omega), decide_eq_false (by omega), ?_⟩)
   rw [List.eq_nil_of_length_eq_zero q2]
   simp
  refine .inr (.inr ⟨decide_eq_true (by omega), decide_eq_true (by omega), ?_⟩)
  have c := rot_l (A ++ U1) U2 V1 (V2 ++ R) n (by omega) (by omega) (by simp only [List.length_append] at hn ⊢; omega) hb
  have a1 : (((A ++ U1).length : Nat) : Int) = ((A.length + s : Nat) : Int) := by rw [List.length_append]; omega
  have a2 : (((A ++ U1).length + U2.length : Nat) : Int) = ((A.length + (U1 ++ U2).length : Nat) : Int) := by rw [List.length_append]; omega
  have a3 : (((A ++ U1).length + U2.length + V1.length : Nat) : Int) = ((A.length + h : Nat) : Int) + ((A.length + (U1 ++ U2).length : Nat) : Int) - ((A.length + s : Nat) : Int) := by rw [List.length_append]; omega
  rw [a1, a2, a3] at c
  have e1 : (A ++ U1) ++ (U2 ++ (V1 ++ (V2 ++ R))) = A ++ ((U1 ++ U2) ++ ((V1 ++ V2) ++ R)) := by simp
  have e2 : (A ++ U1) ++ (V1 ++ (U2 ++ (V2 ++ R))) = A ++ (U1 ++ (V1 ++ (U2 ++ (V2 ++ R)))) := by simp
  rw [e1, e2] at c
  exact c
 have R2 : (decide (((A.length : Nat) : Int) < ((A.length + s : Nat) : Int)) = false ∧ A ++ (U1 ++ (V1 ++ (U2 ++ (V2 ++ R)))) = A ++ (sortT (U1 ++ V1) ++ (U2 ++ (V2 ++ R)))) ∨ (decide (((A.length : Nat) : Int) < ((A.length + s : Nat) : Int)) = true ∧ decide (((A.length + s : Nat) : Int) < ((A.length + h : Nat) : Int)) = false ∧ A ++ (U1 ++ (V1 ++ (U2 ++ (V2 ++ R)))) = A ++ (sortT (U1 ++ V1) ++ (U2 ++ (V2 ++ R)))) ∨ (decide (((A.length : Nat) : Int) < ((A.length + s : Nat) : Int)) = true ∧ decide (((A.length + s : Nat) : Int) < ((A.length + h : Nat) : Int)) = true ∧ FnL Try.prog 39 [.own 1000 0 0 n, .val (.int .i64 ((A.length : Nat) : Int)), .val (.int .i64 ((A.length + s : Nat) : Int)), .val (.int .i64 ((A.length + h : Nat) : Int)), .val (.func (.func 30) #[] #[])] [(6, (A ++ (U1 ++ (V1 ++ (U2 ++ (V2 ++ R))))).map encTm)] (.tup []) [(A ++ (sortT (U1 ++ V1) ++ (U2 ++ (V2 ++ R)))).map encTm]) := by
  by_cases q1 : U1.length = 0
  ·refine .inl ⟨decide_eq_false (by omega), ?_⟩
   rw [List.eq_nil_of_length_eq_zero q1, List.nil_append, List.nil_append, sortT_id hVs.1]
  by_cases q2 : V1.length = 0
  ·refine .inr (.inl ⟨decide_eq_true (by omega), decide_eq_false (by omega), ?_⟩)
   rw [List.eq_nil_of_length_eq_zero q2, List.append_nil, List.nil_append, sortT_id hUs.1]
  refine .inr (.inr ⟨decide_eq_true (by omega), decide_eq_true (by omega), ?_⟩)
  have c := ih A U1 V1 (U2 ++ (V2 ++ R)) n (by omega) (by omega) (by omega) hUs.1 hVs.1 (by simp only [List.length_append] at hn ⊢; omega) hb
  rw [l1, show ((A.length + s + V1.length : Nat) : Int) = ((A.length + h : Nat) : Int) by omega] at c
  exact c
 have R3 : (decide (((A.length + h : Nat) : Int) < ((A.length + h : Nat) : Int) + ((A.length + (U1 ++ U2).length : Nat) : Int) - ((A.length + s : Nat) : Int)) = false ∧ A ++ (sortT (U1 ++ V1) ++ (U2 ++ (V2 ++ R))) = A ++ ((sortT (U1 ++ V1) ++ sortT (U2 ++ V2)) ++ R)) ∨ (decide (((A.length + h : Nat) : Int) < ((A.length + h : Nat) : Int) + ((A.length + (U1 ++ U2).length : Nat) : Int) - ((A.length + s : Nat) : Int)) = true ∧ decide (((A.length + h : Nat) : Int) + ((A.length + (U1 ++ U2).length : Nat) : Int) - ((A.length + s : Nat) : Int) < ((A.length + (U1 ++ U2).length + (V1 ++ V2).length : Nat) : Int)) = false ∧ A ++ (sortT (U1 ++ V1) ++ (U2 ++ (V2 ++ R))) = A ++ ((sortT (U1 ++ V1) ++ sortT (U2 ++ V2)) ++ R)) ∨ (decide (((A.length + h : Nat) : Int) < ((A.length + h : Nat) : Int) + ((A.length + (U1 ++ U2).length : Nat) : Int) - ((A.length + s : Nat) : Int)) = true ∧ decide (((A.length + h : Nat) : Int) + ((A.length + (U1 ++ U2).length : Nat) : Int) - ((A.length + s : Nat) : Int) < ((A.length + (U1 ++ U2).length + (V1 ++ V2).length : Nat) : Int)) = true ∧ FnL Try.prog 39 [.own 1000 0 0 n, .val (.int .i64 ((A.length + h : Nat) : Int)), .val (.int .i64 (((A.length + h : Nat) : Int) + ((A.length + (U1 ++ U2).length : Nat) : Int) - ((A.length + s : Nat) : Int))), .val (.int .i64 ((A.length + (U1 ++ U2).length + (V1 ++ V2).length : Nat) : Int)), .val (.func (.func 30) #[] #[])] [(6, (A ++ (sortT (U1 ++ V1) ++ (U2 ++ (V2 ++ R)))).map encTm)] (.tup []) [(A ++ ((sortT (U1 ++ V1) ++ sortT (U2 ++ V2)) ++ R)).map encTm]) := by
  by_cases q1 : U2.length = 0
  ·refine .inl ⟨decide_eq_false (by omega), ?_⟩
   rw [List.eq_nil_of_length_eq_zero q1, List.nil_append, List.nil_append, sortT_id hVs.2.1, List.append_assoc]
  by_cases q2 : V2.length = 0
  ·refine .inr (.inl ⟨decide_eq_true (by omega), decide_eq_false (by omega), ?_⟩)
   rw [List.eq_nil_of_length_eq_zero q2, List.append_nil, List.nil_append, sortT_id hUs.2.1, List.append_assoc]
  refine .inr (.inr ⟨decide_eq_true (by omega), decide_eq_true (by omega), ?_⟩)
  have c := ih (A ++ sortT (U1 ++ V1)) U2 V2 R n (by omega) (by omega) (by omega) hUs.2.1 hVs.2.1 (by rw [List.length_append, hs1]; omega) hb
  have a1 : (((A ++ sortT (U1 ++ V1)).length : Nat) : Int) = ((A.length + h : Nat) : Int) := by rw [List.length_append, hs1]
  have a2 : (((A ++ sortT (U1 ++ V1)).length + U2.length : Nat) : Int) = ((A.length + h : Nat) : Int) + ((A.length + (U1 ++ U2).length : Nat) : Int) - ((A.length + s : Nat) : Int) := by rw [List.length_append, hs1]; omega
  have a3 : (((A ++ sortT (U1 ++ V1)).length + U2.length + V2.length : Nat) : Int) = ((A.length + (U1 ++ U2).length + (V1 ++ V2).length : Nat) : Int) := by rw [List.length_append, hs1]; omega
  rw [a1, a2, a3] at c
  have e1 : (A ++ sortT (U1 ++ V1)) ++ (U2 ++ (V2 ++ R)) = A ++ (sortT (U1 ++ V1) ++ (U2 ++ (V2 ++ R))) := by simp
  have e2 : (A ++ sortT (U1 ++ V1)) ++ (sortT (U2 ++ V2) ++ R) = A ++ ((sortT (U1 ++ V1) ++ sortT (U2 ++ V2)) ++ R) := by simp
  rw [e1, e2] at c
  exact c
 have l0 := rows_closed (A ++ ((U1 ++ U2) ++ ((V1 ++ V2) ++ R)))
 have l1' := rows_closed (A ++ (U1 ++ (V1 ++ (U2 ++ (V2 ++ R)))))
 have l2' := rows_closed (A ++ (sortT (U1 ++ V1) ++ (U2 ++ (V2 ++ R))))
 have l3 := rows_closed (A ++ ((sortT (U1 ++ V1) ++ sortT (U2 ++ V2)) ++ R))
 have hbb : A.length + (U1 ++ U2).length + (V1 ++ V2).length ≤ 1000000 := by omega
 generalize A ++ ((U1 ++ U2) ++ ((V1 ++ V2) ++ R)) = L0 at *
 generalize A ++ (U1 ++ (V1 ++ (U2 ++ (V2 ++ R)))) = L1 at *
 generalize A ++ (sortT (U1 ++ V1) ++ (U2 ++ (V2 ++ R))) = L2 at *
 generalize A ++ ((sortT (U1 ++ V1) ++ sortT (U2 ++ V2)) ++ R) = L3 at *
 clear ih hU hV hm hUs hVs
 rcases R1 with ⟨g1, rfl⟩ | ⟨g1, g1', rfl⟩ | ⟨g1, g1', c1⟩ <;> rcases R2 with ⟨g2, rfl⟩ | ⟨g2, g2', rfl⟩ | ⟨g2, g2', c2⟩ <;> rcases R3 with ⟨g3, rfl⟩ | ⟨g3, g3', rfl⟩ | ⟨g3, g3', c3⟩
 all_goals
  (repeat' (first | refine goA ?_ | refine awp_skip ?_ | refine callR 1000 0 6 _ _ c1 (by assumption) (by assumption) (RelL.cons (.own (j := 0) 0 _ rfl) (RelL.cons (.wk (.same _) (.val _)) (RelL.cons (.wk (.same _) (.val _)) (RelL.cons (.wk (.same _) (.val _)) (RelL.cons (.wk (.same _) (.val _)) (RelL.nil _)))))) (.same _ (.tup closedL_nil)) rfl rfl rfl rfl rfl ?_ | refine callR 1000 0 6 _ _ c2 (by assumption) (by assumption) (RelL.cons (.own (j := 0) 0 _ rfl) (RelL.cons (.wk (.same _) (.val _)) (RelL.cons (.wk (.same _) (.val _)) (RelL.cons (.wk (.same _) (.val _)) (RelL.cons (.wk (.same _) (.val _)) (RelL.nil _)))))) (.same _ (.tup closedL_nil)) rfl rfl rfl rfl rfl ?_ | refine callR 1000 0 6 _ _ c3 (by assumption) (by assumption) (RelL.cons (.own (j := 0) 0 _ rfl) (RelL.cons (.wk (.same _) (.val _)) (RelL.cons (.wk (.same _) (.val _)) (RelL.cons (.wk (.same _) (.val _)) (RelL.cons (.wk (.same _) (.val _)) (RelL.nil _)))))) (.same _ (.tup closedL_nil)) rfl rfl rfl rfl rfl ?_ | refine goB ?_ | fail))
  (first | exact ⟨_, ResL.nil, rfl, ⟨_, rfl, RlR.closed (by assumption)⟩, trivial⟩ | (refine awp_skip ?_; exact ⟨_, ResL.nil, rfl, ⟨_, rfl, RlR.closed (by assumption)⟩, trivial⟩))
end Go.Proofs.Ytfaclpcdeflgfaa
