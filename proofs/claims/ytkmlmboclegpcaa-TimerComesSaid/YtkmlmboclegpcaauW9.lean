/- uA10, uA11, uA12. -/
import Derived.Test.YtkmlmboclegpcaaW1
import Derived.Test.YtkmlmboclegpcaaW2
import Derived.Test.YtkmlmboclegpcaaW3
import Derived.Test.YtkmlmboclegpcaaW4
import Derived.Test.YtkmlmboclegpcaauW5
import Derived.Test.YtkmlmboclegpcaauW6
import Derived.Test.YtkmlmboclegpcaauW7
import Derived.Test.YtkmlmboclegpcaauW8
set_option linter.unusedVariables false
set_option linter.unusedSimpArgs false
namespace Go.Proofs.Ytkmlmboclegpcaa
open Go Go.RowKit
set_option maxRecDepth 100000
theorem rows_get {w : Wh} (h : w.sl.length = 1024) {r F : Nat} (hr : r < 4) (hF : F = 256 * r + 1) : loadCs (encWh w) F 256 = some (((w.sl.drop (256 * r)).take 256).map encTs) := by
 subst hF
 refine loadCs_at (by rw [encWh_len h]; omega) ?_
 show ((w.sl.map encTs).drop (256 * r)).take 256 = _
 rw [← List.map_drop, ← List.map_take]
theorem row_get {w : Wh} (h : w.sl.length = 1024) {r i : Nat} (hr : r < 4) (hi : i < 256) : (((w.sl.drop (256 * r)).take 256).map encTs)[((i : Nat) : Int).toNat]? = some (encTs (w.at (256 * r + i))) := by
 show (((w.sl.drop (256 * r)).take 256).map encTs)[i]? = _
 rw [List.getElem?_map, List.getElem?_take, if_pos hi, List.getElem?_drop]
 unfold Wh.at
 rw [List.getElem?_eq_getElem (by omega)]
 rfl
theorem flat_snoc {w : Wh} (h : w.sl.length = 1024) {k : Nat} (hk : k < 1024) : (w.sl.take (k + 1)).flatten = (w.sl.take k).flatten ++ w.at k := by
 have hx : w.sl[k]? = some (w.at k) := by
  unfold Wh.at
  rw [List.getElem?_eq_getElem (by omega)]
  rfl
 rw [take_succ' hx, List.flatten_append]
 simp
attribute [local irreducible] Decidable.decide awp ARun regK toK zW zBig28
set_option maxHeartbeats 8000000 in
theorem all_c {f : Int → Nat} {lo hi : Int} {w : Wh} {l : List Tmr} (h : OkR f lo hi w l) (cs : FnL Try.prog 61 [.own 1000 0 0 w.sl.flatten.length, .val (.func (.func 62) #[] #[])] [(6, w.sl.flatten.map encTm)] (.tup []) [(sortT w.sl.flatten).map encTm]) : FnC Try.prog 46 [.agg (encWh w)] (encTs (allD w)) := by
 have hle := h.ok.e
 have hlen := h.r.len
 have hfl : w.sl.flatten.length ≤ 1000 := by rw [h.r.flen]; exact h.ln
 have ec : w.sl.flatten.length = (w.sl.flatten.map encTm).length := by rw [List.length_map]
 rw [ec] at cs
 have hcl := encWh_closed w
 unfold allD
 refine goF Try.func46 (closedL_cons (.agg hcl) closedL_nil) (fun w0 st0 => ?_)
 dsimp only [frOf]
 (repeat' (first | refine boxW (t := 28) rfl hle rfl rfl rfl ?_ | refine goA ?_ | refine goB ?_ | fail))
 refine awp_ownNil 3 6 rfl rfl rfl ?_
 refine awp_loopT (T := Nat × List (List AV) × Nat × Nat) (fun t => ⟨[(1, .ptr 1 0 0 0), (3, .own 3 t.2.2.1 0 t.2.1.length), (7, .val (.int .i64 (t.1 : Nat)))], [(1, some ⟨0, 1025, [encWh w]⟩), (3, some ⟨t.2.2.1, 6, t.2.1⟩)], t.2.2.2⟩) (fun t => t.1 ≤ 4 ∧ t.2.1 = (w.sl.take (256 * t.1)).flatten.map encTm) (fun t => 4 - t.1) (0, [], _, _) ⟨Nat.zero_le _, rfl⟩ ⟨⟨rfl, rfl, rfl, trivial⟩, ⟨rfl, rfl, trivial⟩, Nat.le_refl _⟩ (fun t ht => ?_)
 obtain ⟨r, rows, g, gc⟩ := t
 dsimp only at ht ⊢
 obtain ⟨hr, hrows⟩ := ht
 by_cases hlt : r < 4
 ·have d1 : decide (((r : Nat) : Int) < 4) = true := decide_eq_true (by omega)
  have g1 := rows_get hlen hlt (F := 0 + 1 + ((r : Nat) : Int).toNat * 256) (by show 0 + 1 + r * 256 = _; omega)
  have hv : ∀ i, i < 256 → (((w.sl.drop (256 * r)).take 256).map encTs)[((i : Nat) : Int).toNat]? = some (encTs (w.at (256 * r + i))) := fun i hi => row_get hlen hlt hi
  generalize ((w.sl.drop (256 * r)).take 256).map encTs = es at *
  (repeat' (first | refine goA ?_ | refine ARun.indexArr rfl rfl (by omega) (by omega) rfl rfl rfl rfl (guardF_spec rfl) ?_ | refine ARun.loadAgg rfl rfl rfl rfl rfl rfl g1 rfl (guardF_spec rfl) ?_ | refine goB ?_ | fail))
  refine awp_loopT (T := Nat × List (List AV) × Nat × Nat) (fun t => ⟨[(1, .ptr 1 0 0 0), (3, .own 3 t.2.2.1 0 t.2.1.length), (7, .val (.int .i64 (r : Nat))), (13, .agg es), (14, .val (.int .i64 (t.1 : Nat)))], [(1, some ⟨0, 1025, [encWh w]⟩), (3, some ⟨t.2.2.1, 6, t.2.1⟩)], t.2.2.2⟩) (fun t => t.1 ≤ 256 ∧ t.2.1 = (w.sl.take (256 * r + t.1)).flatten.map encTm) (fun t => 256 - t.1) (0, rows, _, _) ⟨Nat.zero_le _, hrows⟩ ⟨⟨rfl, rfl, rfl, rfl, rfl, trivial⟩, ⟨rfl, rfl, trivial⟩, Nat.le_refl _⟩ (fun t ht => ?_)
  obtain ⟨i, rows2, g2, gc2⟩ := t
  dsimp only at ht ⊢
  obtain ⟨hi, hrows2⟩ := ht
  by_cases hli : i < 256
  ·have d2 : decide (((i : Nat) : Int) < 256) = true := decide_eq_true (by omega)
   have hvi := hv i hli
   have hx1 : rows2.length ≤ 1000 := by rw [hrows2, List.length_map]; have := take_flat w.sl (256 * r + i); omega
   have hx2 : ((w.at (256 * r + i)).map encTm).length ≤ 1000 := by rw [List.length_map]; have := at_len w (256 * r + i); omega
   (repeat' (first | refine goA ?_ | refine ARun.indexAgg rfl rfl (by omega) (by omega) rfl rfl rfl rfl rfl hvi rfl (guardF_spec rfl) ?_ | refine appO rfl ?_ | refine goB ?_ | fail))
   refine ⟨(i + 1, _, _, _), ⟨⟨rfl, rfl, rfl, rfl, rfl, trivial⟩, ⟨rfl, rfl, trivial⟩, Nat.le_refl _⟩, ⟨hli, ?_⟩, (by dsimp only; omega)⟩
   dsimp only
   rw [hrows2, show 256 * r + (i + 1) = (256 * r + i) + 1 by omega, flat_snoc hlen (by omega), List.map_append]
  ·have d2 : decide (((i : Nat) : Int) < 256) = false := decide_eq_false (by omega)
   (repeat' (first | refine goA ?_ | refine goB ?_ | fail))
   refine ⟨(r + 1, rows2, _, _), ⟨⟨rfl, rfl, rfl, trivial⟩, ⟨rfl, rfl, trivial⟩, Nat.le_refl _⟩, ⟨hlt, ?_⟩, (by dsimp only; omega)⟩
   dsimp only
   rw [hrows2]
   congr 3
   omega
 ·have d1 : decide (((r : Nat) : Int) < 4) = false := decide_eq_false (by omega)
  have hfin : rows = w.sl.flatten.map encTm := by rw [hrows, List.take_of_length_le (by omega)]
  subst hfin
  (repeat' (first | refine goA ?_ | refine callR 3 _ 6 (w.sl.flatten.map encTm) ((sortT w.sl.flatten).map encTm) cs (rows_closed _) (rows_closed _) (RelL.cons (.own (j := 0) 0 _ rfl) (RelL.cons (.wk (.same _) (.val _)) (RelL.nil _))) (.same _ (.tup closedL_nil)) rfl rfl rfl rfl rfl ?_ | refine goB ?_ | fail))
  exact awp_ret ⟨_, ResL.cons (ResA.tmp (.owned rfl rfl (by rw [List.length_map, List.length_map, sortT_len]) (rows_closed _))) .nil, rfl⟩
end Go.Proofs.Ytkmlmboclegpcaa
namespace Go.Proofs.Ytkmlmboclegpcaa
open Go Go.RowKit
set_option maxRecDepth 100000
theorem and_pow (n : Int) (k : Nat) (m : Nat) (hm : (m : Int) = 2 ^ k - 1) (hk : k ≤ 40) (h0 : 0 ≤ n) (h1 : n ≤ 9223372036854775807) : bitsV .and .i64 n (m : Int) = n % 2 ^ k := by
 unfold bitsV
 simp only
 obtain ⟨a, rfl⟩ := Int.eq_ofNat_of_zero_le h0
 have hp : (2 : Nat) ^ k ≤ 2 ^ 40 := Nat.pow_le_pow_right (by omega) hk
 have hp0 : 0 < (2 : Nat) ^ k := Nat.pow_pos (by omega)
 have hm' : m = 2 ^ k - 1 := by
  have : ((2 : Int) ^ k) = ((2 ^ k : Nat) : Int) := by simp
  omega
 have e : (BitVec.ofInt IntKind.i64.bits (a : Int) &&& BitVec.ofInt IntKind.i64.bits (m : Int)).toNat = a % 2 ^ k := by
  rw [BitVec.toNat_and]
  have e1 : (BitVec.ofInt IntKind.i64.bits (a : Int)).toNat = a := by
   rw [BitVec.toNat_ofInt]
   show ((a : Int) % ((2 ^ 64 : Nat) : Int)).toNat = a
   omega
  have e2 : (BitVec.ofInt IntKind.i64.bits (m : Int)).toNat = 2 ^ k - 1 := by
   rw [BitVec.toNat_ofInt]
   show ((m : Int) % ((2 ^ 64 : Nat) : Int)).toNat = _
   omega
  rw [e1, e2, Nat.and_two_pow_sub_one_eq_mod]
 rw [e, IntKind.wrap_i64]
 have hlt : a % 2 ^ k < 2 ^ k := Nat.mod_lt _ hp0
 have ec : ((a : Int) % 2 ^ k) = ((a % 2 ^ k : Nat) : Int) := by simp
 rw [ec]
 omega
theorem shl_r {z : Int} (h : z = 1 ∨ z = 2 ∨ z = 3) : shlV .i64 1 (8 * z) = 256 ^ z.toNat := by
 rcases h with rfl | rfl | rfl <;> decide
def lowB (n : Int) : Nat → Bool
 | 1 => decide (n % 256 = 0)
 | 2 => decide (n % 65536 = 0)
 | _ => decide (n % 16777216 = 0)
theorem low_eq {n z : Int} (h : z = 1 ∨ z = 2 ∨ z = 3) (h0 : 0 ≤ n) (h1 : n ≤ 9223372036854775807) : (bitsV .and .i64 n (shlV .i64 1 (8 * z) - 1) == 0) = lowB n z.toNat := by
 rw [shl_r h]
 rcases h with rfl | rfl | rfl
 ·have := and_pow n 8 255 (by decide) (by omega) h0 h1
  rw [show (256 : Int) ^ (1 : Int).toNat - 1 = ((255 : Nat) : Int) by decide, this]
  rfl
 ·have := and_pow n 16 65535 (by decide) (by omega) h0 h1
  rw [show (256 : Int) ^ (2 : Int).toNat - 1 = ((65535 : Nat) : Int) by decide, this]
  rfl
 ·have := and_pow n 24 16777215 (by decide) (by omega) h0 h1
  rw [show (256 : Int) ^ (3 : Int).toNat - 1 = ((16777215 : Nat) : Int) by decide, this]
  rfl
def wS (w : Wh) : Nat → Wh
 | 3 => ⟨w.now + 1, w.sl⟩
 | 2 => tick3 ⟨w.now + 1, w.sl⟩
 | 1 => tick2 (tick3 ⟨w.now + 1, w.sl⟩)
 | _ => casD w
theorem ws3 (w : Wh) : wS w 3 = ⟨w.now + 1, w.sl⟩ := rfl
theorem ws0 (w : Wh) : wS w 0 = casD w := rfl
theorem ws_ok {w : Wh} {l : List Tmr} (h : Rel w l) (hn : w.now + 1 ≤ 4611686018427387904) (hl : l.length ≤ 1000) (r : Nat) (hr : r ≤ 3) : (∃ f, OkR f w.now (w.now + 4294967296) (wS w r) l) ∧ (wS w r).now = w.now + 1 := by
 obtain ⟨h0, hp⟩ := h
 have mk : ∀ (f : Int → Nat) (x : Wh), RelP f w.now (w.now + 4294967296) x l → x.now = w.now + 1 → OkR f w.now (w.now + 4294967296) x l := fun f x k e => ⟨k, by rw [e]; omega, by rw [e]; exact hn, h0, by omega, hl⟩
 have a0 : RelP (placeD w.now) w.now (w.now + 4294967296) ⟨w.now + 1, w.sl⟩ l := ⟨hp.len, hp.inn, hp.so, hp.eq⟩
 have a3 : (∃ f, RelP f w.now (w.now + 4294967296) (wS w 2) l) ∧ (wS w 2).now = w.now + 1 := by
  show (∃ f, RelP f _ _ (tick3 ⟨w.now + 1, w.sl⟩) l) ∧ (tick3 ⟨w.now + 1, w.sl⟩).now = _
  unfold tick3
  by_cases c : (⟨w.now + 1, w.sl⟩ : Wh).now % 16777216 = 0
  ·rw [if_pos c]
   have := a0.down 3 (by omega)
   exact ⟨⟨_, this.1⟩, this.2⟩
  ·rw [if_neg c]
   exact ⟨⟨_, a0⟩, rfl⟩
 have a2 : (∃ f, RelP f w.now (w.now + 4294967296) (wS w 1) l) ∧ (wS w 1).now = w.now + 1 := by
  obtain ⟨⟨f, k1⟩, k2⟩ := a3
  show (∃ f, RelP f _ _ (tick2 (wS w 2)) l) ∧ (tick2 (wS w 2)).now = _
  unfold tick2
  split
  ·have := k1.down 2 (by omega)
   exact ⟨⟨_, this.1⟩, this.2.trans k2⟩
  ·exact ⟨⟨_, k1⟩, k2⟩
 have a1 := Rel.cas ⟨h0, hp⟩
 match r, hr with
 | 0, _ => exact ⟨⟨_, mk _ _ a1.1 a1.2⟩, a1.2⟩
 | 1, _ => obtain ⟨⟨f, k1⟩, k2⟩ := a2; exact ⟨⟨f, mk f _ k1 k2⟩, k2⟩
 | 2, _ => obtain ⟨⟨f, k1⟩, k2⟩ := a3; exact ⟨⟨f, mk f _ k1 k2⟩, k2⟩
 | 3, _ => exact ⟨⟨_, mk _ _ a0 rfl⟩, rfl⟩
theorem ws_step {w : Wh} {l : List Tmr} (h : Rel w l) (hn : w.now + 1 ≤ 4611686018427387904) (hl : l.length ≤ 1000) (r : Nat) (h1 : 1 ≤ r) (hr : r ≤ 3) : wS w (r - 1) = if lowB (w.now + 1) r = true then downD (wS w r) r else wS w r := by
 have e := (ws_ok h hn hl r hr).2
 match r, h1, hr, e with
 | 1, _, _, e =>
  show tick1 (wS w 1) = _
  unfold tick1 lowB
  rw [e]
  simp only [decide_eq_true_eq]
 | 2, _, _, e =>
  show tick2 (wS w 2) = _
  unfold tick2 lowB
  rw [e]
  simp only [decide_eq_true_eq]
 | 3, _, _, e =>
  show tick3 (wS w 3) = _
  unfold tick3 lowB
  rw [e]
  simp only [decide_eq_true_eq]
attribute [local irreducible] Decidable.decide awp ARun regK toK zW zBig28 wS shlV bitsV
set_option maxHeartbeats 16000000 in
theorem tick_c {w : Wh} {l : List Tmr} (h : Rel w l) (hn : w.now + 1 ≤ 4611686018427387904) (hl : l.length ≤ 1000) (cs : ∀ m : List Tmr, m = ((casD w).at (digD (casD w).now 0)).filter (dueB (casD w).now) → FnL Try.prog 61 [.own 1000 0 0 m.length, .val (.func (.func 62) #[] #[])] [(6, m.map encTm)] (.tup []) [(sortT m).map encTm]) : FnC Try.prog 43 [.agg (encWh w)] (.tup [.agg (encWh (tickW w)), encTs (tickO w)]) := by
 have h0 := h.1
 have hle := encWh_len h.2.len
 have hcl := encWh_closed w
 have g0 : setF (encWh w) (0 + 0) [.val (.int .i64 (w.now + 1))] = some (encWh (wS w 3)) := by rw [ws3]; exact now_set h.2.len (w.now + 1)
 have hok := ws_ok h hn hl
 have hst := ws_step h hn hl
 have hWl : ∀ r, r ≤ 3 → (encWh (wS w r)).length = 1025 := fun r hr => by
  obtain ⟨⟨f, k⟩, _⟩ := hok r hr
  exact k.ok.e
 have hW0 : ∀ r, r ≤ 3 → (encWh (wS w r))[0 + 0]? = some (.val (.int .i64 (w.now + 1))) := fun r hr => by
  rw [← (hok r hr).2]
  rfl
 refine goF Try.func43 (closedL_cons (.agg hcl) closedL_nil) (fun w0 st0 => ?_)
 dsimp only [frOf]
 (repeat' (first | refine boxW (t := 28) rfl hle rfl rfl rfl ?_ | refine allocW (t := 28) rfl zall zW_eq zW_len rfl rfl rfl ?_ | refine goA ?_ | refine storeC rfl rfl rfl rfl rfl rfl g0 rfl ?_ | refine goB ?_ | fail))
 refine awp_loopT (T := Nat × Int × Nat) (fun t => ⟨[(1, .ptr 1 0 0 0), (2, .ptr 2 1 0 0), (4, .val (.int .i64 t.2.1))], [(1, some ⟨0, 1025, [encWh (wS w t.1)]⟩), (2, some ⟨1, 1025, [zW]⟩)], t.2.2⟩) (fun t => t.1 ≤ 3 ∧ t.2.1 = (t.1 : Nat)) (fun t => t.1) (3, 3, _) ⟨Nat.le_refl _, rfl⟩ ⟨⟨rfl, rfl, rfl, trivial⟩, ⟨rfl, rfl, trivial⟩, Nat.le_refl _⟩ (fun t ht => ?_)
 obtain ⟨r, z, gc⟩ := t
 dsimp only at ht ⊢
 obtain ⟨hr, hz⟩ := ht
 by_cases hlt : 0 < r
 ·have d1 : decide (0 < z) = true := decide_eq_true (by omega)
  have hz3 : z = 1 ∨ z = 2 ∨ z = 3 := by omega
  have t1 := low_eq hz3 (n := w.now + 1) (by omega) (by omega)
  have hs1 : 1 ≤ shlV .i64 1 (8 * z) ∧ shlV .i64 1 (8 * z) ≤ 16777216 := by
   rw [shl_r hz3]
   rcases hz3 with rfl | rfl | rfl <;> decide
  have hzr : z.toNat = r := by omega
  rw [hzr] at t1
  have hx0 := hW0 r hr
  have hxl := hWl r hr
  have e1 := hst r hlt hr
  obtain ⟨⟨f, k⟩, _⟩ := hok r hr
  have c1 := down_c f _ _ _ _ r hr k
  rw [← hz] at c1
  have hyl := hWl (r - 1) (by omega)
  cases hb : lowB (w.now + 1) r with
  | true =>
   rw [hb] at t1
   rw [hb, if_pos rfl] at e1
   rw [← e1] at c1
   clear e1 hst hok k cs hW0 hWl
   have hI : ∃ r', r' = r - 1 := ⟨_, rfl⟩
   obtain ⟨r', hr'⟩ := hI
   rw [← hr'] at c1 hyl
   generalize wS w r = wr at *
   (repeat' (first | refine storeW (t := 28) rfl rfl rfl rfl rfl hyl hxl rfl rfl ?_ | refine loadW (t := 28) rfl rfl rfl rfl rfl hxl rfl rfl ?_ | refine loadC rfl rfl rfl rfl rfl hx0 rfl rfl ?_ | refine goA ?_ | refine cX c1 ?_ | refine goB ?_ | fail))
   exact ⟨(r', z - 1, _), ⟨⟨rfl, rfl, rfl, trivial⟩, ⟨rfl, rfl, trivial⟩, Nat.le_refl _⟩, ⟨by dsimp only; omega, by dsimp only; omega⟩, (by dsimp only; omega)⟩
  | false =>
   rw [hb] at t1
   rw [hb, if_neg (by decide)] at e1
   clear hst hok k cs hW0 hWl c1 hyl
   (repeat' (first | refine loadC rfl rfl rfl rfl rfl hx0 rfl rfl ?_ | refine goA ?_ | refine goB ?_ | fail))
   rw [← e1]
   exact ⟨(r - 1, z - 1, _), ⟨⟨rfl, rfl, rfl, trivial⟩, ⟨rfl, rfl, trivial⟩, Nat.le_refl _⟩, ⟨by dsimp only; omega, by dsimp only; omega⟩, (by dsimp only; omega)⟩
 ·obtain rfl : r = 0 := by omega
  subst hz
  have d1 : decide ((0 : Int) < ((0 : Nat) : Int)) = false := decide_eq_false (by omega)
  have hx0 := hW0 0 (by omega)
  have hxl := hWl 0 (by omega)
  have c1 := digit_c (w.now + 1) 0 ⟨by omega, by omega⟩ (.inl rfl)
  have hnow : (wS w 0).now = w.now + 1 := (hok 0 (by omega)).2
  have hcas : casD w = wS w 0 := (ws0 w).symm
  obtain ⟨f, k⟩ := (hok 0 (by omega)).1
  have hdl := dig_lt (w.now + 1) 0
  have hdg : 0 ≤ digI (w.now + 1) (0 : Int).toNat ∧ digI (w.now + 1) (0 : Int).toNat < 256 := by
   show 0 ≤ (w.now + 1) % 256 ∧ (w.now + 1) % 256 < 256
   omega
  have hF : 0 + 1 + (0 : Int).toNat * 256 + (digI (w.now + 1) (0 : Int).toNat).toNat * 1 = digD (w.now + 1) 0 + 1 := by
   show 0 + 1 + 0 * 256 + digD (w.now + 1) 0 * 1 = _
   omega
  have g1 := slot_get k.r.len (show digD (w.now + 1) 0 < 1024 by omega) hF
  have g2 := slot_set k.r.len (show digD (w.now + 1) 0 < 1024 by omega) hF (((wS w 0).at (digD (w.now + 1) 0)).filter (fun t => !dueB (w.now + 1) t))
  have eW : tickW w = ⟨(wS w 0).now, (wS w 0).sl.set (digD (w.now + 1) 0) (((wS w 0).at (digD (w.now + 1) 0)).filter (fun t => !dueB (w.now + 1) t))⟩ := by
   unfold tickW
   rw [hcas, hnow]
  have eO : tickO w = sortT (((wS w 0).at (digD (w.now + 1) 0)).filter (dueB (w.now + 1))) := by
   unfold tickO
   rw [hcas, hnow]
  have c2 := cs (((wS w 0).at (digD (w.now + 1) 0)).filter (dueB (w.now + 1))) (by rw [hcas, hnow])
  rw [← eW] at g2
  rw [eO]
  have hml : ((wS w 0).at (digD (w.now + 1) 0)).length ≤ 1000 := by
   have h1 := at_len (wS w 0) (digD (w.now + 1) 0)
   have h2 := k.r.flen
   have h3 := k.ln
   omega
  have hWt : (encWh (tickW w)).length = 1025 := encWh_len (by rw [eW]; show ((wS w 0).sl.set _ _).length = _; rw [List.length_set]; exact k.r.len)
  have hWc := encWh_closed (tickW w)
  clear eW eO hst hok k cs hW0 hWl hnow hcas f hF
  generalize (wS w 0).at (digD (w.now + 1) 0) = m at *
  generalize encWh (tickW w) = Wt at *
  generalize encWh (wS w 0) = Wc at *
  have em : (((m.map encTm).length : Nat) : Int) = m.length := by rw [List.length_map]
  have ec : (m.filter (dueB (w.now + 1))).length = ((m.filter (dueB (w.now + 1))).map encTm).length := by rw [List.length_map]
  rw [ec] at c2
  (repeat' (first | refine loadC rfl rfl rfl rfl rfl hx0 rfl rfl ?_ | refine goA ?_ | refine cX c1 ?_ | refine ARun.indexArr rfl rfl (by omega) (by omega) rfl rfl rfl rfl (guardF_spec rfl) ?_ | refine ARun.nilCheckP rfl rfl (guardF_spec rfl) ?_ | refine loadC rfl rfl rfl rfl rfl g1 rfl rfl ?_ | refine goB ?_ | fail))
  refine awp_ownNil 6 6 rfl rfl rfl ?_
  refine awp_ownNil 7 6 rfl rfl rfl ?_
  refine awp_loopT (T := Nat × List (List AV) × Nat × List (List AV) × Nat × Nat) (fun t => ⟨[(1, .ptr 1 0 0 0), (2, .ptr 2 1 0 0), (5, .ptr 1 0 0 (0 + 1 + (0 : Int).toNat * 256 + (digI (w.now + 1) (0 : Int).toNat).toNat * 1)), (6, .own 6 t.2.2.1 0 t.2.1.length), (7, .own 7 t.2.2.2.2.1 0 t.2.2.2.1.length), (37, encTs m), (38, .val (.int .i64 ((m.map encTm).length : Nat))), (39, .val (.int .i64 (t.1 : Nat)))], [(1, some ⟨0, 1025, [Wc]⟩), (2, some ⟨1, 1025, [zW]⟩), (6, some ⟨t.2.2.1, 6, t.2.1⟩), (7, some ⟨t.2.2.2.2.1, 6, t.2.2.2.1⟩)], t.2.2.2.2.2⟩) (fun t => t.1 ≤ m.length ∧ t.2.1 = ((m.take t.1).filter (dueB (w.now + 1))).map encTm ∧ t.2.2.2.1 = ((m.take t.1).filter (fun t => !dueB (w.now + 1) t)).map encTm) (fun t => m.length - t.1) (0, [], _, [], _, _) ⟨Nat.zero_le _, rfl, rfl⟩ ⟨⟨rfl, rfl, rfl, rfl, rfl, rfl, rfl, rfl, trivial⟩, ⟨rfl, rfl, rfl, rfl, trivial⟩, Nat.le_refl _⟩ (fun t ht => ?_)
  obtain ⟨i, r6, g6, r7, g7, gc2⟩ := t
  dsimp only at ht ⊢
  obtain ⟨hi, e6, e7⟩ := ht
  by_cases hlt : i < m.length
  ·have d2 : decide (((i : Nat) : Int) < ((m.map encTm).length : Nat)) = true := decide_eq_true (by omega)
   obtain ⟨x, hx⟩ : ∃ x, m[i]? = some x := ⟨_, List.getElem?_eq_getElem hlt⟩
   have hp : (m.map encTm)[((i : Nat) : Int).toNat]? = some (encTm x) := map_at hx
   have hl6 : r6.length ≤ 1000 := by rw [e6, List.length_map]; have := List.length_filter_le (dueB (w.now + 1)) (m.take i); rw [List.length_take] at this; omega
   have hl7 : r7.length ≤ 1000 := by rw [e7, List.length_map]; have := List.length_filter_le (fun t => !dueB (w.now + 1) t) (m.take i); rw [List.length_take] at this; omega
   cases hb : dueB (w.now + 1) x with
   | true =>
    have d3 : (x.due == w.now + 1) = true := hb
    (repeat' (first | refine loadC rfl rfl rfl rfl rfl hx0 rfl rfl ?_ | refine goA ?_ | refine ARun.indexAddr rfl rfl (by omega) (by with_reducible exact hp) rfl rfl rfl rfl rfl (guardF_spec rfl) ?_ | refine appO rfl ?_ | refine goB ?_ | fail))
    refine ⟨(i + 1, _, _, _, _, _), ⟨⟨rfl, rfl, rfl, rfl, rfl, rfl, rfl, rfl, trivial⟩, ⟨rfl, rfl, rfl, rfl, trivial⟩, Nat.le_refl _⟩, ⟨hlt, ?_, ?_⟩, (by dsimp only; omega)⟩
    ·dsimp only
     rw [e6, take_succ' hx, List.filter_append, List.map_append, show [x].filter (dueB (w.now + 1)) = [x] by rw [List.filter_cons, if_pos hb]; rfl]
     rfl
    ·dsimp only
     rw [e7, take_succ' hx, List.filter_append, List.map_append, show [x].filter (fun t => !dueB (w.now + 1) t) = [] by rw [List.filter_cons, hb]; rfl]
     exact (List.append_nil _).symm
   | false =>
    have d3 : (x.due == w.now + 1) = false := hb
    (repeat' (first | refine loadC rfl rfl rfl rfl rfl hx0 rfl rfl ?_ | refine goA ?_ | refine ARun.indexAddr rfl rfl (by omega) (by with_reducible exact hp) rfl rfl rfl rfl rfl (guardF_spec rfl) ?_ | refine appO rfl ?_ | refine goB ?_ | fail))
    refine ⟨(i + 1, _, _, _, _, _), ⟨⟨rfl, rfl, rfl, rfl, rfl, rfl, rfl, rfl, trivial⟩, ⟨rfl, rfl, rfl, rfl, trivial⟩, Nat.le_refl _⟩, ⟨hlt, ?_, ?_⟩, (by dsimp only; omega)⟩
    ·dsimp only
     rw [e6, take_succ' hx, List.filter_append, List.map_append, show [x].filter (dueB (w.now + 1)) = [] by rw [List.filter_cons, hb]; rfl]
     exact (List.append_nil _).symm
    ·dsimp only
     rw [e7, take_succ' hx, List.filter_append, List.map_append, show [x].filter (fun t => !dueB (w.now + 1) t) = [x] by rw [List.filter_cons, hb]; rfl]
     rfl
  ·have d2 : decide (((i : Nat) : Int) < ((m.map encTm).length : Nat)) = false := decide_eq_false (by omega)
   have hfull : m.take i = m := List.take_of_length_le (by omega)
   rw [hfull] at e6 e7
   subst e6
   subst e7
   have g2' : setF Wc (0 + 1 + (0 : Int).toNat * 256 + (digI (w.now + 1) (0 : Int).toNat).toNat * 1) [.sl 6 false ((m.filter (fun t => !dueB (w.now + 1) t)).map encTm)] = some Wt := g2
   (repeat' (first | refine goN ?_ | refine awp_region_ne 16 rfl (fun _ => hmix) ?_ | refine ARun.o rfl ?_ | refine goB ?_ | ((fail_if_success refine ARun.plain rfl ?_); refine ARun.fork rfl rfl rfl (fun h => ?_) (fun h => ?_)) | refine awp_cond rfl (fun h => ?_) (fun h => ?_)))
   refine awp_freeze 7 g7 6 ((m.filter (fun t => !dueB (w.now + 1) t)).map encTm) (fr' := [(1, .ptr 1 0 0 0), (2, .ptr 2 1 0 0), (5, .ptr 1 0 0 (0 + 1 + (0 : Int).toNat * 256 + (digI (w.now + 1) (0 : Int).toNat).toNat * 1)), (6, .own 6 g6 0 ((m.filter (dueB (w.now + 1))).map encTm).length), (7, .sl 6 false ((m.filter (fun t => !dueB (w.now + 1) t)).map encTm))]) (hp' := [(1, some ⟨0, 1025, [Wc]⟩), (2, some ⟨1, 1025, [zW]⟩), (6, some ⟨g6, 6, (m.filter (dueB (w.now + 1))).map encTm⟩)]) rfl (rows_closed _) ⟨.inl rfl, .inl rfl, .inl rfl, .inl rfl, .inr ⟨_, rfl, rfl, rfl⟩, trivial⟩ ⟨⟨rfl, rfl⟩, ⟨rfl, rfl⟩, ⟨rfl, rfl⟩, trivial⟩ ?_
   (repeat' (first | refine storeW (t := 28) rfl rfl rfl rfl rfl hWt zW_len rfl rfl ?_ | refine loadW (t := 28) rfl rfl rfl rfl rfl hWt rfl rfl ?_ | refine goA ?_ | refine ARun.nilCheckP rfl rfl (guardF_spec rfl) ?_ | refine storeC rfl rfl rfl rfl rfl rfl g2' rfl ?_ | refine callR 6 _ 6 ((m.filter (dueB (w.now + 1))).map encTm) ((sortT (m.filter (dueB (w.now + 1)))).map encTm) c2 (rows_closed _) (rows_closed _) (RelL.cons (.own (j := 0) 0 _ rfl) (RelL.cons (.wk (.same _) (.val _)) (RelL.nil _))) (.same _ (.tup closedL_nil)) rfl rfl rfl rfl rfl ?_ | refine goB ?_ | fail))
   exact awp_ret ⟨_, ResL.cons (ResA.agg rfl rfl rfl rfl rfl rfl (loadCs_all hWt) (RL.allClosed hWc)) (ResL.cons (ResA.tmp (.owned rfl rfl (by rw [List.length_map, List.length_map, sortT_len]) (rows_closed _))) .nil), rfl⟩
end Go.Proofs.Ytkmlmboclegpcaa
namespace Go.Proofs.Ytkmlmboclegpcaa
open Go Go.RowKit
set_option maxRecDepth 100000
def idxT (p : Tmr → Bool) : List Tmr → Int → Int
 | [], _ => -1
 | x :: l, k => if p x = true then k else idxT p l (k + 1)
theorem idxT_none (p : Tmr → Bool) : ∀ {l : List Tmr} {k : Int}, l.any p = false → idxT p l k = -1
 | [], _, _ => rfl
 | x :: l, k, h => by
  rw [List.any_cons, Bool.or_eq_false_iff] at h
  unfold idxT
  rw [if_neg (by rw [h.1]; decide)]
  exact idxT_none p h.2
theorem idxT_at (p : Tmr → Bool) : ∀ {l : List Tmr} {k : Int} {i : Nat} {x : Tmr}, (∀ y, y ∈ l.take i → p y = false) → l[i]? = some x → p x = true → idxT p l k = k + i
 | y :: l, k, 0, x, _, hx, hp => by
  obtain rfl := Option.some.inj hx
  unfold idxT
  rw [if_pos hp]
  simp
 | y :: l, k, i + 1, x, h, hx, hp => by
  unfold idxT
  rw [if_neg (by rw [h y (by simp)]; decide), idxT_at p (l := l) (i := i) (fun z hz => h z (by rw [List.take_succ_cons]; exact List.mem_cons_of_mem _ hz)) (by simpa using hx) hp]
  omega
theorem take_no {p : Tmr → Bool} {l : List Tmr} {i : Nat} {x : Tmr} (h : ∀ y, y ∈ l.take i → p y = false) (hx : l[i]? = some x) (hp : p x = false) : ∀ y, y ∈ l.take (i + 1) → p y = false := fun y hy => by
 rw [take_succ' hx] at hy
 rcases List.mem_append.1 hy with hy | hy
 ·exact h y hy
 ·rw [List.mem_singleton.1 hy]; exact hp
theorem any_no {p : Tmr → Bool} {l : List Tmr} (h : ∀ y, y ∈ l → p y = false) : l.any p = false := by
 rw [List.any_eq_false]
 intro y hy
 rw [h y hy]
 decide
def cloT (F : FuncId) (i : Int) : AV := .clo (.func F) [] [.rp [.val (.int .i64 i)]]
theorem cloT_closed (F : FuncId) (i : Int) : Closed (cloT F i) := .clo closedL_nil (closedL_cons (.rp (closedL_cons (.val _) closedL_nil)) closedL_nil)
def IsIdF (F : FuncId) (i : Int) : Prop := ∀ t, FnC Try.prog F [.agg (encTm t), .rp [.val (.int .i64 i)]] (.val (.bool (idB i t)))
attribute [local irreducible] Decidable.decide awp ARun regK toK
theorem cut1_c (i : Int) : IsIdF 55 i := fun t => by
 refine goF Try.func55 (closedL_cons (.agg (encTm_closed t)) (closedL_cons (.rp (closedL_cons (.val _) closedL_nil)) closedL_nil)) (fun w0 st0 => ?_)
 dsimp only [frOf]
 (repeat' (first | refine goA ?_ | refine ARun.loadOne_rp rfl rfl rfl rfl rfl (guardF_spec rfl) ?_ | refine goB ?_ | fail))
 exact awp_ret ⟨_, ResL.cons (ResA.tmp (.val _)) .nil, rfl⟩
theorem cut2_c (i : Int) : IsIdF 58 i := fun t => by
 refine goF Try.func58 (closedL_cons (.agg (encTm_closed t)) (closedL_cons (.rp (closedL_cons (.val _) closedL_nil)) closedL_nil)) (fun w0 st0 => ?_)
 dsimp only [frOf]
 (repeat' (first | refine goA ?_ | refine ARun.loadOne_rp rfl rfl rfl rfl rfl (guardF_spec rfl) ?_ | refine goB ?_ | fail))
 exact awp_ret ⟨_, ResL.cons (ResA.tmp (.val _)) .nil, rfl⟩
set_option maxHeartbeats 4000000 in
theorem index_c (F : FuncId) (i : Int) (hF : IsIdF F i) (l : List Tmr) (hl : l.length ≤ 1000000) : FnC Try.prog 65 [encTs l, cloT F i] (.val (.int .i64 (idxT (idB i) l 0))) := by
 have em : (((l.map encTm).length : Nat) : Int) = l.length := by rw [List.length_map]
 refine goF Try.func65 (closedL_cons (closed_ts l) (closedL_cons (cloT_closed F i) closedL_nil)) (fun w0 st0 => ?_)
 dsimp only [frOf]
 (repeat' (first | refine goA ?_ | refine goB ?_ | fail))
 refine awp_loopT (T := Nat × Nat) (fun t => ⟨[(0, encTs l), (1, cloT F i), (7, .val (.int .i64 ((l.map encTm).length : Nat))), (8, .val (.int .i64 (t.1 : Nat)))], [], t.2⟩) (fun t => t.1 ≤ l.length ∧ ∀ y, y ∈ l.take t.1 → idB i y = false) (fun t => l.length - t.1) (0, _) ⟨Nat.zero_le _, fun y hy => by simp at hy⟩ ⟨⟨rfl, rfl, rfl, rfl, trivial⟩, trivial, Nat.le_refl _⟩ (fun t ht => ?_)
 obtain ⟨k, gc⟩ := t
 dsimp only at ht ⊢
 obtain ⟨hk, hno⟩ := ht
 by_cases hlt : k < l.length
 ·have d1 : decide (((k : Nat) : Int) < ((l.map encTm).length : Nat)) = true := decide_eq_true (by omega)
  obtain ⟨x, hx⟩ : ∃ x, l[k]? = some x := ⟨_, List.getElem?_eq_getElem hlt⟩
  have hp : (l.map encTm)[((k : Nat) : Int).toNat]? = some (encTm x) := map_at hx
  have c1 := hF x
  cases hb : idB i x with
  | true =>
   rw [hb] at c1
   rw [show idxT (idB i) l 0 = ((k : Nat) : Int) by rw [idxT_at (idB i) hno hx hb]; omega]
   (repeat' (first | refine goA ?_ | refine ARun.indexAddr rfl rfl (by omega) (by with_reducible exact hp) rfl rfl rfl rfl rfl (guardF_spec rfl) ?_ | refine callCX (c1) rfl rfl rfl rfl ?_ | refine goB ?_ | fail))
   exact awp_ret ⟨_, ResL.cons (ResA.tmp (.val _)) .nil, rfl⟩
  | false =>
   rw [hb] at c1
   (repeat' (first | refine goA ?_ | refine ARun.indexAddr rfl rfl (by omega) (by with_reducible exact hp) rfl rfl rfl rfl rfl (guardF_spec rfl) ?_ | refine callCX (c1) rfl rfl rfl rfl ?_ | refine goB ?_ | fail))
   exact ⟨(k + 1, _), ⟨⟨rfl, rfl, rfl, rfl, trivial⟩, trivial, Nat.le_refl _⟩, ⟨hlt, take_no hno hx hb⟩, (by dsimp only; omega)⟩
 ·have d1 : decide (((k : Nat) : Int) < ((l.map encTm).length : Nat)) = false := decide_eq_false (by omega)
  rw [List.take_of_length_le (by omega)] at hno
  rw [idxT_none _ (any_no hno)]
  (repeat' (first | refine goA ?_ | refine goB ?_ | fail))
  exact awp_ret ⟨_, ResL.cons (ResA.tmp (.val _)) .nil, rfl⟩
theorem contains_c (F : FuncId) (i : Int) (hF : IsIdF F i) (l : List Tmr) (hl : l.length ≤ 1000000) : FnC Try.prog 51 [encTs l, cloT F i] (.val (.bool (l.any (idB i)))) := by
 have c1 := index_c F i hF l hl
 have e : decide (0 ≤ idxT (idB i) l 0) = l.any (idB i) := by
  cases hb : l.any (idB i) with
  | false => rw [idxT_none _ hb]; exact decide_eq_false (by omega)
  | true =>
   obtain ⟨x, hx, hp⟩ := List.any_eq_true.1 hb
   have key : ∀ (l : List Tmr) (k : Int), 0 ≤ k → l.any (idB i) = true → 0 ≤ idxT (idB i) l k := by
    intro l
    induction l with
    | nil => intro k _ h; cases h
    | cons y l ih =>
     intro k h0 h
     unfold idxT
     split
     ·exact h0
     ·rename_i hn
      rw [List.any_cons, Bool.or_eq_true] at h
      rcases h with h | h
      ·exact absurd h hn
      ·exact ih (k + 1) (by omega) h
   exact decide_eq_true (key l 0 (by omega) hb)
 rw [← e]
 refine goF Try.func51 (closedL_cons (closed_ts l) (closedL_cons (cloT_closed F i) closedL_nil)) (fun w0 st0 => ?_)
 dsimp only [frOf]
 (repeat' (first | refine goA ?_ | refine cX c1 ?_ | refine goB ?_ | fail))
 exact awp_ret ⟨_, ResL.cons (ResA.tmp (.val _)) .nil, rfl⟩
theorem clone_o (l : List Tmr) (hl : l.length ≤ 1000000) : FnO Try.prog 57 [encTs l] 6 (l.map encTm) (fun b g => .own b g 0 (l.map encTm).length) := by
 refine FnO.of_awp (T := tt) (ok := tok) Try.func57 (by kernel_rfl) rfl (by kernel_rfl) (closedL_cons (closed_ts l) closedL_nil) rfl (rows_closed l) (fun w0 st0 => ?_)
 dsimp only [frOf]
 cases l with
 | nil =>
  (repeat' (first | refine goA ?_ | refine ARun.eqNil rfl rfl rfl rfl (guardF_spec rfl) ?_ | refine appF rfl ?_ | refine awp_condAny rfl ?_ ?_ | refine goB ?_ | ((fail_if_success refine ARun.plain rfl ?_); refine ARun.fork rfl rfl rfl (fun h => ?_) (fun h => ?_)) | refine awp_cond rfl (fun h => ?_) (fun h => ?_)))
  ·refine awp_ownNil 2 6 rfl rfl rfl ?_
   refine awp_ret ⟨_, _, _, _, rfl, .cons rfl (.own 0 _) .nil, fun _ _ => rfl⟩
  ·refine awp_ret ⟨_, _, _, _, rfl, .cons rfl (.own 0 _) .nil, fun _ _ => rfl⟩
 | cons y l =>
  (repeat' (first | refine goA ?_ | refine ARun.eqNil rfl rfl rfl rfl (guardF_spec rfl) ?_ | refine appF rfl ?_ | refine goB ?_ | ((fail_if_success refine ARun.plain rfl ?_); refine ARun.fork rfl rfl rfl (fun h => ?_) (fun h => ?_)) | refine awp_cond rfl (fun h => ?_) (fun h => ?_)))
  refine awp_ret ⟨_, _, _, _, rfl, .cons rfl (.own 0 _) .nil, fun _ _ => rfl⟩
set_option maxHeartbeats 4000000 in
theorem index_l (F : FuncId) (i : Int) (hF : IsIdF F i) (l : List Tmr) (n : Nat) (hn : n = l.length) (hl : l.length ≤ 1000000) : FnL Try.prog 65 [.own 1000 0 0 n, cloT F i] [(6, l.map encTm)] (.val (.int .i64 (idxT (idB i) l 0))) [l.map encTm] := by
 refine FnL.of_awp (T := tt) (ok := tok) Try.func65 (by kernel_rfl) rfl (by kernel_rfl) (by kernel_rfl) (fun w0 st0 lent c0 => ?_)
 dsimp only [frOf, hpFrom, List.length_cons, List.length_nil]
 (repeat' (first | refine goA ?_ | refine goB ?_ | fail))
 refine awp_loopT (T := Nat × Nat) (fun t => ⟨[(0, .own 1000 0 0 n), (1, cloT F i), (7, .val (.int .i64 (n : Nat))), (8, .val (.int .i64 (t.1 : Nat)))], [(1000, some ⟨0, 6, l.map encTm⟩)], t.2⟩) (fun t => t.1 ≤ l.length ∧ ∀ y, y ∈ l.take t.1 → idB i y = false) (fun t => l.length - t.1) (0, _) ⟨Nat.zero_le _, fun y hy => by simp at hy⟩ ⟨⟨rfl, rfl, rfl, rfl, trivial⟩, ⟨rfl, trivial⟩, Nat.le_refl _⟩ (fun t ht => ?_)
 obtain ⟨k, gc⟩ := t
 dsimp only at ht ⊢
 obtain ⟨hk, hno⟩ := ht
 by_cases hlt : k < l.length
 ·have d1 : decide (((k : Nat) : Int) < (n : Nat)) = true := decide_eq_true (by omega)
  obtain ⟨x, hx⟩ : ∃ x, l[k]? = some x := ⟨_, List.getElem?_eq_getElem hlt⟩
  have gx : (l.map encTm)[0 + ((k : Nat) : Int).toNat]? = some (encTm x) := map_at (by rw [Nat.zero_add]; exact hx)
  have c1 := hF x
  cases hb : idB i x with
  | true =>
   rw [hb] at c1
   rw [show idxT (idB i) l 0 = ((k : Nat) : Int) by rw [idxT_at (idB i) hno hx hb]; omega]
   (repeat' (first | refine goA ?_ | refine ARun.indexAddr_own rfl rfl rfl rfl (by omega) (by omega) rfl rfl rfl rfl rfl (guardF_spec rfl) ?_ | refine ARun.loadAgg rfl rfl rfl gx rfl rfl rfl rfl (guardF_spec rfl) ?_ | refine callCX (c1) rfl rfl rfl rfl ?_ | refine goB ?_ | fail))
   first
    | exact awp_ret ⟨_, ResL.cons (ResA.tmp (.val _)) .nil, rfl, ⟨_, rfl, RlR.closed (rows_closed _)⟩, trivial⟩
    | exact ⟨_, ResL.cons (ResA.tmp (.val _)) .nil, rfl, ⟨_, rfl, RlR.closed (rows_closed _)⟩, trivial⟩
  | false =>
   rw [hb] at c1
   (repeat' (first | refine goA ?_ | refine ARun.indexAddr_own rfl rfl rfl rfl (by omega) (by omega) rfl rfl rfl rfl rfl (guardF_spec rfl) ?_ | refine ARun.loadAgg rfl rfl rfl gx rfl rfl rfl rfl (guardF_spec rfl) ?_ | refine callCX (c1) rfl rfl rfl rfl ?_ | refine goB ?_ | fail))
   exact ⟨(k + 1, _), ⟨⟨rfl, rfl, rfl, rfl, trivial⟩, ⟨rfl, trivial⟩, Nat.le_refl _⟩, ⟨hlt, take_no hno hx hb⟩, (by dsimp only; omega)⟩
 ·have d1 : decide (((k : Nat) : Int) < (n : Nat)) = false := decide_eq_false (by omega)
  rw [List.take_of_length_le (by omega)] at hno
  rw [idxT_none _ (any_no hno)]
  (repeat' (first | refine goA ?_ | refine goB ?_ | fail))
  first
   | exact awp_ret ⟨_, ResL.cons (ResA.tmp (.val _)) .nil, rfl, ⟨_, rfl, RlR.closed (rows_closed _)⟩, trivial⟩
   | exact ⟨_, ResL.cons (ResA.tmp (.val _)) .nil, rfl, ⟨_, rfl, RlR.closed (rows_closed _)⟩, trivial⟩
def tm0 : Tmr := ⟨0, 0, 0, 0, 0, 0⟩
def notI (i : Int) (t : Tmr) : Bool := !idB i t
theorem split_any {p : Tmr → Bool} : ∀ {l : List Tmr}, l.any p = true → ∃ P x Q, l = P ++ x :: Q ∧ (∀ y, y ∈ P → p y = false) ∧ p x = true
 | [], h => by cases h
 | y :: l, h => by
  cases hb : p y with
  | true => exact ⟨[], y, l, rfl, fun z hz => (by cases hz), hb⟩
  | false =>
   rw [List.any_cons, hb, Bool.false_or] at h
   obtain ⟨P, x, Q, e, h1, h2⟩ := split_any h
   refine ⟨y :: P, x, Q, by rw [e]; rfl, fun z hz => ?_, h2⟩
   rcases List.mem_cons.1 hz with rfl | hz
   ·exact hb
   ·exact h1 z hz
theorem over_tail (K G Z : List Tmr) (h : Z.length = G.length) : overL ((K ++ G).map encTm) (0 + K.length) (Z.map encTm) = (K ++ Z).map encTm := by
 rw [overL_map, Nat.zero_add]
 congr 1
 unfold overL
 rw [List.take_left, h, ← List.length_append, List.drop_length, List.append_nil]
set_option maxHeartbeats 8000000 in
theorem delete_l (F : FuncId) (i : Int) (hF : IsIdF F i) (l : List Tmr) (n : Nat) (hn : n = l.length) (hl : l.length ≤ 1000000) (ha : l.any (idB i) = true) : FnL Try.prog 56 [.own 1000 0 0 n, cloT F i] [(6, l.map encTm)] (.own 1000 0 0 (l.filter (notI i)).length) [(l.filter (notI i) ++ List.replicate (n - (l.filter (notI i)).length) tm0).map encTm] := by
 obtain ⟨P, x, Q, el, hP, hx⟩ := split_any ha
 have hlP : l[P.length]? = some x := by rw [el]; exact mid_get _ _ _ rfl
 have htP : l.take P.length = P := by rw [el, List.take_left]
 have hdP : l.drop (P.length + 1) = Q := by rw [el, ← List.drop_drop, List.drop_left]; rfl
 have hPn : P.filter (notI i) = P := List.filter_eq_self.2 (fun y hy => by unfold notI; rw [hP y hy]; rfl)
 have hlen : l.length = P.length + (Q.length + 1) := by rw [el, List.length_append]; rfl
 have ci := index_l F i hF l n hn hl
 rw [show idxT (idB i) l 0 = ((P.length : Nat) : Int) by rw [idxT_at (idB i) (by rw [htP]; exact hP) hlP hx]; omega] at ci
 have t1 : (((P.length : Nat) : Int) == -1) = false := beq_eq_false_iff_ne.2 (by omega)
 refine FnL.of_awpR (T := tt) (ok := tok) Try.func56 (by kernel_rfl) rfl (by kernel_rfl) (by kernel_rfl) (fun w0 st0 lent c0 => ?_)
 dsimp only [frOf, hpFrom, List.length_cons, List.length_nil]
 (repeat' (first | refine goA ?_ | refine callR 1000 0 6 (l.map encTm) (l.map encTm) ci (rows_closed _) (rows_closed _) (RelL.cons (.own (j := 0) 0 _ rfl) (RelL.cons (.wk (.same _) (cloT_closed _ _)) (RelL.nil _))) (.same _ (.val _)) rfl rfl rfl rfl rfl ?_ | refine goB ?_ | fail))
 refine awp_loopT (T := Nat × List Tmr × List Tmr × List Tmr × Int × Nat) (fun t => ⟨[(0, .own 1000 0 0 n), (1, cloT F i), (5, .val (.int .i64 t.2.2.2.2.1)), (6, .val (.int .i64 (t.1 : Nat)))], [(1000, some ⟨0, 6, t.2.2.2.1.map encTm⟩)], t.2.2.2.2.2⟩) (fun t => t.1 ≤ n ∧ t.2.1 = (l.take t.1).filter (notI i) ∧ t.2.2.2.1 = t.2.1 ++ (t.2.2.1 ++ l.drop t.1) ∧ t.2.1.length + t.2.2.1.length = t.1 ∧ t.2.2.1 ≠ [] ∧ t.2.2.2.2.1 = (t.2.1.length : Nat)) (fun t => n - t.1) (P.length + 1, P, [x], l, ((P.length : Nat) : Int), _) ⟨by dsimp only; omega, by dsimp only; rw [take_succ' hlP, htP, List.filter_append, hPn, List.filter_cons, if_neg (by unfold notI; rw [hx]; decide)]; exact (List.append_nil _).symm, by dsimp only; rw [hdP, el]; rfl, rfl, by simp, rfl⟩ ⟨⟨rfl, rfl, rfl, rfl, trivial⟩, ⟨rfl, trivial⟩, Nat.le_refl _⟩ (fun t ht => ?_)
 obtain ⟨j, K, G, L, z, gc⟩ := t
 dsimp only at ht ⊢
 obtain ⟨hj, hK, hL, hKG, hG, hz⟩ := ht
 by_cases hlt : j < n
 ·have d1 : decide (((j : Nat) : Int) < (n : Nat)) = true := decide_eq_true (by omega)
  obtain ⟨v, hv⟩ : ∃ v, l[j]? = some v := ⟨_, List.getElem?_eq_getElem (by omega)⟩
  have hd : l.drop j = v :: l.drop (j + 1) := by
   rw [List.drop_eq_getElem_cons (by omega)]
   rw [List.getElem?_eq_getElem (by omega)] at hv
   rw [Option.some.inj hv]
  have eL : L = (K ++ G) ++ v :: l.drop (j + 1) := by rw [hL, hd]; simp
  have hdl : (l.drop (j + 1)).length = l.length - (j + 1) := List.length_drop
  have hLl : (L.map encTm).length = n := by rw [List.length_map, eL]; simp only [List.length_append, List.length_cons, hdl]; omega
  have gx : (L.map encTm)[0 + ((j : Nat) : Int).toNat]? = some (encTm v) := map_at (by rw [eL]; exact mid_get _ _ _ (by rw [List.length_append]; show 0 + j = _; omega))
  have c1 := hF v
  cases hb : idB i v with
  | true =>
   rw [hb] at c1
   clear ci
   (repeat' (first | refine goA ?_ | refine ARun.indexAddr_own rfl rfl rfl rfl (by omega) (by omega) rfl rfl rfl rfl rfl (guardF_spec rfl) ?_ | refine ARun.loadAgg rfl rfl rfl gx rfl rfl rfl rfl (guardF_spec rfl) ?_ | refine callCX (c1) rfl rfl rfl rfl ?_ | refine goB ?_ | fail))
   refine ⟨(j + 1, K, G ++ [v], L, z, _), ⟨⟨rfl, rfl, rfl, rfl, trivial⟩, ⟨rfl, trivial⟩, Nat.le_refl _⟩, ⟨hlt, ?_, ?_, ?_, by simp, hz⟩, (by dsimp only; omega)⟩
   ·dsimp only
    rw [take_succ' hv, List.filter_append, ← hK, List.filter_cons, if_neg (by unfold notI; rw [hb]; decide)]
    exact (List.append_nil _).symm
   ·dsimp only
    rw [eL]
    simp
   ·dsimp only
    rw [List.length_append]
    show _ + (_ + 1) = _
    omega
  | false =>
   rw [hb] at c1
   clear ci
   obtain ⟨g0, G1, rfl⟩ : ∃ g0 G1, G = g0 :: G1 := by
    cases G with
    | nil => exact absurd rfl hG
    | cons a b => exact ⟨a, b, rfl⟩
   rw [List.length_cons] at hKG
   have hk : 0 + z.toNat < (L.map encTm).length := by rw [hLl]; omega
   have s1 : (L.map encTm).set (0 + z.toNat) (encTm v) = ((K ++ [v]) ++ ((G1 ++ [v]) ++ l.drop (j + 1))).map encTm := map_set' (by
    rw [show L = K ++ g0 :: (G1 ++ v :: l.drop (j + 1)) by rw [eL]; simp, mid_set _ _ _ _ (by rw [hz]; show 0 + K.length = _; omega)]
    simp)
   have hz0 : 0 ≤ z ∧ z < (n : Nat) := by omega
   (repeat' (first | refine goA ?_ | refine ARun.indexAddr_own rfl rfl rfl rfl (by omega) (by omega) rfl rfl rfl rfl rfl (guardF_spec rfl) ?_ | refine ARun.loadAgg rfl rfl rfl gx rfl rfl rfl rfl (guardF_spec rfl) ?_ | refine callCX (c1) rfl rfl rfl rfl ?_ | refine ARun.storeEl rfl rfl rfl hk (map_len (fun _ => rfl)) rfl rfl rfl rfl rfl s1 (guardF_spec rfl) ?_ | refine goB ?_ | fail))
   refine ⟨(j + 1, K ++ [v], G1 ++ [v], _, _, _), ⟨⟨rfl, rfl, rfl, rfl, trivial⟩, ⟨rfl, trivial⟩, Nat.le_refl _⟩, ⟨hlt, ?_, rfl, ?_, by simp, ?_⟩, (by dsimp only; omega)⟩
   ·dsimp only
    rw [take_succ' hv, List.filter_append, ← hK, List.filter_cons, if_pos (by unfold notI; rw [hb]; rfl)]
    rfl
   ·dsimp only
    rw [List.length_append, List.length_append]
    show _ + 1 + (_ + 1) = _
    omega
   ·dsimp only
    rw [hz, List.length_append]
    rfl
 ·have d1 : decide (((j : Nat) : Int) < (n : Nat)) = false := decide_eq_false (by omega)
  obtain rfl : j = n := by omega
  rw [List.take_of_length_le (by omega)] at hK
  rw [List.drop_of_length_le (by omega), List.append_nil] at hL
  subst hL
  rw [← hK]
  have hKn : K.length ≤ j := by omega
  have hcl : 0 + K.length + (j - K.length) ≤ ((K ++ G).map encTm).length := by rw [List.length_map, List.length_append]; omega
  have eZ : overL ((K ++ G).map encTm) (0 + K.length) (List.replicate (j - K.length) (encTm tm0)) = (K ++ List.replicate (j - K.length) tm0).map encTm := by
   rw [← over_tail K G (List.replicate (j - K.length) tm0) (by rw [List.length_replicate]; omega), List.map_replicate]
  clear ci
  (repeat' (first | refine goA ?_ | refine ARun.sliceOwnFrom rfl rfl rfl rfl hz hKn rfl rfl rfl rfl rfl (guardF_spec rfl) ?_ | refine ARun.sliceOwnTo rfl rfl rfl rfl hz hKn rfl rfl rfl rfl rfl (guardF_spec rfl) ?_ | refine ARun.clear rfl rfl rfl hcl rfl rfl rfl rfl rfl rfl rfl (guardF_spec rfl) ?_ | refine goB ?_ | fail))
  refine awp_ret ⟨_, _, rfl, rfl, .own 0 0 _ rfl, ⟨_, rfl, ?_⟩, trivial⟩
  show RlR _ _ (overL ((K ++ G).map encTm) (0 + K.length) (List.replicate (j - K.length) (encTm tm0))) _
  rw [eZ]
  exact RlR.closed (rows_closed _)
end Go.Proofs.Ytkmlmboclegpcaa
