/- uA13, uA14, uA15. -/
import Derived.Test.YtkmlmboclegpcaaW1
import Derived.Test.YtkmlmboclegpcaaW2
import Derived.Test.YtkmlmboclegpcaaW3
import Derived.Test.YtkmlmboclegpcaaW4
import Derived.Test.YtkmlmboclegpcaauW5
import Derived.Test.YtkmlmboclegpcaauW6
import Derived.Test.YtkmlmboclegpcaauW7
import Derived.Test.YtkmlmboclegpcaauW8
import Derived.Test.YtkmlmboclegpcaauW9
set_option linter.unusedVariables false
set_option linter.unusedSimpArgs false
namespace Go.Proofs.Ytkmlmboclegpcaa
open Go Go.RowKit
set_option maxRecDepth 100000
def filI (i : Int) (l : List Tmr) : List Tmr := l.filter (notI i)
def wC (w : Wh) (i : Int) (k : Nat) : Wh := ⟨w.now, (w.sl.take k).map (filI i) ++ w.sl.drop k⟩
def hadC (w : Wh) (i : Int) (k : Nat) : Bool := (w.sl.take k).any (fun l => l.any (idB i))
theorem wC_len {w : Wh} (h : w.sl.length = 1024) (i : Int) (k : Nat) : (wC w i k).sl.length = 1024 := by
 show ((w.sl.take k).map (filI i) ++ w.sl.drop k).length = 1024
 rw [List.length_append, List.length_map, ← List.length_append, List.take_append_drop, h]
theorem slot_is {w : Wh} (h : w.sl.length = 1024) {k : Nat} (hk : k < 1024) : w.sl[k]? = some (w.at k) := by
 unfold Wh.at
 rw [List.getElem?_eq_getElem (by omega)]
 rfl
theorem drop_at {w : Wh} (h : w.sl.length = 1024) {k : Nat} (hk : k < 1024) : w.sl.drop k = w.at k :: w.sl.drop (k + 1) := by
 have hx := slot_is h hk
 rw [List.drop_eq_getElem_cons (by omega)]
 rw [List.getElem?_eq_getElem (by omega)] at hx
 rw [Option.some.inj hx]
theorem wC_no {w : Wh} (h : w.sl.length = 1024) (i : Int) {k : Nat} (hk : k < 1024) (hn : (w.at k).any (idB i) = false) : wC w i (k + 1) = wC w i k := by
 unfold wC
 rw [take_succ' (slot_is h hk), List.map_append, drop_at h hk, List.append_assoc]
 have : filI i (w.at k) = w.at k := List.filter_eq_self.2 (fun y hy => by
  have := List.any_eq_false.1 hn y hy
  unfold notI
  simpa using this)
 show Wh.mk _ (_ ++ ([filI i (w.at k)] ++ _)) = _
 rw [this]
 rfl
theorem wC_yes {w : Wh} (h : w.sl.length = 1024) (i : Int) {k : Nat} (hk : k < 1024) : (⟨(wC w i k).now, (wC w i k).sl.set k (filI i (w.at k))⟩ : Wh) = wC w i (k + 1) := by
 unfold wC
 dsimp only
 rw [take_succ' (slot_is h hk), List.map_append, drop_at h hk, List.append_assoc]
 have hl : ((w.sl.take k).map (filI i)).length = k := by rw [List.length_map, List.length_take]; omega
 rw [List.set_append_right _ _ (by omega), hl, Nat.sub_self]
 rfl
theorem wC_rows {w : Wh} (i : Int) (k : Nat) : ((wC w i k).sl.drop k).take 256 = (w.sl.drop k).take 256 ∨ w.sl.length < k := by
 by_cases h : w.sl.length < k
 ·exact .inr h
 ·left
  unfold wC
  dsimp only
  have hl : ((w.sl.take k).map (filI i)).length = k := by rw [List.length_map, List.length_take]; omega
  have : ((w.sl.take k).map (filI i) ++ w.sl.drop k).drop k = w.sl.drop k := by
   conv => lhs; rw [← hl]
   rw [hl]
   have := List.drop_left (l₁ := (w.sl.take k).map (filI i)) (l₂ := w.sl.drop k)
   rw [hl] at this
   exact this
  rw [this]
theorem hadC_step {w : Wh} (h : w.sl.length = 1024) (i : Int) {k : Nat} (hk : k < 1024) : hadC w i (k + 1) = (hadC w i k || (w.at k).any (idB i)) := by
 unfold hadC
 rw [take_succ' (slot_is h hk), List.any_append]
 simp
theorem wC_all {w : Wh} (h : w.sl.length = 1024) (i : Int) : wC w i 1024 = cutW w i ∧ hadC w i 1024 = cutB w i := by
 unfold wC hadC cutW cutB
 rw [List.take_of_length_le (by omega), List.drop_of_length_le (by omega), List.append_nil]
 exact ⟨rfl, rfl⟩
attribute [local irreducible] Decidable.decide awp ARun regK toK zW zBig28 wC hadC
set_option maxHeartbeats 16000000 in
theorem cut_c {f : Int → Nat} {lo hi : Int} {w : Wh} {l : List Tmr} (h : OkR f lo hi w l) (i : Int) : FnC Try.prog 41 [.agg (encWh w), .val (.int .i64 i)] (.tup [.agg (encWh (cutW w i)), .val (.bool (cutB w i))]) := by
 have hle := h.ok.e
 have hlen := h.r.len
 have hcl := encWh_closed w
 have hsl : ∀ k, (w.at k).length ≤ 1000 := fun k => by
  have h1 := at_len w k
  have h2 := h.r.flen
  have h3 := h.ln
  omega
 have hWl : ∀ k, (encWh (wC w i k)).length = 1025 := fun k => encWh_len (wC_len hlen i k)
 refine goF Try.func41 (closedL_cons (.agg hcl) (closedL_cons (.val _) closedL_nil)) (fun w0 st0 => ?_)
 dsimp only [frOf]
 (repeat' (first | refine boxW (t := 28) rfl hle rfl rfl rfl ?_ | refine allocW (t := 28) rfl zall zW_eq zW_len rfl rfl rfl ?_ | refine goA ?_ | refine goB ?_ | fail))
 refine awp_frz (fr' := [(2, .ptr 2 0 0 0), (3, .rp [.val (.int .i64 i)]), (4, .ptr 4 2 0 0), (6, .val (.bool false)), (10, .val (.int .i64 0))]) [(3, ⟨1, 1, [[.val (.int .i64 i)]]⟩)] (.cons rfl (clo_all rfl) (.nil _)) ⟨.same _, .ptr1 (.head _) rfl rfl, .same _, .same _, .same _, trivial⟩ ?_
 refine awp_loopT (T := Nat × Wh × Bool × Nat) (fun t => ⟨[(2, .ptr 2 0 0 0), (3, .rp [.val (.int .i64 i)]), (4, .ptr 4 2 0 0), (6, .val (.bool t.2.2.1)), (10, .val (.int .i64 (t.1 : Nat)))], [(2, some ⟨0, 1025, [encWh t.2.1]⟩), (4, some ⟨2, 1025, [zW]⟩)], t.2.2.2⟩) (fun t => t.1 ≤ 4 ∧ t.2.1 = wC w i (256 * t.1) ∧ t.2.2.1 = hadC w i (256 * t.1)) (fun t => 4 - t.1) (0, w, false, _) ⟨Nat.zero_le _, by unfold wC; rfl, by unfold hadC; rfl⟩ ⟨⟨rfl, rfl, rfl, rfl, rfl, trivial⟩, ⟨rfl, rfl, trivial⟩, Nat.le_refl _⟩ (fun t ht => ?_)
 obtain ⟨r, W, had, gc⟩ := t
 dsimp only at ht ⊢
 obtain ⟨hr, hW, hh⟩ := ht
 by_cases hlt : r < 4
 ·have d1 : decide (((r : Nat) : Int) < 4) = true := decide_eq_true (by omega)
  have hWn : W.sl.length = 1024 := by rw [hW]; exact wC_len hlen i _
  have g1 := rows_get hWn hlt (F := 0 + 1 + ((r : Nat) : Int).toNat * 256) (by show 0 + 1 + r * 256 = _; omega)
  rw [show (W.sl.drop (256 * r)).take 256 = (w.sl.drop (256 * r)).take 256 by rw [hW]; exact (wC_rows i _).resolve_right (by omega)] at g1
  have hv : ∀ i, i < 256 → (((w.sl.drop (256 * r)).take 256).map encTs)[((i : Nat) : Int).toNat]? = some (encTs (w.at (256 * r + i))) := fun i hi => row_get hlen hlt hi
  generalize ((w.sl.drop (256 * r)).take 256).map encTs = es at *
  (repeat' (first | refine goA ?_ | refine ARun.indexArr rfl rfl (by omega) (by omega) rfl rfl rfl rfl (guardF_spec rfl) ?_ | refine ARun.loadAgg rfl rfl rfl rfl rfl rfl g1 rfl (guardF_spec rfl) ?_ | refine goB ?_ | fail))
  refine awp_loopT (T := Nat × Wh × Bool × Nat) (fun t => ⟨[(2, .ptr 2 0 0 0), (3, .rp [.val (.int .i64 i)]), (4, .ptr 4 2 0 0), (6, .val (.bool t.2.2.1)), (7, .val (.int .i64 (r : Nat))), (10, .val (.int .i64 (r : Nat))), (16, .agg es), (17, .val (.int .i64 (t.1 : Nat)))], [(2, some ⟨0, 1025, [encWh t.2.1]⟩), (4, some ⟨2, 1025, [zW]⟩)], t.2.2.2⟩) (fun t => t.1 ≤ 256 ∧ t.2.1 = wC w i (256 * r + t.1) ∧ t.2.2.1 = hadC w i (256 * r + t.1)) (fun t => 256 - t.1) (0, W, had, _) ⟨Nat.zero_le _, hW, hh⟩ ⟨⟨rfl, rfl, rfl, rfl, rfl, rfl, rfl, rfl, trivial⟩, ⟨rfl, rfl, trivial⟩, Nat.le_refl _⟩ (fun t ht => ?_)
  obtain ⟨j, W2, had2, gc2⟩ := t
  dsimp only at ht ⊢
  obtain ⟨hj, hW2, hh2⟩ := ht
  by_cases hlj : j < 256
  ·have d2 : decide (((j : Nat) : Int) < 256) = true := decide_eq_true (by omega)
   have hvj := hv j hlj
   have hk : 256 * r + j < 1024 := by omega
   have hml := hsl (256 * r + j)
   have c1 := contains_c 55 i (cut1_c i) (w.at (256 * r + j)) (by omega)
   have hst := hadC_step hlen i hk
   cases hb : (w.at (256 * r + j)).any (idB i) with
   | false =>
    rw [hb] at c1 hst
    have e1 := wC_no hlen i hk hb
    rw [Bool.or_false] at hst
    (repeat' (first | refine goA ?_ | refine ARun.indexAgg rfl rfl (by omega) (by omega) rfl rfl rfl rfl rfl hvj rfl (guardF_spec rfl) ?_ | refine cX c1 ?_ | refine ARun.makeFunc rfl rfl rfl (guardF_spec rfl) ?_ | refine goB ?_ | fail))
    exact ⟨(j + 1, W2, had2, _), ⟨⟨rfl, rfl, rfl, rfl, rfl, rfl, rfl, rfl, trivial⟩, ⟨rfl, rfl, trivial⟩, Nat.le_refl _⟩, ⟨hlj, by rw [hW2, ← e1]; rfl, by rw [hh2, ← hst]; rfl⟩, (by dsimp only; omega)⟩
   | true =>
    rw [hb] at c1 hst
    rw [Bool.or_true] at hst
    have c2 := clone_o (w.at (256 * r + j)) (by omega)
    have c3 := delete_l 58 i (cut2_c i) (w.at (256 * r + j)) ((w.at (256 * r + j)).map encTm).length (by rw [List.length_map]) (by omega) hb
    have hfl : ((w.at (256 * r + j)).filter (notI i)).length ≤ (((w.at (256 * r + j)).filter (notI i) ++ List.replicate (((w.at (256 * r + j)).map encTm).length - ((w.at (256 * r + j)).filter (notI i)).length) tm0).map encTm).length := by rw [List.length_map, List.length_append]; omega
    have hft : (((w.at (256 * r + j)).filter (notI i) ++ List.replicate (((w.at (256 * r + j)).map encTm).length - ((w.at (256 * r + j)).filter (notI i)).length) tm0).map encTm).take ((w.at (256 * r + j)).filter (notI i)).length = (filI i (w.at (256 * r + j))).map encTm := by
     rw [← List.map_take, List.take_left]
     rfl
    have hW2n : W2.sl.length = 1024 := by rw [hW2]; exact wC_len hlen i _
    have g2 := slot_set hW2n hk (F := 0 + 1 + ((r : Nat) : Int).toNat * 256 + ((j : Nat) : Int).toNat * 1) (by show 0 + 1 + r * 256 + j * 1 = _; omega) (filI i (w.at (256 * r + j)))
    have e1 : (⟨W2.now, W2.sl.set (256 * r + j) (filI i (w.at (256 * r + j)))⟩ : Wh) = wC w i (256 * r + (j + 1)) := by
     rw [hW2]
     exact wC_yes hlen i hk
    rw [e1] at g2
    have g2' : setF (encWh W2) (0 + 1 + ((r : Nat) : Int).toNat * 256 + ((j : Nat) : Int).toNat * 1) [.sl 6 false ((filI i (w.at (256 * r + j))).map encTm)] = some (encWh (wC w i (256 * r + (j + 1)))) := g2
    (repeat' (first | refine goA ?_ | refine ARun.indexAgg rfl rfl (by omega) (by omega) rfl rfl rfl rfl rfl hvj rfl (guardF_spec rfl) ?_ | refine cX c1 ?_ | refine ARun.makeFunc rfl rfl rfl (guardF_spec rfl) ?_ | refine callOX [] (c2) (BsOk.nil _) rfl fzT rfl rfl ?_ | refine ARun.indexArr rfl rfl (by omega) (by omega) rfl rfl rfl rfl (guardF_spec rfl) ?_ | refine callRZ 28 _ 6 _ _ _ _ c3 (rows_closed _) (rows_closed _) hfl hft (RelL.cons (.own (j := 0) 0 _ rfl) (RelL.cons (.wk (.same _) (cloT_closed _ _)) (RelL.nil _))) rfl rfl rfl rfl rfl ?_ | refine storeC rfl rfl rfl rfl rfl rfl g2' rfl ?_ | refine goB ?_ | fail))
    exact ⟨(j + 1, wC w i (256 * r + (j + 1)), true, _), ⟨⟨rfl, rfl, rfl, rfl, rfl, rfl, rfl, rfl, trivial⟩, ⟨rfl, rfl, trivial⟩, Nat.le_refl _⟩, ⟨hlj, rfl, hst.symm⟩, (by dsimp only; omega)⟩
  ·have d2 : decide (((j : Nat) : Int) < 256) = false := decide_eq_false (by omega)
   (repeat' (first | refine goA ?_ | refine goB ?_ | fail))
   refine ⟨(r + 1, W2, had2, _), ⟨⟨rfl, rfl, rfl, rfl, rfl, trivial⟩, ⟨rfl, rfl, trivial⟩, Nat.le_refl _⟩, ⟨hlt, ?_, ?_⟩, (by dsimp only; omega)⟩
   ·dsimp only
    rw [hW2, show 256 * r + j = 256 * (r + 1) by omega]
   ·dsimp only
    rw [hh2, show 256 * r + j = 256 * (r + 1) by omega]
 ·have d1 : decide (((r : Nat) : Int) < 4) = false := decide_eq_false (by omega)
  obtain rfl : r = 4 := by omega
  obtain ⟨e1, e2⟩ := wC_all hlen i
  have hWe : W = cutW w i := by rw [hW]; exact e1
  have hhe : had = cutB w i := by rw [hh]; exact e2
  subst hWe
  subst hhe
  have hle2 : (encWh (cutW w i)).length = 1025 := encWh_len (by rw [← e1]; exact wC_len hlen i _)
  have hcl2 := encWh_closed (cutW w i)
  generalize encWh (cutW w i) = Wf at *
  (repeat' (first | refine storeW (t := 28) rfl rfl rfl rfl rfl hle2 zW_len rfl rfl ?_ | refine loadW (t := 28) rfl rfl rfl rfl rfl hle2 rfl rfl ?_ | refine goA ?_ | refine goB ?_ | fail))
  exact awp_ret ⟨_, ResL.cons (ResA.agg rfl rfl rfl rfl rfl rfl (loadCs_all hle2) (RL.allClosed hcl2)) (ResL.cons (ResA.tmp (.val _)) .nil), rfl⟩
end Go.Proofs.Ytkmlmboclegpcaa
namespace Go.Proofs.Ytkmlmboclegpcaa
open Go Go.RowKit
set_option maxRecDepth 100000
def SortOk (N : Nat) : Prop := ∀ L : List Tmr, L.length < N → FnL Try.prog 61 [.own 1000 0 0 L.length, .val (.func (.func 62) #[] #[])] [(6, L.map encTm)] (.tup []) [(sortT L).map encTm]
structure WR (w : Wh) (l : List Tmr) : Prop where
 r : Rel w l
 n1 : w.now ≤ 4000000000000000000
 ln : l.length ≤ 900
theorem WR.ok {w : Wh} {l : List Tmr} (h : WR w l) : OkR (placeD w.now) w.now (w.now + 4294967296) w l := ⟨h.r.2, h.r.1, by have := h.n1; omega, h.r.1, by have := h.n1; omega, by have := h.ln; omega⟩
theorem WR.len {w : Wh} {l : List Tmr} (h : WR w l) : (encWh w).length = 1025 := h.ok.ok.e
theorem all_s {N : Nat} (hs : SortOk N) {w : Wh} {l : List Tmr} (h : WR w l) (hl : l.length < N) : FnC Try.prog 46 [.agg (encWh w)] (encTs l) := by
 have c := all_c h.ok (hs _ (by rw [h.r.2.flen]; exact hl))
 rw [h.r.all] at c
 exact c
theorem tick_s {N : Nat} (hs : SortOk N) {w : Wh} {l : List Tmr} (h : WR w l) (hl : l.length < N) : FnC Try.prog 43 [.agg (encWh w)] (.tup [.agg (encWh (tickW w)), encTs (l.filter (dueB (w.now + 1)))]) := by
 have c := tick_c h.r (by have := h.n1; omega) (by have := h.ln; omega) (fun m hm => hs m (by
  have h1 := at_len (casD w) (digD (casD w).now 0)
  have h2 := h.r.cas.1.flen
  have h3 := List.length_filter_le (dueB (casD w).now) ((casD w).at (digD (casD w).now 0))
  rw [hm]
  omega))
 rw [h.r.tick.2.1] at c
 exact c
theorem WR.tick {w : Wh} {l : List Tmr} (h : WR w l) (hn : w.now + 1 ≤ 4000000000000000000) : WR (tickW w) (l.filter (fun t => !dueB (w.now + 1) t)) := ⟨h.r.tick.1, by rw [h.r.tick.2.2]; exact hn, by have := List.length_filter_le (fun t => !dueB (w.now + 1) t) l; have := h.ln; omega⟩
theorem tick_now {w : Wh} {l : List Tmr} (h : WR w l) : (tickW w).now = w.now + 1 := h.r.tick.2.2
theorem add_s {w : Wh} {l : List Tmr} (h : WR w l) (t : Tmr) (h1 : w.now < t.due) (h2 : t.due < w.now + 4294967296) : FnC Try.prog 39 [.agg (encWh w), .agg (encTm t)] (.tup [.agg (encWh (putD w t)), .val (.int .i64 0)]) := by
 have c := add_c w t h.ok.ok ⟨by have := h.r.1; omega, by have := h.n1; omega⟩
 have hb : addB w t = true := by unfold addB; rw [decide_eq_true_eq]; omega
 rw [hb, if_pos rfl, if_pos rfl] at c
 exact c
theorem WR.add {w : Wh} {l : List Tmr} (h : WR w l) {t : Tmr} (h1 : w.now < t.due) (h2 : t.due < w.now + 4294967296) (hl : l.length < 900) : WR (putD w t) (insT t l) := ⟨h.r.add h1 h2, h.n1, by rw [insT_len]; omega⟩
theorem cut_s {w : Wh} {l : List Tmr} (h : WR w l) (i : Int) : FnC Try.prog 41 [.agg (encWh w), .val (.int .i64 i)] (.tup [.agg (encWh (cutW w i)), .val (.bool (l.any (idB i)))]) := by
 have c := cut_c h.ok i
 rw [h.r.had] at c
 exact c
theorem WR.cut {w : Wh} {l : List Tmr} (h : WR w l) (i : Int) : WR (cutW w i) (l.filter (fun t => !idB i t)) := ⟨h.r.cut i, h.n1, by have := List.length_filter_le (fun t => !idB i t) l; have := h.ln; omega⟩
theorem new_yes {n : Int} (h : 0 ≤ n ∧ n ≤ 2305843009213693952) : FnC Try.prog 35 [.val (.int .i64 n)] (.tup [.agg (encWh (wNew n)), .val (.int .i64 0)]) ∧ WR (wNew n) [] := by
 have c := new_c n
 have hb : newB n = true := by unfold newB; rw [decide_eq_true_eq]; exact h
 rw [hb, if_pos rfl, if_pos rfl] at c
 exact ⟨c, rel_new h.1, by show n ≤ _; omega, Nat.zero_le _⟩
theorem new_no {n : Int} (h : ¬ (0 ≤ n ∧ n ≤ 2305843009213693952)) : FnC Try.prog 35 [.val (.int .i64 n)] (.tup [.agg (encWh (wNew 0)), .val (.int .i64 (-24))]) := by
 have c := new_c n
 have hb : newB n = false := by unfold newB; rw [decide_eq_false_iff_not]; exact h
 rw [hb, if_neg (by decide), if_neg (by decide)] at c
 exact c
def tx1 : Tmr := ⟨1, 3, 0, 0, 0, 0⟩
def tx2 : Tmr := ⟨2, 1, 0, 0, 0, 0⟩
def tx3 : Tmr := ⟨0, 0, 0, 0, 0, 0⟩
structure Ex19 (w0 w1 w2 w3 w4 w5 wc : List AV) : Prop where
 l0 : w0.length = 1025
 l1 : w1.length = 1025
 l2 : w2.length = 1025
 l3 : w3.length = 1025
 l4 : w4.length = 1025
 l5 : w5.length = 1025
 lc : wc.length = 1025
 c0 : FnC Try.prog 35 [.val (.int .i64 0)] (.tup [.agg w0, .val (.int .i64 0)])
 c1 : FnC Try.prog 39 [.agg w0, .agg (encTm tx1)] (.tup [.agg w1, .val (.int .i64 0)])
 c2 : FnC Try.prog 39 [.agg w1, .agg (encTm tx2)] (.tup [.agg w2, .val (.int .i64 0)])
 c3 : FnC Try.prog 39 [.agg w2, .agg (encTm tx3)] (.tup [.agg w2, .val (.int .i64 (-24))])
 c4 : FnC Try.prog 35 [.val (.int .i64 (-1))] (.tup [.agg w0, .val (.int .i64 (-24))])
 c5 : FnC Try.prog 46 [.agg w2] (encTs [tx2, tx1])
 c6 : FnC Try.prog 43 [.agg w2] (.tup [.agg w3, encTs [tx2]])
 c7 : FnC Try.prog 43 [.agg w3] (.tup [.agg w4, encTs []])
 c8 : FnC Try.prog 41 [.agg w4, .val (.int .i64 1)] (.tup [.agg wc, .val (.bool true)])
 c9 : FnC Try.prog 46 [.agg wc] (encTs [])
 ca : FnC Try.prog 43 [.agg w4] (.tup [.agg w5, encTs [tx1]])
 n5 : w5[0 + 0]? = some (.val (.int .i64 3))
attribute [local irreducible] Decidable.decide awp ARun regK toK zW zBig28
end Go.Proofs.Ytkmlmboclegpcaa
namespace Go.Proofs.Ytkmlmboclegpcaa
open Go Go.RowKit
set_option maxRecDepth 100000
attribute [local irreducible] Decidable.decide awp ARun regK toK zW zBig28
end Go.Proofs.Ytkmlmboclegpcaa
