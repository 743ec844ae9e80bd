/- TimerOrder returns true at every input, and leaves its arguments as they were. -/
import Derived.Test.YtkmlmboclegpcaaW1
import Derived.Test.YtkmlmboclegpcaaW2
import Derived.Test.YtkmlmboclegpcaaW3
import Derived.Test.YtkmlmboclegpcaaW4
import Derived.Test.YtkmlmboclegpcaauW5
import Derived.Test.YtkmlmboclegpcaauW6
import Derived.Test.YtkmlmboclegpcaauW7
import Derived.Test.YtkmlmboclegpcaauW8
import Derived.Test.YtkmlmboclegpcaauW9
import Derived.Test.YtkmlmboclegpcaauW10
import Derived.Test.YtkmlmboclegpcaauW11
import Derived.Test.YtkmlmboclegpcaauW12
import Derived.Test.YtkmlmboclegpcaauW13
import Derived.Test.YtkmlmboclegpcaauW14
import Derived.Test.YtkmlmboclegpcaauW15
import Derived.Test.YtkmlmboclegpcaauW16
import Derived.Test.YtkmlmboclegpcaauW17
set_option linter.unusedVariables false
set_option linter.unusedSimpArgs false
namespace Go.Proofs.Ytkmlmboclegpcaa
open Go Go.RowKit
set_option maxRecDepth 100000
theorem PV.sorted {p : List AV} {l : List Tmr} {n r : Int} (h : PV p l n r) : SortedT l := by
 obtain ⟨w, h, rfl⟩ := h
 exact h.p.r.r.2.so
def AllD (D : Int) (L : List Tmr) : Prop := ∀ t, t ∈ L → t.due = D ∧ t.each = 0
theorem AllD.ins {D : Int} {L : List Tmr} (h : AllD D L) {t : Tmr} (ht : t.due = D ∧ t.each = 0) : AllD D (insT t L) := fun u hu => (insT_mem.1 hu).elim (fun e => by rw [e]; exact ht) (h u)
theorem agL_none : ∀ {L : List Tmr}, (∀ t, t ∈ L → t.each = 0) → agL L = [] := fun {L} h => by
 unfold agL
 rw [List.filter_eq_nil_iff.2 (fun t ht => by
  have := h t ht
  unfold agB
  rw [beq_iff_eq.2 this]
  decide)]
 rfl
theorem AllD.ahead {D N : Int} {L : List Tmr} (h : AllD D L) (hN : N + 1 ≠ D) : L.filter (dueB (N + 1)) = [] ∧ nextL N L = L := by
 have h1 : ∀ t, t ∈ L → dueB (N + 1) t = false := fun t ht => beq_eq_false_iff_ne.2 (by rw [(h t ht).1]; exact fun e => hN e.symm)
 have e1 : L.filter (dueB (N + 1)) = [] := List.filter_eq_nil_iff.2 (fun t ht => by rw [h1 t ht]; decide)
 refine ⟨e1, ?_⟩
 unfold nextL
 rw [e1, List.filter_eq_self.2 (fun t ht => by rw [h1 t ht]; rfl)]
 unfold agL
 rfl
theorem AllD.at {D N : Int} {L : List Tmr} (h : AllD D L) (hN : N + 1 = D) : L.filter (dueB (N + 1)) = L ∧ nextL N L = [] := by
 have h1 : ∀ t, t ∈ L → dueB (N + 1) t = true := fun t ht => beq_iff_eq.2 (by rw [(h t ht).1]; exact hN.symm)
 have e1 : L.filter (dueB (N + 1)) = L := List.filter_eq_self.2 h1
 refine ⟨e1, ?_⟩
 unfold nextL
 rw [e1, List.filter_eq_nil_iff.2 (fun t ht => by rw [h1 t ht]; decide), agL_none (fun t ht => (h t ht).2)]
 rfl
theorem ids_up {D : Int} {L : List Tmr} (hs : SortedT L) (hu : UniqI L) (h : AllD D L) {k : Nat} {x y : Tmr} (hx : L[k]? = some x) (hy : L[k + 1]? = some y) : x.id < y.id := by
 have h1 := ltT_no.1 (sorted_at hs hx hy (by omega))
 have h2 := (h x (List.mem_of_getElem? hx)).1
 have h3 := (h y (List.mem_of_getElem? hy)).1
 have h4 : x.id ≠ y.id := by
  intro e
  have hsub : (L.drop k).filter (idB x.id) = x :: y :: (L.drop (k + 1 + 1)).filter (idB x.id) := by
   have a1 : idB x.id x = true := beq_iff_eq.2 rfl
   have a2 : idB x.id y = true := beq_iff_eq.2 e.symm
   rw [drop_c hx, drop_c hy, List.filter_cons, List.filter_cons, if_pos a1, if_pos a2]
  have hle : ((L.drop k).filter (idB x.id)).length ≤ (L.filter (idB x.id)).length := ((List.drop_sublist k L).filter _).length_le
  have := hu x.id
  rw [hsub, List.length_cons, List.length_cons] at hle
  omega
 omega
def hadL (L : List Tmr) : List AV := (List.range 256).map fun j => AV.val (.bool (L.any (idB (j : Nat))))
theorem hadL_len (L : List Tmr) : (hadL L).length = 256 := by unfold hadL; rw [List.length_map, List.length_range]
theorem hadL_nil : hadL [] = List.replicate 256 (.val (.bool false)) := by
 unfold hadL
 rw [← List.length_range (n := 256), ← List.map_const']
 rfl
theorem hadL_closed (L : List Tmr) : ∀ x, x ∈ hadL L → Closed x := fun x hx => by
 obtain ⟨j, _, rfl⟩ := List.mem_map.1 hx
 exact .val _
theorem hadL_at (L : List Tmr) {k : Int} (h : 0 ≤ k ∧ k ≤ 255) : (hadL L)[0 + k.toNat * 1]? = some (.val (.bool (L.any (idB k)))) := by
 obtain ⟨m, rfl⟩ : ∃ m : Nat, k = (m : Int) := ⟨k.toNat, by omega⟩
 rw [Int.toNat_natCast, Nat.zero_add, Nat.mul_one]
 unfold hadL
 rw [List.getElem?_map, List.getElem?_range (by omega)]
 rfl
theorem ins_any (t : Tmr) (p : Tmr → Bool) : ∀ L : List Tmr, (insT t L).any p = (p t || L.any p)
 | [] => rfl
 | x :: L => by
  unfold insT
  split
  ·rw [List.any_cons]
  ·rw [List.any_cons, ins_any t p L, List.any_cons, ← Bool.or_assoc, ← Bool.or_assoc, Bool.or_comm (p x) (p t)]
theorem hadL_set (L : List Tmr) (t : Tmr) (h : 0 ≤ t.id ∧ t.id ≤ 255) : setF (hadL L) (0 + t.id.toNat * 1) [.val (.bool true)] = some (hadL (insT t L)) := by
 rw [setF_one (by rw [hadL_len]; omega)]
 congr 1
 refine List.ext_getElem? (fun j => ?_)
 rw [List.getElem?_set, hadL_len, Nat.zero_add, Nat.mul_one]
 by_cases hj : j < 256
 ·have e : ∀ M : List Tmr, (hadL M)[j]? = some (.val (.bool (M.any (idB (j : Nat))))) := fun M => by
   have := hadL_at M (k := (j : Nat)) (by omega)
   rw [Int.toNat_natCast, Nat.zero_add, Nat.mul_one] at this
   exact this
  rw [e, e, ins_any]
  by_cases q : t.id.toNat = j
  ·rw [if_pos q, if_pos (by omega)]
   rw [show idB (j : Nat) t = true from beq_iff_eq.2 (by omega)]
   rfl
  ·rw [if_neg q]
   rw [show idB (j : Nat) t = false from beq_eq_false_iff_ne.2 (by omega)]
   rfl
 ·have e : ∀ M : List Tmr, (hadL M)[j]? = none := fun M => List.getElem?_eq_none (by rw [hadL_len]; omega)
  rw [e, e]
  split
  ·rw [if_neg (by omega)]
  ·rfl
theorem any_le {L : List Tmr} {i : Int} (h : L.any (idB i) = true) : 0 < L.length := by
 cases L with
 | nil => cases h
 | cons x L => exact Nat.succ_pos _
end Go.Proofs.Ytkmlmboclegpcaa
namespace Go.Proofs.Ytkmlmboclegpcaa
open Go Go.RowKit
set_option maxRecDepth 100000
theorem encU8_closed (n : Int) : ∀ x, x ∈ encU8 n → Closed x := closedL_cons (.val _) closedL_nil
theorem get8 {l : List Int} {i : Nat} {d : Int} (h : l[i]? = some d) : (l.map encU8)[((i : Nat) : Int).toNat]? = some (encU8 d) := by
 rw [Int.toNat_natCast, List.getElem?_map, h]
 rfl
theorem mod_of8 {d m : Int} (h : 0 ≤ d) (hm : 0 < m) : 0 ≤ d.tmod m ∧ d.tmod m < m := by
 rw [Int.tmod_eq_emod_of_nonneg h]
 exact ⟨Int.emod_nonneg _ (by omega), Int.emod_lt_of_pos _ hm⟩
theorem gt0_nil : decide ((0 : Int) < (((([] : List Tmr).map encTm).length : Nat) : Int)) = false := rfl
theorem lt1_nil : decide ((1 : Int) < (((([] : List Tmr).map encTm).length : Nat) : Int)) = false := rfl
theorem zBall : zBig65.all Value.oneCell' = true := by kernel_rfl
theorem zB_eq : zBig65.map zv = hadL [] := by rw [hadL_nil]; kernel_rfl
section
variable {C : ACtx} {ops : Array Oper} {K : AS → List (List Nat × List Nat) → Prop} {k : Nat} {rest : List Oper} {fr : List (Nat × AV)} {hp : List (Nat × Option Blk)} {gc : Nat} {fps : List (List Nat × List Nat)}
 {d : Nat} {ty : TypeId} {pos : String} {after : Array Edge} {gd : Option (Nat × Bool)}
theorem buildA0 {t e nn : Nat} {ti te : TI} {es : List AV} (ht : C.T t = some ti) (hk : ti.k = .array nn e) (hte : C.T e = some te) (hz1 : ti.zero.all Value.oneCell' = true) (he : ti.zero.map zv = es) (hd : Nat.blt d C.n = true) (hg : guardF ops fr ⟨some d, .build t #[], ty, pos, after, gd⟩ = some true) (nx : ARun C ops K (k + 1) rest ⟨(d, .agg es) :: fr, hp, gc⟩ (fps ++ [([], [])])) : ARun C ops K k (⟨some d, .build t #[], ty, pos, after, gd⟩ :: rest) ⟨fr, hp, gc⟩ fps := by
 subst he
 exact ARun.buildArr ht hk hte hz1 (.nil _) hd (guardF_spec hg) nx
end
attribute [local irreducible] Decidable.decide awp ARun regK toK zP zW encP zBig30 zBig28 zBig65 dueB nextL hadL
set_option maxHeartbeats 64000000 in
theorem order20_c (rm : Int) (ids : List Int) (dl : Int) (hrm : 0 ≤ rm ∧ rm ≤ 255) (hids : ∀ x, x ∈ ids → 0 ≤ x ∧ x ≤ 255) (hdl : 0 ≤ dl ∧ dl ≤ 255) : FnC Try.prog 5 [.val (.int .u8 rm), .sl 1 false (ids.map encU8), .val (.int .u8 dl)] (.val (.bool true)) := by
 have c0 := shown20_c
 have lz := zP_len
 have lb := hadL_len []
 have em : (((ids.map encU8).length : Nat) : Int) = ids.length := by rw [List.length_map]
 have z1 : ((0 : Int) != 0) = false := by simp
 have z3 : ((-24 : Int) != -24) = false := by simp
 have z4 : ((-258 : Int) != -258) = false := by simp
 have z5 : ((0 : Int) == 0) = true := by simp
 have z6 : ((-24 : Int) == 0) = false := by simp
 have z7 : ((-258 : Int) == 0) = false := by simp
 have hm1 := mod_of8 (m := 65) hrm.1 (by omega)
 have hm2 := mod_of8 (m := 40) hdl.1 (by omega)
 by_cases h80 : 80 < ids.length
 ·have d1 : decide ((80 : Int) < ((ids.map encU8).length : Nat)) = true := decide_eq_true (by omega)
  refine goF Try.func5 (closedL_cons (.val _) (closedL_cons (closed_map encU8_closed) (closedL_cons (.val _) closedL_nil))) (fun w0 st0 => ?_)
  dsimp only [frOf]
  (repeat' (first | refine goA ?_ | refine cX c0 ?_ | refine goB ?_ | fail))
  exact awp_ret ⟨_, ResL.cons (ResA.tmp (.val _)) .nil, rfl⟩
 have d1 : decide ((80 : Int) < ((ids.map encU8).length : Nat)) = false := decide_eq_false (by omega)
 obtain ⟨p0, hw, c1⟩ := pv_new (n := 1000) (r := rm.tmod 65) ⟨by omega, by omega⟩
 have l0 := hw.len
 refine goF Try.func5 (closedL_cons (.val _) (closedL_cons (closed_map encU8_closed) (closedL_cons (.val _) closedL_nil))) (fun w0 st0 => ?_)
 dsimp only [frOf]
 (repeat' (first | refine storeW (t := 65) rfl rfl rfl rfl rfl lb lb rfl rfl ?_ | refine allocW (t := 65) rfl zBall zB_eq lb rfl rfl rfl ?_ | refine buildA0 (t := 65) rfl rfl rfl zBall zB_eq rfl rfl ?_ | refine storeW (t := 30) rfl rfl rfl rfl rfl (by assumption) (by assumption) rfl rfl ?_ | refine loadW (t := 30) rfl rfl rfl rfl rfl (by assumption) rfl rfl ?_ | refine allocW (t := 30) rfl zPall zP_eq zP_len rfl rfl rfl ?_ | refine goA ?_ | refine cX c0 ?_ | refine cX c1 ?_ | refine goB ?_ | fail))
 generalize hnn : rm.tmod 65 = n at *
 generalize hdd : 1 + dl.tmod 40 = d at *
 have hd : 1 ≤ d ∧ d ≤ 40 := by omega
 refine awp_loopT (T := Nat × List AV × List Tmr × Int × Nat × Nat × Nat) (fun t => ⟨[(1, .sl 1 false (ids.map encU8)), (7, .val (.bool true)), (8, .val (.int .i64 n)), (9, .val (.int .i64 d)), (10, .ptr 10 t.2.2.2.2.1 0 0), (12, .ptr 12 t.2.2.2.2.2.1 0 0), (13, .val (.int .i64 t.2.2.2.1)), (14, .val (.int .i64 (t.1 : Nat)))], [(10, some ⟨t.2.2.2.2.1, 1027, [t.2.1]⟩), (12, some ⟨t.2.2.2.2.2.1, 256, [hadL t.2.2.1]⟩)], t.2.2.2.2.2.2⟩) (fun t => t.1 ≤ ids.length ∧ PV t.2.1 t.2.2.1 1000 n ∧ AllD (1000 + d) t.2.2.1 ∧ t.2.2.2.1 = (t.2.2.1.length : Nat)) (fun t => ids.length - t.1) (0, p0, [], 0, _, _, _) ⟨Nat.zero_le _, hw, fun t ht => (by cases ht), rfl⟩ ⟨⟨rfl, rfl, rfl, rfl, rfl, rfl, rfl, rfl, trivial⟩, ⟨rfl, rfl, trivial⟩, Nat.le_refl _⟩ (fun t ht => ?_)
 clear c0 c1 hw l0
 obtain ⟨i, p, L, M, G10, G12, gc⟩ := t
 dsimp only at ht ⊢
 obtain ⟨hi, hR, hA, hM⟩ := ht
 have lw := hR.len
 have hrg := hR.rng
 by_cases hlt : i < ids.length
 ·have d3 : decide (((i : Nat) : Int) < ((ids.map encU8).length : Nat)) = true := decide_eq_true (by omega)
  obtain ⟨x, hx⟩ : ∃ x, ids[i]? = some x := ⟨_, List.getElem?_eq_getElem hlt⟩
  have hx8 := hids x (List.mem_of_getElem? hx)
  have hp : (ids.map encU8)[((i : Nat) : Int).toNat]? = some (encU8 x) := get8 hx
  have g := hadL_at L hx8
  have lh := hadL_len L
  cases ha : L.any (idB x) with
  | true =>
   rw [ha] at g
   have c3 := pv_start_no hR ⟨x, 0, 0, 0, 0, 0⟩ d false (.inr ha)
   by_cases hf : n ≤ M
   ·have d4 : decide (n ≤ M) = true := decide_eq_true hf
    (repeat' (first | refine storeW (t := 30) rfl rfl rfl rfl rfl (by assumption) (by assumption) rfl rfl ?_ | refine loadW (t := 30) rfl rfl rfl rfl rfl (by assumption) rfl rfl ?_ | refine allocW (t := 30) rfl zPall zP_eq zP_len rfl rfl rfl ?_ | refine goA ?_ | refine cX c3 ?_ | refine ARun.indexAddr rfl rfl (by omega) (by with_reducible exact hp) rfl rfl rfl rfl rfl (guardF_spec rfl) ?_ | refine ARun.indexArr rfl rfl (by omega) (by omega) rfl rfl rfl rfl (guardF_spec rfl) ?_ | refine loadC rfl rfl rfl rfl rfl g rfl rfl ?_ | refine goB ?_ | fail))
    exact ⟨(i + 1, p, L, M, G10, G12, _), ⟨⟨rfl, rfl, rfl, rfl, rfl, rfl, rfl, rfl, trivial⟩, ⟨rfl, rfl, trivial⟩, Nat.le_refl _⟩, ⟨hlt, hR, hA, hM⟩, (by dsimp only; omega)⟩
   ·have d4 : decide (n ≤ M) = false := decide_eq_false hf
    (repeat' (first | refine storeW (t := 30) rfl rfl rfl rfl rfl (by assumption) (by assumption) rfl rfl ?_ | refine loadW (t := 30) rfl rfl rfl rfl rfl (by assumption) rfl rfl ?_ | refine allocW (t := 30) rfl zPall zP_eq zP_len rfl rfl rfl ?_ | refine goA ?_ | refine cX c3 ?_ | refine ARun.indexAddr rfl rfl (by omega) (by with_reducible exact hp) rfl rfl rfl rfl rfl (guardF_spec rfl) ?_ | refine ARun.indexArr rfl rfl (by omega) (by omega) rfl rfl rfl rfl (guardF_spec rfl) ?_ | refine loadC rfl rfl rfl rfl rfl g rfl rfl ?_ | refine goB ?_ | fail))
    exact ⟨(i + 1, p, L, M, G10, G12, _), ⟨⟨rfl, rfl, rfl, rfl, rfl, rfl, rfl, rfl, trivial⟩, ⟨rfl, rfl, trivial⟩, Nat.le_refl _⟩, ⟨hlt, hR, hA, hM⟩, (by dsimp only; omega)⟩
  | false =>
   rw [ha] at g
   by_cases hf : n ≤ M
   ·have d4 : decide (n ≤ M) = true := decide_eq_true hf
    have c3 := pv_start_full hR ⟨x, 0, 0, 0, 0, 0⟩ d false (by omega) ha (by omega)
    (repeat' (first | refine storeW (t := 30) rfl rfl rfl rfl rfl (by assumption) (by assumption) rfl rfl ?_ | refine loadW (t := 30) rfl rfl rfl rfl rfl (by assumption) rfl rfl ?_ | refine allocW (t := 30) rfl zPall zP_eq zP_len rfl rfl rfl ?_ | refine goA ?_ | refine cX c3 ?_ | refine ARun.indexAddr rfl rfl (by omega) (by with_reducible exact hp) rfl rfl rfl rfl rfl (guardF_spec rfl) ?_ | refine ARun.indexArr rfl rfl (by omega) (by omega) rfl rfl rfl rfl (guardF_spec rfl) ?_ | refine loadC rfl rfl rfl rfl rfl g rfl rfl ?_ | refine goB ?_ | fail))
    exact ⟨(i + 1, p, L, M, G10, G12, _), ⟨⟨rfl, rfl, rfl, rfl, rfl, rfl, rfl, rfl, trivial⟩, ⟨rfl, rfl, trivial⟩, Nat.le_refl _⟩, ⟨hlt, hR, hA, hM⟩, (by dsimp only; omega)⟩
   ·have d4 : decide (n ≤ M) = false := decide_eq_false hf
    obtain ⟨p2, hX, c3⟩ := pv_start hR ⟨x, 0, 0, 0, 0, 0⟩ d false (by omega) ha (by omega)
    have lx := hX.len
    have hA2 := hA.ins (t := stT ⟨x, 0, 0, 0, 0, 0⟩ 1000 d false) ⟨rfl, rfl⟩
    have g2 := hadL_set L (stT ⟨x, 0, 0, 0, 0, 0⟩ 1000 d false) hx8
    have hl2 : (insT (stT ⟨x, 0, 0, 0, 0, 0⟩ 1000 d false) L).length = L.length + 1 := insT_len _ _
    have g2 : setF (hadL L) (0 + x.toNat * 1) [.val (.bool true)] = some (hadL (insT (stT ⟨x, 0, 0, 0, 0, 0⟩ 1000 d false) L)) := g2
    generalize insT (stT ⟨x, 0, 0, 0, 0, 0⟩ 1000 d false) L = L2 at *
    (repeat' (first | refine storeW (t := 30) rfl rfl rfl rfl rfl (by assumption) (by assumption) rfl rfl ?_ | refine loadW (t := 30) rfl rfl rfl rfl rfl (by assumption) rfl rfl ?_ | refine allocW (t := 30) rfl zPall zP_eq zP_len rfl rfl rfl ?_ | refine goA ?_ | refine cX c3 ?_ | refine ARun.indexAddr rfl rfl (by omega) (by with_reducible exact hp) rfl rfl rfl rfl rfl (guardF_spec rfl) ?_ | refine ARun.indexArr rfl rfl (by omega) (by omega) rfl rfl rfl rfl (guardF_spec rfl) ?_ | refine loadC rfl rfl rfl rfl rfl g rfl rfl ?_ | refine storeC rfl rfl rfl rfl rfl rfl g2 rfl ?_ | refine goB ?_ | fail))
    exact ⟨(i + 1, p2, L2, M + 1, G10, G12, _), ⟨⟨rfl, rfl, rfl, rfl, rfl, rfl, rfl, rfl, trivial⟩, ⟨rfl, rfl, trivial⟩, Nat.le_refl _⟩, ⟨hlt, hX, hA2, by dsimp only; omega⟩, (by dsimp only; omega)⟩
 ·have d3 : decide (((i : Nat) : Int) < ((ids.map encU8).length : Nat)) = false := decide_eq_false (by omega)
  have c5 := pv_free hR
  have f1 : (n - (L.length : Nat) != n - M) = false := by rw [hM]; simp
  (repeat' (first | refine loadW (t := 30) rfl rfl rfl rfl rfl (by assumption) rfl rfl ?_ | refine goA ?_ | refine cX c5 ?_ | refine goB ?_ | fail))
  refine awp_loopT (T := Nat × Int × Int × List AV × List Tmr × Nat × Nat) (fun t => ⟨[(7, .val (.bool true)), (8, .val (.int .i64 n)), (9, .val (.int .i64 d)), (10, .ptr 10 t.2.2.2.2.2.1 0 0), (13, .val (.int .i64 M)), (18, .val (.int .i64 t.2.1))], [(10, some ⟨t.2.2.2.2.2.1, 1027, [t.2.2.2.1]⟩)], t.2.2.2.2.2.2⟩) (fun t => t.2.1 = (t.1 : Nat) + 1 ∧ t.2.2.1 = 1000 + (t.1 : Nat) ∧ PV t.2.2.2.1 t.2.2.2.2.1 t.2.2.1 n ∧ ((t.2.1 ≤ d ∧ t.2.2.2.2.1 = L) ∨ (t.2.1 = d + 1 ∧ t.2.2.2.2.1 = []))) (fun t => 41 - t.1) (0, 1, 1000, p, L, _, _) ⟨rfl, rfl, hR, .inl ⟨hd.1, rfl⟩⟩ ⟨⟨rfl, rfl, rfl, rfl, rfl, rfl, trivial⟩, ⟨rfl, trivial⟩, Nat.le_refl _⟩ (fun t ht => ?_)
  have hso := hR.sorted
  have hun := hR.uniq
  clear c5 f1 hR lw
  obtain ⟨j, i2, N, p, K, G10, gc2⟩ := t
  dsimp only at ht ⊢
  obtain ⟨hj, hN, hR, hK⟩ := ht
  have lw := hR.len
  rcases hK with ⟨hi2, rfl⟩ | ⟨rfl, rfl⟩
  ·have d4 : decide (i2 ≤ d) = true := decide_eq_true hi2
   obtain ⟨p2, hX, c4⟩ := pv_tick hR (by omega)
   have lx := hX.len
   by_cases hid : i2 < d
   ·have d5 : decide (i2 < d) = true := decide_eq_true hid
    have d6 : (i2 == d) = false := beq_eq_false_iff_ne.2 (by omega)
    obtain ⟨e1, e2⟩ := hA.ahead (N := N) (by omega)
    rw [e1] at c4
    rw [e2] at hX
    have e3 := gt0_nil
    have e4 := lt1_nil
    (repeat' (first | refine storeW (t := 30) rfl rfl rfl rfl rfl (by assumption) (by assumption) rfl rfl ?_ | refine loadW (t := 30) rfl rfl rfl rfl rfl (by assumption) rfl rfl ?_ | refine allocW (t := 30) rfl zPall zP_eq zP_len rfl rfl rfl ?_ | refine goA ?_ | refine cX c4 ?_ | refine awp_loopN 1 ?_ | refine LoopN.step ?_ | refine goB ?_ | fail))
    exact ⟨(j + 1, i2 + 1, N + 1, p2, K, G10, _), ⟨⟨rfl, rfl, rfl, rfl, rfl, rfl, trivial⟩, ⟨rfl, trivial⟩, Nat.le_refl _⟩, ⟨by dsimp only; omega, by dsimp only; omega, hX, .inl ⟨by dsimp only; omega, rfl⟩⟩, (by dsimp only; omega)⟩
   ·have hid2 : i2 = d := by omega
    have d5 : decide (i2 < d) = false := decide_eq_false hid
    have d6 : (i2 == d) = true := beq_iff_eq.2 hid2
    obtain ⟨e1, e2⟩ := hA.at (N := N) (by omega)
    rw [e1] at c4
    rw [e2] at hX
    have eK : (((K.map encTm).length : Nat) : Int) = K.length := by rw [List.length_map]
    have e3 : ((((K.map encTm).length : Nat) : Int) != M) = false := by rw [eK, hM]; simp
    (repeat' (first | refine storeW (t := 30) rfl rfl rfl rfl rfl (by assumption) (by assumption) rfl rfl ?_ | refine loadW (t := 30) rfl rfl rfl rfl rfl (by assumption) rfl rfl ?_ | refine allocW (t := 30) rfl zPall zP_eq zP_len rfl rfl rfl ?_ | refine goA ?_ | refine cX c4 ?_ | refine goB ?_ | fail))
    refine awp_loopT (T := Nat × Nat × Nat) (fun t => ⟨[(7, .val (.bool true)), (8, .val (.int .i64 n)), (9, .val (.int .i64 d)), (10, .ptr 10 G10 0 0), (13, .val (.int .i64 M)), (18, .val (.int .i64 i2)), (19, .ptr 19 t.2.1 0 0), (20, encTs K), (21, .val (.int .i64 ((t.1 : Nat) + 1)))], [(10, some ⟨G10, 1027, [p]⟩), (19, some ⟨t.2.1, 1027, [p2]⟩)], t.2.2⟩) (fun t => True) (fun t => K.length - t.1) (0, _, _) trivial ⟨⟨rfl, rfl, rfl, rfl, rfl, rfl, rfl, rfl, rfl, trivial⟩, ⟨rfl, rfl, trivial⟩, Nat.le_refl _⟩ (fun t ht => ?_)
    clear c4 e3
    obtain ⟨k, G19, gc3⟩ := t
    dsimp only at ht ⊢
    by_cases hlk : k + 1 < K.length
    ·have d7 : decide (((k : Nat) : Int) + 1 < ((K.map encTm).length : Nat)) = true := decide_eq_true (by omega)
     obtain ⟨x, hx⟩ : ∃ x, K[k]? = some x := ⟨_, List.getElem?_eq_getElem (by omega)⟩
     obtain ⟨y, hy⟩ : ∃ y, K[k + 1]? = some y := ⟨_, List.getElem?_eq_getElem hlk⟩
     have hlt2 := ids_up hso hun hA hx hy
     have d8 : decide (y.id ≤ x.id) = false := decide_eq_false (by omega)
     have hp : (K.map encTm)[(((k : Nat) : Int) + 1 - 1).toNat]? = some (encTm x) := by
      rw [show (((k : Nat) : Int) + 1 - 1).toNat = k by omega, List.getElem?_map, hx]
      rfl
     have hq : (K.map encTm)[(((k : Nat) : Int) + 1).toNat]? = some (encTm y) := by
      rw [show (((k : Nat) : Int) + 1).toNat = k + 1 by omega, List.getElem?_map, hy]
      rfl
     (repeat' (first | refine goA ?_ | refine ARun.indexAddr rfl rfl (by omega) (by with_reducible exact hp) rfl rfl rfl rfl rfl (guardF_spec rfl) ?_ | refine ARun.indexAddr rfl rfl (by omega) (by with_reducible exact hq) rfl rfl rfl rfl rfl (guardF_spec rfl) ?_ | refine goB ?_ | fail))
     exact ⟨(k + 1, G19, _), ⟨⟨rfl, rfl, rfl, rfl, rfl, rfl, rfl, rfl, rfl, trivial⟩, ⟨rfl, rfl, trivial⟩, Nat.le_refl _⟩, trivial, (by dsimp only; omega)⟩
    ·have d7 : decide (((k : Nat) : Int) + 1 < ((K.map encTm).length : Nat)) = false := decide_eq_false (by omega)
     (repeat' (first | refine storeW (t := 30) rfl rfl rfl rfl rfl (by assumption) (by assumption) rfl rfl ?_ | refine loadW (t := 30) rfl rfl rfl rfl rfl (by assumption) rfl rfl ?_ | refine goA ?_ | refine goB ?_ | fail))
     exact ⟨(j + 1, i2 + 1, N + 1, p2, [], G10, _), ⟨⟨rfl, rfl, rfl, rfl, rfl, rfl, trivial⟩, ⟨rfl, trivial⟩, Nat.le_refl _⟩, ⟨by dsimp only; omega, by dsimp only; omega, hX, .inr ⟨by dsimp only; omega, rfl⟩⟩, (by dsimp only; omega)⟩
  ·have d4 : decide (d + 1 ≤ d) = false := decide_eq_false (by omega)
   have c5 := pv_free hR
   have f1 : (n - (([] : List Tmr).length : Nat) == n) = true := beq_iff_eq.2 (by simp)
   (repeat' (first | refine loadW (t := 30) rfl rfl rfl rfl rfl (by assumption) rfl rfl ?_ | refine goA ?_ | refine cX c5 ?_ | refine goB ?_ | fail))
   exact awp_ret ⟨_, ResL.cons (ResA.tmp (.val _)) .nil, congrArg (fun b => AV.val (.bool b)) f1.symm⟩
end Go.Proofs.Ytkmlmboclegpcaa
namespace Go.Proofs.Ytkmlmboclegpcaa
open Go Go.RowKit Go.ChangeShapes Go.WideShapes Go.Deep Go.Proofs.Ytkmlmboclegpcaa
set_option maxRecDepth 100000
theorem timerOrder_lifted (os : Os) (started : os.Started) (H : Type) (enc : TypeId × Value → H) :
  ReturnsInHanded {} Try.checked os 5 .any (Rows.timerOrderSpec.pre6 enc Try.prog Try.f5 Rows.timerOrderRow.domain false) (Rows.timerOrderSpec.post enc Try.prog Try.f5 false true false false) := by
 refine returnsInHanded_of_change (C := Try.checked) own_knob started (by kernel_rfl) Try.func5
  (ChangeSpec.witness6 (enc := enc) (C := Try.checked) false ⟨#[], #[.int .u8 0, .slice none 0 0, .int .u8 0], []⟩ 12 (by kernel_rfl) (by kernel_rfl) (by kernel_rfl) (by kernel_rfl)) ?_
 intro W base args ds gs before hval0 hW hcnd _
 have hval : ∀ (j : Nat) t v, Try.f5.params[j]? = some t → args[j]? = some v → Value.okWide Try.prog W .any base t v := hval0
 have hW' := hW
 obtain ⟨p, q, hA0, hV, rfl, hfz, hnd⟩ := hW
 have hA : DataW.TrodAll enc Try.prog W 0 (fun _ => true) true Try.f5.params.toList args.toList ds p := hA0
 rw [Try.params5] at hA hval
 obtain ⟨v0, vs0, d0, ds0, p0, q0, hargs, rfl, rfl, h0, r0⟩ := trodAll_cons hA
 obtain ⟨v1, vs1, d1, ds1, p1, q1, rfl, rfl, rfl, h1, r1⟩ := trodAll_cons r0
 obtain ⟨v2, vs2, d2, ds2, p2, q2, rfl, rfl, rfl, h2, r2⟩ := trodAll_cons r1
 obtain ⟨rfl, rfl, rfl⟩ := trodAll_nil r2
 obtain rfl : args = #[v0, v1, v2] := by cases args; simp_all
 obtain ⟨rfl, rfl⟩ := trodVars_none hV
 have k0 := h0
 have lt0 : ∀ x ∈ p0, x.block < W.heap.size := by obtain ⟨m, hm⟩ := k0; exact DataW.trod_lt m _ _ _ hm
 have k1 := h1
 have lt1 : ∀ x ∈ p1, x.block < W.heap.size := by obtain ⟨m, hm⟩ := k1; exact DataW.trod_lt m _ _ _ hm
 have k2 := h2
 have lt2 : ∀ x ∈ p2, x.block < W.heap.size := by obtain ⟨m, hm⟩ := k2; exact DataW.trod_lt m _ _ _ hm
 obtain ⟨y0, rep0, hy0⟩ := arg_u8 Try.underlying5 (hval 0 5 v0 rfl rfl) h0
 obtain ⟨y1, rep1, hy1⟩ := arg_slice Try.underlying64 (hval 1 64 v1 rfl rfl) h1 (opens_slice (sz := 1) (enc := encU8) Try.underlying64 (by kernel_rfl) (by decide) (fun _ => rfl) (opens_u8 Try.underlying5))
 obtain ⟨y2, rep2, hy2⟩ := arg_u8 Try.underlying5 (hval 2 5 v2 rfl rfl) h2
 clear hA0 hval0
 refine ((order20_c y0 y1 y2 hy0 hy1.2 hy2).law (us := [v0, v1, v2]) rfl (fun i x u hx hu => by
  cases i with
  | zero => simp only [List.getElem?_cons_zero, Option.some.injEq] at hx hu; rw [← hx, ← hu]; exact rep0
  | succ i =>
   simp only [List.getElem?_cons_succ] at hx hu
   cases i with
   | zero => simp only [List.getElem?_cons_zero, Option.some.injEq] at hx hu; rw [← hx, ← hu]; exact rep1
   | succ i =>
    simp only [List.getElem?_cons_succ] at hx hu
    cases i with
    | zero => simp only [List.getElem?_cons_zero, Option.some.injEq] at hx hu; rw [← hx, ← hu]; exact rep2
    | succ i =>
     simp only [List.getElem?_cons_succ] at hx hu
     simp at hx)).mono fun e W' ⟨he, bel⟩ => ?_
 subst he
 exact ⟨_, rfl, _, _, _, [], _, [], hW', trodAll_mk1 (shut_bool Try.underlying4 _), (trodAll_cons_mk (Below.trod laid_out (by kernel_rfl) (of_decide_eq_true (by kernel_rfl)) k0 bel lt0) (trodAll_cons_mk (Below.trod laid_out (by kernel_rfl) (of_decide_eq_true (by kernel_rfl)) k1 bel lt1) (trodAll_cons_mk (Below.trod laid_out (by kernel_rfl) (of_decide_eq_true (by kernel_rfl)) k2 bel lt2) trodAll_mk0))), rfl, bel.frame _, fun h => by cases h⟩
theorem timerOrder_holds : Rows.TimerOrderSaid :=
 OpenClaim.holds_of_wide 5 Try.f5 rfl rfl rfl rfl rfl rfl rfl ⟨rfl, rfl, rfl, rfl, rfl⟩ rfl rfl rfl rfl rfl (by kernel_rfl) Try.func5 (by kernel_rfl)
  (of_decide_eq_true (by kernel_rfl)) (by unfold Func.isWrapper; first | (rw [if_pos (by decide +kernel)]; kernel_rfl) | (rw [if_neg (by decide +kernel)]; exact ⟨rfl, rfl⟩))
  (fun os started H enc _ => timerOrder_lifted os started H enc)
#print axioms timerOrder_holds
end Go.Proofs.Ytkmlmboclegpcaa
