/- uA27, uA28, uA29. -/
import Derived.Test.YtkmlmboclegpcaaW1
import Derived.Test.YtkmlmboclegpcaaW2
import Derived.Test.YtkmlmboclegpcaaW3
import Derived.Test.YtkmlmboclegpcaaW4
import Derived.Test.YtkmlmboclegpcaauW5
import Derived.Test.YtkmlmboclegpcaauW6
import Derived.Test.YtkmlmboclegpcaauW7
import Derived.Test.YtkmlmboclegpcaauW8
import Derived.Test.YtkmlmboclegpcaauW9
import Derived.Test.YtkmlmboclegpcaauW10
import Derived.Test.YtkmlmboclegpcaauW11
set_option linter.unusedVariables false
set_option linter.unusedSimpArgs false
namespace Go.Proofs.Ytkmlmboclegpcaa
open Go Go.RowKit
set_option maxRecDepth 100000
attribute [local irreducible] Decidable.decide awp ARun regK toK
set_option maxHeartbeats 8000000 in
theorem rot_l (A U V R : List Tmr) (n : Nat) (hu : 0 < U.length) (hv : 0 < V.length) (hn : n = A.length + (U.length + (V.length + R.length))) (hb : n ≤ 1000000) : FnL Try.prog 75 [.own 1000 0 0 n, .val (.int .i64 (A.length : Nat)), .val (.int .i64 ((A.length + U.length : Nat) : Int)), .val (.int .i64 ((A.length + U.length + V.length : Nat) : Int)), .val (.func (.func 62) #[] #[])] [(6, (A ++ (U ++ (V ++ R))).map encTm)] (.tup []) [(A ++ (V ++ (U ++ R))).map encTm] := by
 refine FnL.of_awp (T := tt) (ok := tok) Try.func75 (by kernel_rfl) rfl (by kernel_rfl) (by kernel_rfl) (fun w0 st0 lent c0 => ?_)
 dsimp only [frOf, hpFrom, List.length_cons, List.length_nil]
 (repeat' (first | refine goA ?_ | refine awp_skip ?_ | refine goB ?_ | fail))
 refine awp_loopT (T := List Tmr × List Tmr × List Tmr × List Tmr × Int × Int × Nat) (fun t => ⟨[(0, .own 1000 0 0 n), (1, .val (.int .i64 (A.length : Nat))), (2, .val (.int .i64 ((A.length + U.length : Nat) : Int))), (3, .val (.int .i64 ((A.length + U.length + V.length : Nat) : Int))), (4, .val (.func (.func 62) #[] #[])), (10, .val (.int .i64 t.2.2.2.2.1)), (11, .val (.int .i64 t.2.2.2.2.2.1))], [(1000, some ⟨0, 6, (A ++ (t.1 ++ (t.2.1 ++ (t.2.2.1 ++ (t.2.2.2.1 ++ R))))).map encTm⟩)], t.2.2.2.2.2.2⟩) (fun t => t.1.length + t.2.1.length = U.length ∧ t.2.2.1.length + t.2.2.2.1.length = V.length ∧ 0 < t.2.1.length ∧ 0 < t.2.2.1.length ∧ t.1 ++ (t.2.2.1 ++ (t.2.1 ++ t.2.2.2.1)) = V ++ U ∧ t.2.2.2.2.1 = (t.2.1.length : Nat) ∧ t.2.2.2.2.2.1 = (t.2.2.1.length : Nat)) (fun t => t.2.1.length + t.2.2.1.length) ([], U, V, [], _, _, _) ⟨Nat.zero_add _, Nat.add_zero _, hu, hv, by simp, by dsimp only; omega, by dsimp only; omega⟩ ⟨⟨rfl, rfl, rfl, rfl, rfl, rfl, rfl, trivial⟩, ⟨rfl, trivial⟩, Nat.le_refl _⟩ (fun t ht => ?_)
 obtain ⟨P, U2, V2, Q, i, j, gc⟩ := t
 dsimp only at ht ⊢
 obtain ⟨h1, h2, h3, h4, h5, rfl, rfl⟩ := ht
 by_cases he : U2.length = V2.length
 ·have d1 : (((U2.length : Nat) : Int) != (V2.length : Nat)) = false := by rw [he]; simp
  have c1 := swap_l (A ++ P) U2 [] V2 (Q ++ R) n he (by simp only [List.length_append, List.length_nil]; omega) hb
  have e1 : (A ++ P) ++ (U2 ++ ([] ++ (V2 ++ (Q ++ R)))) = A ++ (P ++ (U2 ++ (V2 ++ (Q ++ R)))) := by simp
  have e2 : (A ++ P) ++ (V2 ++ ([] ++ (U2 ++ (Q ++ R)))) = A ++ (V ++ (U ++ R)) := by
   have : (P ++ (V2 ++ (U2 ++ Q))) ++ R = (V ++ U) ++ R := by rw [h5]
   simp only [List.append_assoc, List.nil_append] at this ⊢
   rw [this]
  rw [e1, e2] at c1
  have a1 : (((A ++ P).length : Nat) : Int) = ((A.length + U.length : Nat) : Int) - (U2.length : Nat) := by rw [List.length_append]; omega
  have a2 : (((A ++ P).length + U2.length + ([] : List Tmr).length : Nat) : Int) = ((A.length + U.length : Nat) : Int) := by rw [List.length_append, List.length_nil]; omega
  rw [a1, a2] at c1
  (repeat' (first | refine goA ?_ | refine awp_skip ?_ | refine callR 1000 0 6 ((A ++ (P ++ (U2 ++ (V2 ++ (Q ++ R))))).map encTm) ((A ++ (V ++ (U ++ R))).map encTm) c1 (rows_closed _) (rows_closed _) (RelL.cons (.own (j := 0) 0 _ rfl) (RelL.cons (.wk (.same _) (.val _)) (RelL.cons (.wk (.same _) (.val _)) (RelL.cons (.wk (.same _) (.val _)) (RelL.cons (.wk (.same _) (.val _)) (RelL.nil _)))))) (.same _ (.tup closedL_nil)) rfl rfl rfl rfl rfl ?_ | refine goB ?_ | fail))
  (first | exact ⟨_, ResL.nil, rfl, ⟨_, rfl, RlR.closed (rows_closed _)⟩, trivial⟩ | (refine awp_skip ?_; exact ⟨_, ResL.nil, rfl, ⟨_, rfl, RlR.closed (rows_closed _)⟩, trivial⟩))
 have d1 : (((U2.length : Nat) : Int) != (V2.length : Nat)) = true := by
  rw [bne_iff_ne]
  omega
 by_cases hlt : V2.length < U2.length
 ·have d2 : decide (((V2.length : Nat) : Int) < (U2.length : Nat)) = true := decide_eq_true (by omega)
  obtain ⟨X, U3, rfl, hX⟩ : ∃ X U3, U2 = X ++ U3 ∧ X.length = V2.length := ⟨U2.take V2.length, U2.drop V2.length, (List.take_append_drop _ _).symm, by rw [List.length_take]; omega⟩
  rw [List.length_append] at h1 h3 hlt he
  have c1 := swap_l (A ++ P) X U3 V2 (Q ++ R) n hX (by simp only [List.length_append]; omega) hb
  have e1 : (A ++ P) ++ (X ++ (U3 ++ (V2 ++ (Q ++ R)))) = A ++ (P ++ ((X ++ U3) ++ (V2 ++ (Q ++ R)))) := by simp
  have e2 : (A ++ P) ++ (V2 ++ (U3 ++ (X ++ (Q ++ R)))) = A ++ ((P ++ V2) ++ (U3 ++ (X ++ (Q ++ R)))) := by simp
  rw [e1, e2] at c1
  have a1 : (((A ++ P).length : Nat) : Int) = ((A.length + U.length : Nat) : Int) - ((X ++ U3).length : Nat) := by simp only [List.length_append]; omega
  have a2 : (((A ++ P).length + X.length + U3.length : Nat) : Int) = ((A.length + U.length : Nat) : Int) := by rw [List.length_append]; omega
  have a3 : ((X.length : Nat) : Int) = (V2.length : Nat) := by omega
  rw [a1, a2, a3] at c1
  have hxl : ((X ++ U3).length : Nat) ≤ 1000000 := by rw [List.length_append]; omega
  (repeat' (first | refine goA ?_ | refine awp_skip ?_ | refine callR 1000 0 6 ((A ++ (P ++ ((X ++ U3) ++ (V2 ++ (Q ++ R))))).map encTm) ((A ++ ((P ++ V2) ++ (U3 ++ (X ++ (Q ++ R))))).map encTm) c1 (rows_closed _) (rows_closed _) (RelL.cons (.own (j := 0) 0 _ rfl) (RelL.cons (.wk (.same _) (.val _)) (RelL.cons (.wk (.same _) (.val _)) (RelL.cons (.wk (.same _) (.val _)) (RelL.cons (.wk (.same _) (.val _)) (RelL.nil _)))))) (.same _ (.tup closedL_nil)) rfl rfl rfl rfl rfl ?_ | refine goB ?_ | fail))
  refine ⟨(P ++ V2, U3, X, Q, _, _, _), ⟨⟨rfl, rfl, rfl, rfl, rfl, rfl, rfl, trivial⟩, ⟨rfl, trivial⟩, Nat.le_refl _⟩, ⟨by dsimp only; simp only [List.length_append]; omega, by dsimp only; omega, by dsimp only; omega, by dsimp only; omega, by dsimp only; rw [← h5]; simp, by dsimp only; simp only [List.length_append]; omega, a3.symm⟩, by dsimp only; simp only [List.length_append]; omega⟩
 ·have d2 : decide (((V2.length : Nat) : Int) < (U2.length : Nat)) = false := decide_eq_false (by omega)
  obtain ⟨V3, Y, rfl, hY⟩ : ∃ V3 Y, V2 = V3 ++ Y ∧ U2.length = Y.length := ⟨V2.take (V2.length - U2.length), V2.drop (V2.length - U2.length), (List.take_append_drop _ _).symm, by rw [List.length_drop]; omega⟩
  rw [List.length_append] at h2 h4 hlt he
  have c1 := swap_l (A ++ P) U2 V3 Y (Q ++ R) n hY (by simp only [List.length_append]; omega) hb
  have e1 : (A ++ P) ++ (U2 ++ (V3 ++ (Y ++ (Q ++ R)))) = A ++ (P ++ (U2 ++ ((V3 ++ Y) ++ (Q ++ R)))) := by simp
  have e2 : (A ++ P) ++ (Y ++ (V3 ++ (U2 ++ (Q ++ R)))) = A ++ (P ++ (Y ++ (V3 ++ ((U2 ++ Q) ++ R)))) := by simp
  rw [e1, e2] at c1
  have a1 : (((A ++ P).length : Nat) : Int) = ((A.length + U.length : Nat) : Int) - (U2.length : Nat) := by rw [List.length_append]; omega
  have a2 : (((A ++ P).length + U2.length + V3.length : Nat) : Int) = ((A.length + U.length : Nat) : Int) + ((V3 ++ Y).length : Nat) - (U2.length : Nat) := by simp only [List.length_append]; omega
  rw [a1, a2] at c1
  have a3 : ((U2.length : Nat) : Int) = (Y.length : Nat) := by omega
  have hxl : ((V3 ++ Y).length : Nat) ≤ 1000000 := by rw [List.length_append]; omega
  (repeat' (first | refine goA ?_ | refine awp_skip ?_ | refine callR 1000 0 6 ((A ++ (P ++ (U2 ++ ((V3 ++ Y) ++ (Q ++ R))))).map encTm) ((A ++ (P ++ (Y ++ (V3 ++ ((U2 ++ Q) ++ R))))).map encTm) c1 (rows_closed _) (rows_closed _) (RelL.cons (.own (j := 0) 0 _ rfl) (RelL.cons (.wk (.same _) (.val _)) (RelL.cons (.wk (.same _) (.val _)) (RelL.cons (.wk (.same _) (.val _)) (RelL.cons (.wk (.same _) (.val _)) (RelL.nil _)))))) (.same _ (.tup closedL_nil)) rfl rfl rfl rfl rfl ?_ | refine goB ?_ | fail))
  refine ⟨(P, Y, V3, U2 ++ Q, _, _, _), ⟨⟨rfl, rfl, rfl, rfl, rfl, rfl, rfl, trivial⟩, ⟨rfl, trivial⟩, Nat.le_refl _⟩, ⟨by dsimp only; omega, by dsimp only; simp only [List.length_append]; omega, by dsimp only; omega, by dsimp only; omega, by dsimp only; rw [← h5]; simp, a3, by dsimp only; simp only [List.length_append]; omega⟩, by dsimp only; simp only [List.length_append]; omega⟩
end Go.Proofs.Ytkmlmboclegpcaa
namespace Go.Proofs.Ytkmlmboclegpcaa
open Go Go.RowKit
set_option maxRecDepth 100000
theorem ltT_ff {a b : Tmr} (h : ltT a b = true) : ltT b a = false := by
 rw [ltT_iff] at h
 rw [ltT_no]
 omega
theorem sorted_at {l : List Tmr} (h : SortedT l) {a b : Nat} {x y : Tmr} (ha : l[a]? = some x) (hb : l[b]? = some y) (hab : a ≤ b) : ltT y x = false := by
 have la := (List.getElem?_eq_some_iff.1 ha).1
 have lb := (List.getElem?_eq_some_iff.1 hb).1
 by_cases e : a = b
 ·subst e
  rw [ha] at hb
  obtain rfl := Option.some.inj hb
  rw [ltT_no]
  omega
 ·have := List.pairwise_iff_getElem.1 h a b la lb (by omega)
  rw [List.getElem?_eq_getElem la] at ha
  rw [List.getElem?_eq_getElem lb] at hb
  rw [Option.some.inj ha, Option.some.inj hb] at this
  exact this
theorem merge_one {x : Tmr} {p q : List Tmr} (hs : SortedT (p ++ q)) (hp : ∀ v, v ∈ p → ltT v x = true) (hq : ∀ v, v ∈ q → ltT v x = false) : sortT (x :: (p ++ q)) = p ++ x :: q := by
 have h0 := List.pairwise_append.1 hs
 refine sorted_uniq (sortT_sorted _) (List.pairwise_append.2 ⟨h0.1, List.pairwise_cons.2 ⟨hq, h0.2.1⟩, fun a ha b hb => ?_⟩) (fun d i => ?_)
 ·rcases List.mem_cons.1 hb with rfl | hb
  ·exact ltT_ff (hp a ha)
  ·exact h0.2.2 a ha b hb
 ·rw [sortT_filter, List.filter_cons, List.filter_append, List.filter_append, List.filter_cons]
  by_cases hk : keyT d i x = true
  ·rw [if_pos hk, if_pos hk]
   have : p.filter (keyT d i) = [] := flt_no (fun v hv => by
    have h1 := hp v hv
    rw [ltT_iff] at h1
    rw [keyT_iff] at hk
    rw [keyT_no]
    omega)
   rw [this]
   rfl
  ·rw [if_neg hk, if_neg hk]
theorem merge_two {p q r s : List Tmr} (h1 : SortedT (p ++ q)) (h2 : SortedT (r ++ s)) (h3 : ∀ v, v ∈ r → ∀ u, u ∈ q → ltT v u = true) (h4 : ∀ v, v ∈ s → ∀ u, u ∈ p → ltT v u = false) : sortT (p ++ r) ++ sortT (q ++ s) = sortT ((p ++ q) ++ (r ++ s)) := by
 have k1 := List.pairwise_append.1 h1
 have k2 := List.pairwise_append.1 h2
 refine sorted_uniq (List.pairwise_append.2 ⟨sortT_sorted _, sortT_sorted _, fun a ha b hb => ?_⟩) (sortT_sorted _) (fun d i => ?_)
 ·rcases List.mem_append.1 (mem_sortT.1 ha) with ha | ha <;> rcases List.mem_append.1 (mem_sortT.1 hb) with hb | hb
  ·exact k1.2.2 a ha b hb
  ·exact h4 b hb a ha
  ·exact ltT_ff (h3 a ha b hb)
  ·exact k2.2.2 a ha b hb
 ·rw [sortT_filter, List.filter_append, sortT_filter, sortT_filter, List.filter_append, List.filter_append, List.filter_append, List.filter_append, List.filter_append]
  cases e : r.filter (keyT d i) with
  | nil => simp
  | cons v l =>
   have hv : v ∈ r.filter (keyT d i) := by rw [e]; exact List.mem_cons_self
   have hv := List.mem_filter.1 hv
   have : q.filter (keyT d i) = [] := flt_no (fun u hu => by
    have h1 := h3 v hv.1 u hu
    have hk := hv.2
    rw [ltT_iff] at h1
    rw [keyT_iff] at hk
    rw [keyT_no]
    omega)
   rw [this]
   simp
theorem mem_take {l : List Tmr} {k : Nat} {t : Tmr} (h : t ∈ l.take k) : ∃ i, i < k ∧ l[i]? = some t := take_lt h
theorem mem_drop {l : List Tmr} {k : Nat} {t : Tmr} (h : t ∈ l.drop k) : ∃ i, k ≤ i ∧ l[i]? = some t := by
 obtain ⟨i, hi⟩ := List.getElem?_of_mem h
 rw [List.getElem?_drop] at hi
 exact ⟨k + i, by omega, hi⟩
theorem bound_a {U V : List Tmr} (hU : SortedT U) (hV : SortedT V) {s e : Nat} (he : e ≤ V.length) (hs : ∀ v u, V[e - 1]? = some v → U[s]? = some u → 0 < e → ltT v u = true) : ∀ v, v ∈ V.take e → ∀ u, u ∈ U.drop s → ltT v u = true := fun v hv u hu => by
 obtain ⟨a, ha, hva⟩ := mem_take hv
 obtain ⟨b, hb, hub⟩ := mem_drop hu
 have lb := (List.getElem?_eq_some_iff.1 hub).1
 obtain ⟨v', hv'⟩ : ∃ v', V[e - 1]? = some v' := ⟨_, List.getElem?_eq_getElem (by omega)⟩
 obtain ⟨u', hu'⟩ : ∃ u', U[s]? = some u' := ⟨_, List.getElem?_eq_getElem (by omega)⟩
 have h1 := hs v' u' hv' hu' (by omega)
 have h2 := sorted_at hV hva hv' (by omega)
 have h3 := sorted_at hU hu' hub hb
 rw [ltT_iff] at h1 ⊢
 rw [ltT_no] at h2 h3
 omega
theorem bound_b {U V : List Tmr} (hU : SortedT U) (hV : SortedT V) {s e : Nat} (hs0 : s ≤ U.length) (hs : ∀ v u, V[e]? = some v → U[s - 1]? = some u → 0 < s → ltT v u = false) : ∀ v, v ∈ V.drop e → ∀ u, u ∈ U.take s → ltT v u = false := fun v hv u hu => by
 obtain ⟨a, ha, hva⟩ := mem_drop hv
 obtain ⟨b, hb, hub⟩ := mem_take hu
 have la := (List.getElem?_eq_some_iff.1 hva).1
 obtain ⟨v', hv'⟩ : ∃ v', V[e]? = some v' := ⟨_, List.getElem?_eq_getElem (by omega)⟩
 obtain ⟨u', hu'⟩ : ∃ u', U[s - 1]? = some u' := ⟨_, List.getElem?_eq_getElem (by omega)⟩
 have h1 := hs v' u' hv' hu' (by omega)
 have h2 := sorted_at hV hv' hva ha
 have h3 := sorted_at hU hub hu' (by omega)
 rw [ltT_no] at h1 h2 h3 ⊢
 omega
end Go.Proofs.Ytkmlmboclegpcaa
namespace Go.Proofs.Ytkmlmboclegpcaa
open Go Go.RowKit
set_option maxRecDepth 100000
theorem shr_half {a h : Int} (h0 : 2 * h ≤ a) (h1 : a ≤ 2 * h + 1) : shrV .u64 a 1 = h := by
 unfold shrV
 rw [show (min (1 : Int).toNat IntKind.u64.bits) = 1 from rfl, Int.fdiv_eq_ediv_of_nonneg _ (by decide)]
 omega
theorem bin_half {P : Program} {t : TypeId} {a h : Int} (h0 : 2 * h ≤ a) (h1 : a ≤ 2 * h + 1) : BinR P .shr t (.int .u64 a) (.int .u64 1) (.int .u64 h) := by
 rw [← shr_half h0 h1]
 refine bin_guard (fun _ h => by cases h) (fun h => by cases h) (fun w => ?_)
 simp [binOp, Op.shift, shrV]
theorem u64_id {n : Int} (h0 : 0 ≤ n) (h1 : n < 18446744073709551616) : IntKind.u64.wrap n = n := by
 rw [IntKind.wrap_u64]
 omega
section
variable {C : ACtx} {ops : Array Oper} {K : AS → List (List Nat × List Nat) → Prop} {k : Nat} {rest : List Oper} {fr : List (Nat × AV)} {hp : List (Nat × Option Blk)} {gc : Nat} {fps : List (List Nat × List Nat)}
 {d : Nat} {ty : TypeId} {pos : String} {after : Array Edge} {gd : Option (Nat × Bool)} {x : Operand}
theorem convE {ts td : Nat} {si di : TI} {kk ks : IntKind} {n m : Int} (hm : kk.wrap n = m) (hx : evA fr x = .val (.int ks n)) (hs : C.T ts = some si) (ht : C.T td = some di) (hk : di.k = .int kk) (hd : Nat.blt d C.n = true) (hg : guardIs ops ⟨fr, hp, gc⟩ ⟨some d, .convert ts td x, ty, pos, after, gd⟩ true)
  (nx : ARun C ops K (k + 1) rest ⟨(d, .val (.int kk m)) :: fr, hp, gc⟩ (fps ++ [([], [])])) : ARun C ops K k (⟨some d, .convert ts td x, ty, pos, after, gd⟩ :: rest) ⟨fr, hp, gc⟩ fps := by
 subst hm
 exact ARun.convInt hx hs ht hk hd hg nx
end
attribute [local irreducible] Decidable.decide awp ARun regK toK
set_option maxHeartbeats 8000000 in
theorem sm1_l (A V R : List Tmr) (x : Tmr) (n : Nat) (hv : 0 < V.length) (hV : SortedT V) (hn : n = A.length + (1 + (V.length + R.length))) (hb : n ≤ 1000000) : FnL Try.prog 73 [.own 1000 0 0 n, .val (.int .i64 (A.length : Nat)), .val (.int .i64 ((A.length + 1 : Nat) : Int)), .val (.int .i64 ((A.length + 1 + V.length : Nat) : Int)), .val (.func (.func 62) #[] #[])] [(6, (A ++ (x :: (V ++ R))).map encTm)] (.tup []) [(A ++ (sortT (x :: V) ++ R)).map encTm] := by
 have d1 : (((A.length + 1 : Nat) : Int) - (A.length : Nat) == 1) = true := beq_iff_eq.2 (by omega)
 refine FnL.of_awp (T := tt) (ok := tok) Try.func73 (by kernel_rfl) rfl (by kernel_rfl) (by kernel_rfl) (fun w0 st0 lent c0 => ?_)
 dsimp only [frOf, hpFrom, List.length_cons, List.length_nil]
 (repeat' (first | refine goA ?_ | refine awp_skip ?_ | refine goB ?_ | fail))
 refine awp_loopT (T := Nat × Nat × Nat) (fun t => ⟨[(0, .own 1000 0 0 n), (1, .val (.int .i64 (A.length : Nat))), (2, .val (.int .i64 ((A.length + 1 : Nat) : Int))), (3, .val (.int .i64 ((A.length + 1 + V.length : Nat) : Int))), (4, .val (.func (.func 62) #[] #[])), (10, .val (.int .i64 ((A.length + 1 + t.1 : Nat) : Int))), (11, .val (.int .i64 ((A.length + 1 + t.2.1 : Nat) : Int)))], [(1000, some ⟨0, 6, (A ++ (x :: (V ++ R))).map encTm⟩)], t.2.2⟩) (fun t => t.1 ≤ t.2.1 ∧ t.2.1 ≤ V.length ∧ (∀ v, V[t.1 - 1]? = some v → 0 < t.1 → ltT v x = true) ∧ (∀ v, V[t.2.1]? = some v → ltT v x = false)) (fun t => t.2.1 - t.1) (0, V.length, _) ⟨Nat.zero_le _, Nat.le_refl _, fun v _ h => absurd h (by omega), fun v h => by rw [List.getElem?_eq_none (Nat.le_refl _)] at h; cases h⟩ ⟨⟨rfl, rfl, rfl, rfl, rfl, rfl, rfl, trivial⟩, ⟨rfl, trivial⟩, Nat.le_refl _⟩ (fun t ht => ?_)
 obtain ⟨i, j, gc⟩ := t
 dsimp only at ht ⊢
 obtain ⟨hij, hj, h1, h2⟩ := ht
 by_cases hlt : i < j
 ·have d2 : decide (((A.length + 1 + i : Nat) : Int) < ((A.length + 1 + j : Nat) : Int)) = true := decide_eq_true (by omega)
  obtain ⟨h, hh⟩ : ∃ h, h = (A.length + 1 + i + (A.length + 1 + j)) / 2 - (A.length + 1) := ⟨_, rfl⟩
  have hsh : BinR Try.prog .shr 136 (.int .u64 (((A.length + 1 + i : Nat) : Int) + ((A.length + 1 + j : Nat) : Int))) (.int .u64 1) (.int .u64 ((A.length + 1 + h : Nat) : Int)) := bin_half (by omega) (by omega)
  have hw1 : IntKind.u64.wrap (((A.length + 1 + i : Nat) : Int) + ((A.length + 1 + j : Nat) : Int)) = ((A.length + 1 + i : Nat) : Int) + ((A.length + 1 + j : Nat) : Int) := u64_id (by omega) (by omega)
  have hhl : h < V.length := by omega
  obtain ⟨v, hvh⟩ : ∃ v, V[h]? = some v := ⟨_, List.getElem?_eq_getElem hhl⟩
  have gx : ((A ++ (x :: (V ++ R))).map encTm)[0 + ((A.length + 1 + h : Nat) : Int).toNat]? = some (encTm v) := map_at (by
   rw [List.getElem?_append_right (by omega), show 0 + ((A.length + 1 + h : Nat) : Int).toNat - A.length = h + 1 by omega, List.getElem?_cons_succ, List.getElem?_append_left hhl, hvh])
  have gy : ((A ++ (x :: (V ++ R))).map encTm)[0 + ((A.length : Nat) : Int).toNat]? = some (encTm x) := map_at (mid_get _ _ _ (by omega))
  have c1 := order_c v x
  have d3 := ordI_lt v x
  cases hb : ltT v x with
  | true =>
   rw [hb] at d3
   (repeat' (first | refine ARun.bin rfl rfl hsh rfl (guardF_spec rfl) ?_ | refine convE hw1 rfl rfl rfl rfl rfl (guardF_spec rfl) ?_ | refine goA ?_ | refine cX c1 ?_ | refine ARun.indexAddr_own rfl rfl rfl rfl (by omega) (by omega) rfl rfl rfl rfl rfl (guardF_spec rfl) ?_ | refine ARun.loadAgg rfl rfl rfl (by first | exact gx | exact gy) rfl rfl rfl rfl (guardF_spec rfl) ?_ | refine goB ?_ | fail))
   refine ⟨(h + 1, j, _), ⟨⟨rfl, rfl, rfl, rfl, rfl, rfl, rfl, trivial⟩, ⟨rfl, trivial⟩, Nat.le_refl _⟩, ⟨by dsimp only; omega, hj, fun u hu _ => ?_, h2⟩, (by dsimp only; omega)⟩
   dsimp only at hu
   rw [Nat.add_sub_cancel, hvh] at hu
   rw [← Option.some.inj hu]
   exact hb
  | false =>
   rw [hb] at d3
   (repeat' (first | refine ARun.bin rfl rfl hsh rfl (guardF_spec rfl) ?_ | refine convE hw1 rfl rfl rfl rfl rfl (guardF_spec rfl) ?_ | refine goA ?_ | refine cX c1 ?_ | refine ARun.indexAddr_own rfl rfl rfl rfl (by omega) (by omega) rfl rfl rfl rfl rfl (guardF_spec rfl) ?_ | refine ARun.loadAgg rfl rfl rfl (by first | exact gx | exact gy) rfl rfl rfl rfl (guardF_spec rfl) ?_ | refine goB ?_ | fail))
   refine ⟨(i, h, _), ⟨⟨rfl, rfl, rfl, rfl, rfl, rfl, rfl, trivial⟩, ⟨rfl, trivial⟩, Nat.le_refl _⟩, ⟨by dsimp only; omega, by dsimp only; omega, h1, fun u hu => ?_⟩, (by dsimp only; omega)⟩
   dsimp only at hu
   rw [hvh] at hu
   rw [← Option.some.inj hu]
   exact hb
 have d2 : decide (((A.length + 1 + i : Nat) : Int) < ((A.length + 1 + j : Nat) : Int)) = false := decide_eq_false (by omega)
 obtain rfl : i = j := by omega
 obtain ⟨p, q, rfl, hp⟩ : ∃ p q, V = p ++ q ∧ p.length = i := ⟨V.take i, V.drop i, (List.take_append_drop _ _).symm, by rw [List.length_take]; omega⟩
 have hp1 : ∀ v, v ∈ p → ltT v x = true := fun v hv => by
  obtain ⟨a, ha⟩ := List.getElem?_of_mem hv
  have la := (List.getElem?_eq_some_iff.1 ha).1
  have hva : (p ++ q)[a]? = some v := by rw [List.getElem?_append_left la, ha]
  obtain ⟨w, hw⟩ : ∃ w, (p ++ q)[i - 1]? = some w := ⟨_, List.getElem?_eq_getElem (by omega)⟩
  have g1 := h1 w hw (by omega)
  have g2 := sorted_at hV hva hw (by omega)
  rw [ltT_iff] at g1 ⊢
  rw [ltT_no] at g2
  omega
 have hq1 : ∀ v, v ∈ q → ltT v x = false := fun v hv => by
  obtain ⟨a, ha⟩ := List.getElem?_of_mem hv
  have hva : (p ++ q)[i + a]? = some v := by rw [List.getElem?_append_right (by omega), show i + a - p.length = a by omega, ha]
  have la := (List.getElem?_eq_some_iff.1 hva).1
  obtain ⟨w, hw⟩ : ∃ w, (p ++ q)[i]? = some w := ⟨_, List.getElem?_eq_getElem (by omega)⟩
  have g1 := h2 w hw
  have g2 := sorted_at hV hw hva (by omega)
  rw [ltT_no] at g1 g2 ⊢
  omega
 rw [merge_one hV hp1 hq1]
 clear h1 h2 hp1 hq1 hV d1
 rw [List.length_append] at hn
 (repeat' (first | refine goA ?_ | refine goB ?_ | fail))
 refine awp_loopT (T := Nat × List Tmr × Nat) (fun t => ⟨[(0, .own 1000 0 0 n), (10, .val (.int .i64 ((A.length + 1 + i : Nat) : Int))), (13, .val (.int .i64 ((A.length + t.1 : Nat) : Int)))], [(1000, some ⟨0, 6, t.2.1.map encTm⟩)], t.2.2⟩) (fun t => t.1 ≤ p.length ∧ t.2.1 = A ++ (p.take t.1 ++ x :: (p.drop t.1 ++ (q ++ R)))) (fun t => p.length - t.1) (0, A ++ (x :: ((p ++ q) ++ R)), _) ⟨Nat.zero_le _, by simp⟩ ⟨⟨rfl, rfl, rfl, trivial⟩, ⟨rfl, trivial⟩, Nat.le_refl _⟩ (fun t ht => ?_)
 obtain ⟨k, L, gc⟩ := t
 dsimp only at ht ⊢
 obtain ⟨hkp, hL⟩ := ht
 clear d2
 by_cases hlk : k < p.length
 ·have d2 : decide (((A.length + k : Nat) : Int) < ((A.length + 1 + i : Nat) : Int) - 1) = true := decide_eq_true (by omega)
  obtain ⟨v, hv⟩ : ∃ v, p[k]? = some v := ⟨_, List.getElem?_eq_getElem hlk⟩
  have hdv := drop_c hv
  have htv := take_succ' hv
  have l1 : (p.take k).length = k := by rw [List.length_take]; omega
  have l2 : (p.drop (k + 1)).length = p.length - (k + 1) := List.length_drop
  rw [hdv] at hL
  have eL : L = (A ++ p.take k) ++ x :: (v :: (p.drop (k + 1) ++ (q ++ R))) := by rw [hL]; simp
  have eL' : L = (A ++ (p.take k ++ [x])) ++ v :: (p.drop (k + 1) ++ (q ++ R)) := by rw [hL]; simp
  have k1 : (A ++ p.take k).length = A.length + k := by rw [List.length_append, l1]
  have k2 : ∀ z : Tmr, (A ++ (p.take k ++ [z])).length = A.length + k + 1 := fun z => by simp only [List.length_append, List.length_cons, List.length_nil, l1]; omega
  have hLl : L.length = n := by rw [eL']; simp only [List.length_append, List.length_cons, List.length_nil, l1, l2]; omega
  have gx : (L.map encTm)[0 + (((A.length + k : Nat) : Int) + 1).toNat]? = some (encTm v) := map_at (by rw [eL']; exact mid_get _ _ _ (by rw [k2]; omega))
  have gy : (L.map encTm)[0 + ((A.length + k : Nat) : Int).toNat]? = some (encTm x) := map_at (by rw [eL]; exact mid_get _ _ _ (by rw [k1]; omega))
  have hk : 0 + ((A.length + k : Nat) : Int).toNat < (L.map encTm).length := by rw [List.length_map, hLl]; omega
  have e3 : (A ++ p.take k) ++ v :: (v :: (p.drop (k + 1) ++ (q ++ R))) = (A ++ (p.take k ++ [v])) ++ v :: (p.drop (k + 1) ++ (q ++ R)) := by simp
  have s1 : (L.map encTm).set (0 + ((A.length + k : Nat) : Int).toNat) (encTm v) = ((A ++ (p.take k ++ [v])) ++ v :: (p.drop (k + 1) ++ (q ++ R))).map encTm := map_set' (by rw [eL, mid_set _ _ _ _ (by rw [k1]; omega), e3])
  have s2 : (((A ++ (p.take k ++ [v])) ++ v :: (p.drop (k + 1) ++ (q ++ R))).map encTm).set (0 + (((A.length + k : Nat) : Int) + 1).toNat) (encTm x) = ((A ++ (p.take k ++ [v])) ++ x :: (p.drop (k + 1) ++ (q ++ R))).map encTm := map_set' (mid_set _ _ _ _ (by rw [k2]; omega))
  have hk' : 0 + (((A.length + k : Nat) : Int) + 1).toNat < (((A ++ (p.take k ++ [v])) ++ v :: (p.drop (k + 1) ++ (q ++ R))).map encTm).length := by rw [List.length_map, List.length_append, k2, List.length_cons]; omega
  (repeat' (first | refine goA ?_ | refine ARun.indexAddr_own rfl rfl rfl rfl (by omega) (by omega) rfl rfl rfl rfl rfl (guardF_spec rfl) ?_ | refine ARun.loadAgg rfl rfl rfl (by first | exact gx | exact gy) rfl rfl rfl rfl (guardF_spec rfl) ?_ | refine ARun.storeEl rfl rfl rfl hk (map_len (fun _ => rfl)) rfl rfl rfl rfl rfl s1 (guardF_spec rfl) ?_ | refine ARun.storeEl rfl rfl rfl hk' (map_len (fun _ => rfl)) rfl rfl rfl rfl rfl s2 (guardF_spec rfl) ?_ | refine goB ?_ | fail))
  refine ⟨(k + 1, (A ++ (p.take k ++ [v])) ++ x :: (p.drop (k + 1) ++ (q ++ R)), _), ⟨⟨rfl, rfl, rfl, trivial⟩, ⟨rfl, trivial⟩, Nat.le_refl _⟩, ⟨hlk, ?_⟩, (by dsimp only; omega)⟩
  dsimp only
  rw [htv]
  simp
 ·have d2 : decide (((A.length + k : Nat) : Int) < ((A.length + 1 + i : Nat) : Int) - 1) = false := decide_eq_false (by omega)
  have hfin : L = A ++ ((p ++ x :: q) ++ R) := by rw [hL, List.take_of_length_le (by omega), List.drop_of_length_le (by omega)]; simp
  rw [← hfin]
  (repeat' (first | refine goA ?_ | refine awp_skip ?_ | refine goB ?_ | fail))
  exact awp_ret ⟨_, ResL.nil, rfl, ⟨_, rfl, RlR.closed (rows_closed L)⟩, trivial⟩
end Go.Proofs.Ytkmlmboclegpcaa
