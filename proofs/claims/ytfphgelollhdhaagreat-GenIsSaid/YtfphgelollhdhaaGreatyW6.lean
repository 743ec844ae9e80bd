/- yM1, yM2, yM3, yM4, yM5. -/
import Derived.Test.YtfphgelollhdhaaGreatW1
import Derived.Test.YtfphgelollhdhaaGreatW2
import Derived.Test.YtfphgelollhdhaaGreatW3
import Derived.Test.YtfphgelollhdhaaGreatW4
import Derived.Test.YtfphgelollhdhaaGreatyW5
import Derived.Laws.Strings
set_option linter.unusedVariables false
set_option linter.unusedSimpArgs false
namespace Go.Proofs.YtfphgelollhdhaaGreat.Mem
open Go Go.RowKit
set_option maxRecDepth 100000
attribute [local irreducible] Decidable.decide awp ARun regK toK
abbrev Pt := Int × List UInt8
structure Mm where
 b : List UInt8
 old : List Pt
def encBs (l : List UInt8) : AV := .sl 1 false (l.map encB)
theorem closed_bs (l : List UInt8) : Closed (encBs l) := closed_map encB_closed
def encP (p : Pt) : List AV := [.val (.int .i64 p.1), encBs p.2]
theorem encP_closed (p : Pt) : ∀ x, x ∈ encP p → Closed x := closedL_cons (.val _) (closedL_cons (closed_bs p.2) closedL_nil)
def encM (m : Mm) : List AV := [encBs m.b, .sl 2 false (m.old.map encP)]
theorem encM_closed (m : Mm) : ∀ x, x ∈ encM m → Closed x := closedL_cons (closed_bs m.b) (closedL_cons (closed_map encP_closed) closedL_nil)
theorem closed_m (m : Mm) : Closed (.agg (encM m)) := .agg (encM_closed m)
def thereD (len at' n : Int) : Bool := decide (n = 0 ∨ (0 < n ∧ 0 ≤ at' ∧ at' ≤ len ∧ n ≤ len - at'))
theorem ref_there_c (m : Mm) (at' n : Int) (hl : m.b.length ≤ 1000000) : FnC Tryz.prog 51 [.agg (encM m), .val (.int .i64 at'), .val (.int .i64 n)] (.val (.bool (thereD m.b.length at' n))) := by
 refine goF Tryz.func51 (closedL_cons (closed_m m) (closedL_cons (.val _) (closedL_cons (.val _) closedL_nil))) (fun w0 st0 => ?_)
 dsimp only [frOf]
 (repeat' (first | refine goA ?_ | refine goB ?_ | ((fail_if_success refine ARun.plain rfl ?_); refine ARun.fork rfl rfl rfl (fun h => ?_) (fun h => ?_)) | refine awp_cond rfl (fun h => ?_) (fun h => ?_)))
 all_goals (refine awp_ret ⟨_, ResL.cons (ResA.tmp (.val _)) .nil, congrArg (fun b => AV.val (.bool b)) (Bool.eq_iff_iff.2 ?_)⟩; unfold thereD; (simp only [decide_eq_true_eq, decide_eq_false_iff_not, beq_iff_eq, bne_iff_ne, bne_eq_false_iff_eq, beq_eq_false_iff_ne, Bool.not_eq_true', Bool.not_eq_false', Bool.and_eq_true, Bool.and_eq_false_iff, Bool.or_eq_true, ne_eq, List.length_map, Bool.true_eq_false, Bool.false_eq_true, iff_true, iff_false, true_iff, false_iff] at *); omega)
end Go.Proofs.YtfphgelollhdhaaGreat.Mem
namespace Go.Proofs.YtfphgelollhdhaaGreat.Mem
open Go Go.RowKit
set_option maxRecDepth 100000
attribute [local irreducible] Decidable.decide awp ARun regK toK
end Go.Proofs.YtfphgelollhdhaaGreat.Mem
namespace Go.Proofs.YtfphgelollhdhaaGreat.Mem
open Go Go.RowKit
set_option maxRecDepth 100000
attribute [local irreducible] Decidable.decide awp ARun regK toK
def partD (l : List UInt8) (at' n : Int) : List UInt8 := (l.drop at'.toNat).take n.toNat
def writeD (m : Mm) (at' : Int) (b : List UInt8) : Mm × Int :=
 if thereD m.b.length at' b.length = false then (m, -9) else if b = [] then (m, 0) else (⟨overL m.b at'.toNat b, m.old ++ [(at', partD m.b at' b.length)]⟩, 0)
theorem writeD_no {m : Mm} {at' : Int} {b : List UInt8} (h : thereD m.b.length at' b.length = false) : writeD m at' b = (m, -9) := if_pos h
theorem writeD_nil {m : Mm} {at' : Int} {b : List UInt8} (h : thereD m.b.length at' b.length = true) (hb : b = []) : writeD m at' b = (m, 0) := by unfold writeD; rw [if_neg (by simp [h]), if_pos hb]
theorem writeD_yes {m : Mm} {at' : Int} {b : List UInt8} (h : thereD m.b.length at' b.length = true) (hb : b ≠ []) : writeD m at' b = (⟨overL m.b at'.toNat b, m.old ++ [(at', partD m.b at' b.length)]⟩, 0) := by unfold writeD; rw [if_neg (by simp [h]), if_neg hb]
theorem there_yes {len at' n : Int} (h : thereD len at' n = true) (hn : n ≠ 0) : 0 < n ∧ 0 ≤ at' ∧ at' ≤ len ∧ n ≤ len - at' := by
 unfold thereD at h
 rw [decide_eq_true_eq] at h
 omega
theorem split3 {α : Type} (f : α → List AV) (l : List α) (a n : Nat) : l.map f = (l.take a).map f ++ (((l.drop a).take n).map f ++ ((l.drop a).drop n).map f) := by
 rw [← List.map_append, ← List.map_append, List.take_append_drop, List.take_append_drop]
theorem closed_app1 (l : List Pt) (p : Pt) : ∀ el x, el ∈ l.map encP ++ [encP p] → x ∈ el → Closed x := own_closed_app encP_closed (encP_closed p)
def textD (m : Mm) (at' n : Int) : List UInt8 × Int := if thereD m.b.length at' n = false then ([], -9) else (partD m.b at' n, 0)
theorem textD_no {m : Mm} {at' n : Int} (h : thereD m.b.length at' n = false) : textD m at' n = ([], -9) := if_pos h
theorem textD_yes {m : Mm} {at' n : Int} (h : thereD m.b.length at' n = true) : textD m at' n = (partD m.b at' n, 0) := if_neg (by simp [h])
set_option maxHeartbeats 4000000 in
theorem ref_text_c (m : Mm) (at' n : Int) (hl : m.b.length ≤ 1000000) : FnC Tryz.prog 124 [.agg (encM m), .val (.int .i64 at'), .val (.int .i64 n)] (.tup [encBs (textD m at' n).1, .val (.int .i64 (textD m at' n).2)]) := by
 have c1 := ref_there_c m at' n hl
 cases ht : thereD m.b.length at' n with
 | false =>
  rw [textD_no ht]
  rw [ht] at c1
  refine goF Tryz.func124 (closedL_cons (closed_m m) (closedL_cons (.val _) (closedL_cons (.val _) closedL_nil))) (fun w0 st0 => ?_)
  dsimp only [frOf]
  (repeat' (first | refine goA ?_ | refine cX c1 ?_ | refine goB ?_ | ((fail_if_success refine ARun.plain rfl ?_); refine ARun.fork rfl rfl rfl (fun h => ?_) (fun h => ?_)) | refine awp_cond rfl (fun h => ?_) (fun h => ?_)))
  refine awp_ret ⟨_, ResL.cons (ResA.tmp .nilSl) (ResL.cons (ResA.tmp (.val _)) .nil), rfl⟩
 | true =>
  rw [textD_yes ht]
  rw [ht] at c1
  have h4 : 0 ≤ n ∧ (n = 0 ∨ (0 ≤ at' ∧ at' ≤ m.b.length ∧ n ≤ m.b.length - at')) := by
   unfold thereD at ht
   rw [decide_eq_true_eq] at ht
   omega
  obtain ⟨c, rfl⟩ : ∃ c : Nat, n = (c : Int) := ⟨n.toNat, by omega⟩
  refine goF Tryz.func124 (closedL_cons (closed_m m) (closedL_cons (.val _) (closedL_cons (.val _) closedL_nil))) (fun w0 st0 => ?_)
  dsimp only [frOf]
  (repeat' (first | refine goA ?_ | refine cX c1 ?_ | refine goB ?_ | ((fail_if_success refine ARun.plain rfl ?_); refine ARun.fork rfl rfl rfl (fun h => ?_) (fun h => ?_)) | refine awp_cond rfl (fun h => ?_) (fun h => ?_)))
  refine awp_ownNil 9 1 rfl rfl rfl ?_
  refine awp_loopT (T := Nat × Nat × Nat) (fun t => ⟨[(9, .own 9 t.2.1 0 (((m.b.drop at'.toNat).take t.1).map encB).length), (10, .val (.int .i64 (t.1 : Nat))), (1, .val (.int .i64 at')), (2, .val (.int .i64 (c : Nat))), (3, .ptr 3 0 0 0)], [(9, some ⟨t.2.1, 1, ((m.b.drop at'.toNat).take t.1).map encB⟩), (3, some ⟨0, 2, [encM m]⟩)], t.2.2⟩)
   (fun t => t.1 ≤ c) (fun t => c - t.1) (0, _, _) (Nat.zero_le _) ⟨⟨rfl, rfl, rfl, rfl, rfl, trivial⟩, ⟨rfl, rfl, trivial⟩, Nat.le_refl _⟩ (fun t htt => ?_)
  obtain ⟨k, g, gc⟩ := t
  dsimp only at htt ⊢
  by_cases hlt : k < c
  ·have hc : decide (((k : Nat) : Int) < ((c : Nat) : Int)) = true := by simp; omega
   have hk : at'.toNat + k < m.b.length := by omega
   have h1 : (m.b.drop at'.toNat)[k]? = some (m.b[at'.toNat + k]) := by rw [List.getElem?_drop, List.getElem?_eq_getElem hk]
   have hi : (m.b.map encB)[(at' + ((k : Nat) : Int)).toNat]? = some (encB (m.b[at'.toNat + k])) := by
    rw [show (at' + ((k : Nat) : Int)).toNat = at'.toNat + k by omega, List.getElem?_map, List.getElem?_eq_getElem hk]
    rfl
   have hs : ((m.b.drop at'.toNat).take (k + 1)).map encB = ((m.b.drop at'.toNat).take k).map encB ++ [encB (m.b[at'.toNat + k])] := by rw [take_succ' h1, List.map_append]; rfl
   generalize m.b[at'.toNat + k] = ch at hi hs
   clear h1
   have hll : ((m.b.drop at'.toNat).take k).length ≤ 1000000 := by rw [List.length_take]; omega
   (repeat' (first | refine goA ?_ | refine ARun.indexAddr rfl rfl lensT (by first | assumption | rfl) rfl rfl rfl rfl rfl (guardF_spec rfl) ?_ | refine appO rfl ?_ | refine goB ?_ | ((fail_if_success refine ARun.plain rfl ?_); refine ARun.fork rfl rfl rfl (fun h => ?_) (fun h => ?_)) | refine awp_cond rfl (fun h => ?_) (fun h => ?_)))
   exact ⟨(k + 1, _, _), ⟨⟨(by dsimp only; rw [hs]; rfl), succI k, rfl, rfl, rfl, trivial⟩, ⟨(by dsimp only; rw [hs]; rfl), rfl, trivial⟩, Nat.le_refl _⟩, hlt, (by dsimp only; omega)⟩
  ·have hk : k = c := by omega
   subst hk
   have hc : decide (((k : Nat) : Int) < ((k : Nat) : Int)) = false := by simp
   (repeat' (first | refine goA ?_ | refine goB ?_ | ((fail_if_success refine ARun.plain rfl ?_); refine ARun.fork rfl rfl rfl (fun h => ?_) (fun h => ?_)) | refine awp_cond rfl (fun h => ?_) (fun h => ?_)))
   refine awp_ret ⟨_, ResL.cons (ResA.tmp (.owned rfl rfl rfl (own_closed_map encB_closed))) (ResL.cons (ResA.tmp (.val _)) .nil), rfl⟩
theorem over_step {α : Type} (l b : List α) (a k : Nat) (x : α) (h : a + b.length ≤ l.length) (hx : b[k]? = some x) : (overL l a (b.take k)).set (a + k) x = overL l a (b.take (k + 1)) := by
 have hk : k < b.length := (List.getElem?_eq_some_iff.1 hx).1
 apply List.ext_getElem?
 intro j
 have l1 : (b.take k).length = k := by rw [List.length_take]; omega
 have l2 : (b.take (k + 1)).length = k + 1 := by rw [List.length_take]; omega
 have ho : (overL l a (b.take k)).length = l.length := overL_length (by omega)
 rw [List.getElem?_set, ho, overL_get (by omega), overL_get (by omega), l1, l2]
 by_cases h1 : a + k = j
 ·rw [if_pos h1, if_pos (by omega), if_neg (by omega), if_pos (by omega), List.getElem?_take, if_pos (by omega), show j - a = k by omega, hx]
 ·rw [if_neg h1]
  by_cases h2 : j < a
  ·rw [if_pos h2, if_pos h2]
  ·rw [if_neg h2, if_neg h2]
   by_cases h3 : j < a + k
   ·rw [if_pos h3, if_pos (by omega), List.getElem?_take, List.getElem?_take, if_pos (by omega), if_pos (by omega)]
   ·rw [if_neg h3, if_neg (by omega)]
theorem over_zero {α : Type} (l b : List α) (a : Nat) : overL l a (b.take 0) = l := by
 unfold overL
 rw [List.take_zero, List.nil_append, List.length_nil, Nat.add_zero, List.take_append_drop]
end Go.Proofs.YtfphgelollhdhaaGreat.Mem
namespace Go.Proofs.YtfphgelollhdhaaGreat.Mem
open Go Go.RowKit
set_option maxRecDepth 100000
attribute [local irreducible] Decidable.decide awp ARun regK toK
set_option maxHeartbeats 4000000 in
theorem ref_write_c (m : Mm) (at' : Int) (b : List UInt8) (hl : m.b.length ≤ 1000000) (ho : m.old.length ≤ 1000000) (hb : b.length ≤ 1000000) : FnC Tryz.prog 106 [.agg (encM m), .val (.int .i64 at'), encBs b] (.tup [.agg (encM (writeD m at' b).1), .val (.int .i64 (writeD m at' b).2)]) := by
 have c1 := ref_there_c m at' (((b.map encB).length : Nat) : Int) hl
 have c2 := ref_text_c m at' (((b.map encB).length : Nat) : Int) hl
 have e0 : (((b.map encB).length : Nat) : Int) = (b.length : Int) := by rw [List.length_map]
 cases ht : thereD m.b.length at' b.length with
 | false =>
  rw [writeD_no ht]
  rw [← e0] at ht
  rw [ht] at c1
  refine goF Tryz.func106 (closedL_cons (closed_m m) (closedL_cons (.val _) (closedL_cons (closed_bs b) closedL_nil))) (fun w0 st0 => ?_)
  dsimp only [frOf]
  (repeat' (first | refine goA ?_ | refine cX c1 ?_ | refine goB ?_ | ((fail_if_success refine ARun.plain rfl ?_); refine ARun.fork rfl rfl rfl (fun h => ?_) (fun h => ?_)) | refine awp_cond rfl (fun h => ?_) (fun h => ?_)))
  refine awp_ret ⟨_, (ResL.cons (ResA.agg rfl rfl rfl rfl rfl rfl rfl (RL.cons (.closed _ (closed_bs _)) (RL.cons (.closed _ (closed_map encP_closed)) (RL.nil _)))) (ResL.cons (ResA.tmp (.val _)) .nil)), rfl⟩
 | true =>
  have ht' := ht
  rw [← e0] at ht'
  rw [ht'] at c1
  rw [textD_yes ht'] at c2
  by_cases hn : b = []
  ·rw [writeD_nil ht hn]
   subst hn
   have z : ((((([] : List UInt8).map encB).length : Nat) : Int) == 0) = true := by simp
   refine goF Tryz.func106 (closedL_cons (closed_m m) (closedL_cons (.val _) (closedL_cons (closed_bs _) closedL_nil))) (fun w0 st0 => ?_)
   dsimp only [frOf]
   (repeat' (first | refine goA ?_ | refine cX c1 ?_ | refine goB ?_ | ((fail_if_success refine ARun.plain rfl ?_); refine ARun.fork rfl rfl rfl (fun h => ?_) (fun h => ?_)) | refine awp_cond rfl (fun h => ?_) (fun h => ?_)))
   refine awp_ret ⟨_, (ResL.cons (ResA.agg rfl rfl rfl rfl rfl rfl rfl (RL.cons (.closed _ (closed_bs _)) (RL.cons (.closed _ (closed_map encP_closed)) (RL.nil _)))) (ResL.cons (ResA.tmp (.val _)) .nil)), rfl⟩
  ·rw [writeD_yes ht hn]
   have hbn : (b.length : Int) ≠ 0 := by
    have := List.length_pos_iff.2 hn
    omega
   have h4 := there_yes ht hbn
   obtain ⟨a, rfl⟩ : ∃ a : Nat, at' = (a : Int) := ⟨at'.toNat, by omega⟩
   have z : ((((b.map encB).length : Nat) : Int) == 0) = false := by simp [hn]
   rw [show partD m.b (a : Int) (((b.map encB).length : Nat) : Int) = (m.b.drop a).take b.length by rw [e0]; rfl] at c2
   refine goF Tryz.func106 (closedL_cons (closed_m m) (closedL_cons (.val _) (closedL_cons (closed_bs b) closedL_nil))) (fun w0 st0 => ?_)
   dsimp only [frOf]
   (repeat' (first | refine goA ?_ | refine cX c1 ?_ | refine cX c2 ?_ | refine appF rfl ?_ | refine goB ?_ | ((fail_if_success refine ARun.plain rfl ?_); refine ARun.fork rfl rfl rfl (fun h => ?_) (fun h => ?_)) | refine awp_cond rfl (fun h => ?_) (fun h => ?_)))
   refine awp_loopT (T := Nat × Nat × Nat) (fun t => ⟨[(11, .own 36 t.2.1 0 m.b.length), (12, .val (.int .i64 (t.1 : Nat))), (1, .val (.int .i64 (a : Nat))), (2, encBs b), (3, .ptr 3 0 0 0), (6, .ptr 6 1 0 0), (9, encBs ((m.b.drop a).take b.length))], [(36, some ⟨t.2.1, 1, (overL m.b a (b.take t.1)).map encB⟩), (3, some ⟨0, 2, [encM m]⟩), (6, some ⟨1, 2, [[.sl 0 true [], .sl 0 true []]]⟩)], t.2.2⟩)
    (fun t => t.1 ≤ b.length) (fun t => b.length - t.1) (0, _, _) (Nat.zero_le _) ⟨⟨by show AV.own _ _ _ ([] ++ m.b.map encB).length = _; rw [List.nil_append, List.length_map], rfl, rfl, rfl, rfl, rfl, rfl, trivial⟩, ⟨by rw [over_zero]; rfl, rfl, rfl, trivial⟩, Nat.le_refl _⟩ (fun t htt => ?_)
   obtain ⟨k, g, gc⟩ := t
   dsimp only at htt ⊢
   clear c1 c2
   have hlo : (overL m.b a (b.take k)).length = m.b.length := overL_length (by rw [List.length_take]; omega)
   by_cases hlt : k < b.length
   ·have hc : decide (((k : Nat) : Int) < (((b.map encB).length : Nat) : Int)) = true := by simp; omega
    have h1 : b[k]? = some b[k] := List.getElem?_eq_getElem hlt
    have hs := congrArg (List.map encB) (over_step m.b b a k b[k] (by omega) h1)
    rw [List.map_set] at hs
    generalize b[k] = ch at hs h1
    have hs2 : ((overL m.b a (b.take k)).map encB).set (0 + ((a : Int) + ((k : Nat) : Int)).toNat) [.val (.int .u8 ch.toNat)] = (overL m.b a (b.take (k + 1))).map encB := by
     rw [show 0 + ((a : Int) + ((k : Nat) : Int)).toNat = a + k by omega]
     exact hs
    have hlo2 : (overL m.b a (b.take (k + 1))).length = m.b.length := overL_length (by rw [List.length_take]; omega)
    (repeat' (first | refine goA ?_ | refine ARun.indexAddr rfl rfl (by omega) (by first | with_reducible exact get_map h1 | with_reducible exact get_map h1) rfl rfl rfl rfl rfl (guardF_spec rfl) ?_ | refine ARun.indexAddr_own rfl rfl rfl rfl lensT lensT rfl rfl rfl rfl rfl (guardF_spec rfl) ?_ | refine ARun.storeEl rfl rfl rfl lensT (by first | exact map_len (fun _ => rfl)) rfl rfl rfl rfl rfl (by assumption) (guardF_spec rfl) ?_ | refine goB ?_ | ((fail_if_success refine ARun.plain rfl ?_); refine ARun.fork rfl rfl rfl (fun h => ?_) (fun h => ?_)) | refine awp_cond rfl (fun h => ?_) (fun h => ?_)))
    exact ⟨(k + 1, _, _), ⟨⟨rfl, succI k, rfl, rfl, rfl, rfl, rfl, trivial⟩, ⟨rfl, rfl, rfl, trivial⟩, Nat.le_refl _⟩, hlt, (by dsimp only; omega)⟩
   ·have hk : k = b.length := by omega
    subst hk
    have hc : decide (((b.length : Nat) : Int) < (((b.map encB).length : Nat) : Int)) = false := by simp
    rw [List.take_length] at hlo ⊢
    (repeat' (first | refine goA ?_ | refine appF rfl ?_ | refine appO rfl ?_ | refine goB ?_ | ((fail_if_success refine ARun.plain rfl ?_); refine ARun.fork rfl rfl rfl (fun h => ?_) (fun h => ?_)) | refine awp_cond rfl (fun h => ?_) (fun h => ?_)))
    refine awp_ret ⟨_, ResL.cons (ResA.agg rfl rfl rfl rfl rfl rfl rfl (RL.cons (.owned rfl rfl (by simp [hlo]) (own_closed_map encB_closed)) (RL.cons (.owned rfl rfl rfl (closed_app1 m.old ((a : Int), (m.b.drop a).take b.length))) (RL.nil _)))) (ResL.cons (ResA.tmp (.val _)) .nil), ?_⟩
    show AV.tup [.agg (encM _), _] = AV.tup [.agg [_, AV.sl 2 false (m.old.map encP ++ [encP ((a : Int), (m.b.drop a).take b.length)])], _]
    unfold encM
    rw [List.map_append]
    rfl
end Go.Proofs.YtfphgelollhdhaaGreat.Mem
namespace Go.Proofs.YtfphgelollhdhaaGreat.Mem
open Go Go.RowKit
set_option maxRecDepth 100000
def uAt (n : Int) : Nat → Int
 | 0 => n % 18446744073709551616
 | k + 1 => uAt n k / 256
theorem uAt_rng (n : Int) : ∀ k, 0 ≤ uAt n k ∧ uAt n k < 18446744073709551616
 | 0 => by rw [uAt]; omega
 | k + 1 => by have := uAt_rng n k; rw [uAt]; omega
def byteAt (n : Int) (k : Nat) : UInt8 := UInt8.ofNat (uAt n k % 256).toNat
theorem byteAt_nat (n : Int) (k : Nat) : ((byteAt n k).toNat : Int) = uAt n k % 256 := by
 unfold byteAt
 rw [UInt8.toNat_ofNat']
 omega
def putB (n : Int) : List UInt8 := (List.range 8).map (byteAt n)
theorem putB_len (n : Int) : (putB n).length = 8 := by simp [putB]
theorem take_putB (n : Int) (k : Nat) (hk : k < 8) : (putB n).take (k + 1) = (putB n).take k ++ [byteAt n k] := by
 refine take_succ' ?_
 unfold putB
 rw [List.getElem?_map, List.getElem?_range hk]
 rfl
theorem ref_byte (n : Int) (k : Nat) : IntKind.u8.wrap ((uAt n k).tmod 256) = ((byteAt n k).toNat : Int) := by
 have := uAt_rng n k
 rw [byteAt_nat, Int.tmod_eq_emod_of_nonneg this.1, IntKind.wrap_u8]
 omega
theorem ref_left (n : Int) (k : Nat) : IntKind.u64.wrap ((uAt n k).tdiv 256) = uAt n (k + 1) := by
 have := uAt_rng n k
 rw [Int.tdiv_eq_ediv_of_nonneg this.1, uAt, IntKind.wrap_u64]
 omega
def numB : List UInt8 → Int
 | [] => 0
 | b :: l => (b.toNat : Int) + 256 * numB l
theorem numB_rng : ∀ l : List UInt8, 0 ≤ numB l ∧ numB l < 256 ^ l.length
 | [] => by simp [numB]
 | b :: l => by
  have := numB_rng l
  have hb : b.toNat < 256 := b.toNat_lt
  rw [numB, List.length_cons, Int.pow_succ]
  omega
theorem numB_put (n : Int) : numB (putB n) = n % 18446744073709551616 := by
 simp only [putB, List.range_succ, List.range_zero, List.nil_append, List.cons_append, List.map_cons, List.map_nil, numB, byteAt_nat, uAt]
 omega
section
attribute [local irreducible] Decidable.decide awp ARun regK toK
set_option maxHeartbeats 4000000 in
theorem ref_put_c (n : Int) : FnC Tryz.prog 107 [.val (.int .i64 n)] (encBs (putB n)) := by
 refine goF Tryz.func107 (closedL_cons (.val _) closedL_nil) (fun w0 st0 => ?_)
 dsimp only [frOf]
 (repeat' (first | refine goA ?_ | refine goB ?_ | ((fail_if_success refine ARun.plain rfl ?_); refine ARun.fork rfl rfl rfl (fun h => ?_) (fun h => ?_)) | refine awp_cond rfl (fun h => ?_) (fun h => ?_)))
 refine awp_ownNil 4 1 rfl rfl rfl ?_
 refine awp_loopT (T := Nat × Nat × Nat) (fun t => ⟨[(3, .val (.int .u64 (uAt n t.1))), (4, .own 4 t.2.1 0 (((putB n).take t.1).map encB).length), (5, .val (.int .i64 (t.1 : Nat)))], [(4, some ⟨t.2.1, 1, ((putB n).take t.1).map encB⟩)], t.2.2⟩)
  (fun t => t.1 ≤ 8) (fun t => 8 - t.1) (0, _, _) (Nat.zero_le _) ⟨⟨by rw [uAt, ← IntKind.wrap_u64]; rfl, rfl, rfl, trivial⟩, ⟨rfl, trivial⟩, Nat.le_refl _⟩ (fun t ht => ?_)
 obtain ⟨k, g, gc⟩ := t
 dsimp only at ht ⊢
 by_cases hlt : k < 8
 ·have hc : decide (((k : Nat) : Int) < 8) = true := by simp; omega
  have hs : ((putB n).take (k + 1)).map encB = ((putB n).take k).map encB ++ [[.val (.int .u8 (IntKind.u8.wrap ((uAt n k).tmod 256)))]] := by
   rw [take_putB n k hlt, ref_byte, List.map_append]
   rfl
  have hll : ((putB n).take k).length ≤ 8 := by rw [List.length_take]; omega
  (repeat' (first | refine goA ?_ | refine appO rfl ?_ | refine goB ?_ | ((fail_if_success refine ARun.plain rfl ?_); refine ARun.fork rfl rfl rfl (fun h => ?_) (fun h => ?_)) | refine awp_cond rfl (fun h => ?_) (fun h => ?_)))
  exact ⟨(k + 1, _, _), ⟨⟨by dsimp only; rw [← ref_left]; rfl, (by dsimp only; rw [hs]; rfl), succI k, trivial⟩, ⟨(by dsimp only; rw [hs]; rfl), trivial⟩, Nat.le_refl _⟩, hlt, (by dsimp only; omega)⟩
 ·have hk : k = 8 := by omega
  subst hk
  have hc : decide (((8 : Nat) : Int) < 8) = false := by simp
  (repeat' (first | refine goA ?_ | refine goB ?_ | ((fail_if_success refine ARun.plain rfl ?_); refine ARun.fork rfl rfl rfl (fun h => ?_) (fun h => ?_)) | refine awp_cond rfl (fun h => ?_) (fun h => ?_)))
  refine awp_ret ⟨_, ResL.cons (ResA.tmp (.owned rfl rfl rfl (own_closed_map encB_closed))) .nil, ?_⟩
  rfl
def getD (l : List UInt8) : Int × Int := if l.length = 8 then (IntKind.i64.wrap (numB l), 0) else (0, -24)
theorem numB_drop {l : List UInt8} {k : Nat} {c : UInt8} (h : l[k]? = some c) : numB (l.drop k) = (c.toNat : Int) + 256 * numB (l.drop (k + 1)) := by
 rw [List.drop_eq_getElem_cons (List.getElem?_eq_some_iff.1 h).1, numB, (List.getElem?_eq_some_iff.1 h).2]
set_option maxHeartbeats 4000000 in
theorem ref_get_c (l : List UInt8) (hl : l.length ≤ 1000000) : FnC Tryz.prog 22 [encBs l] (.tup [.val (.int .i64 (getD l).1), .val (.int .i64 (getD l).2)]) := by
 refine goF Tryz.func22 (closedL_cons (closed_bs l) closedL_nil) (fun w0 st0 => ?_)
 dsimp only [frOf]
 by_cases h8 : l.length = 8
 ·have e : getD l = (IntKind.i64.wrap (numB l), 0) := if_pos h8
  rw [e]
  have h0 : ((((l.map encB).length : Nat) : Int) != 8) = false := by simp [h8]
  (repeat' (first | refine goA ?_ | refine goB ?_ | ((fail_if_success refine ARun.plain rfl ?_); refine ARun.fork rfl rfl rfl (fun h => ?_) (fun h => ?_)) | refine awp_cond rfl (fun h => ?_) (fun h => ?_)))
  refine awp_loopT (T := Nat × Nat) (fun t => ⟨[(0, encBs l), (4, .val (.int .u64 (numB (l.drop t.1)))), (5, .val (.int .i64 ((t.1 : Nat) - 1 : Int)))], [], t.2⟩)
   (fun t => t.1 ≤ 8) (fun t => t.1) (8, _) (Nat.le_refl _) ⟨⟨rfl, by rw [List.drop_of_length_le (by omega)]; rfl, rfl, trivial⟩, trivial, Nat.le_refl _⟩ (fun t ht => ?_)
  obtain ⟨k, gc⟩ := t
  dsimp only at ht ⊢
  cases k with
  | succ k =>
   have hc : decide (0 ≤ (((k + 1 : Nat) : Int) - 1)) = true := by simp
   have h1 : l[k]? = some l[k] := List.getElem?_eq_getElem (by omega)
   generalize l[k] = ch at h1
   have hi : (l.map encB)[((((k + 1 : Nat) : Int) - 1)).toNat]? = some (encB ch) := by
    rw [show ((((k + 1 : Nat) : Int) - 1)).toNat = k by omega, List.getElem?_map, h1]
    rfl
   have hn := numB_drop h1
   have hr := numB_rng (l.drop (k + 1))
   have hr2 := numB_rng (l.drop k)
   have hp : (256 : Int) ^ (l.drop k).length ≤ 18446744073709551616 := by
    rw [List.length_drop, h8]
    have h5 := Nat.pow_le_pow_right (n := 256) (by omega) (by omega : 8 - k ≤ 8)
    have h6 : ((256 ^ (8 - k) : Nat) : Int) ≤ ((256 ^ 8 : Nat) : Int) := Int.ofNat_le.2 h5
    rw [Int.natCast_pow, Int.natCast_pow] at h6
    exact h6
   have hb : ch.toNat < 256 := ch.toNat_lt
   have hw : IntKind.u64.wrap (IntKind.u64.wrap (256 * numB (l.drop (k + 1))) + IntKind.u64.wrap (ch.toNat : Int)) = numB (l.drop k) := by
    simp only [IntKind.wrap_u64]
    omega
   (repeat' (first | refine goA ?_ | refine ARun.indexAddr rfl rfl lensT (by first | assumption | rfl) rfl rfl rfl rfl rfl (guardF_spec rfl) ?_ | refine goB ?_ | ((fail_if_success refine ARun.plain rfl ?_); refine ARun.fork rfl rfl rfl (fun h => ?_) (fun h => ?_)) | refine awp_cond rfl (fun h => ?_) (fun h => ?_)))
   exact ⟨(k, _), ⟨⟨rfl, by dsimp only; rw [← hw]; rfl, by show AV.val (.int .i64 (((k + 1 : Nat) : Int) - 1 - 1)) = AV.val (.int .i64 (((k : Nat) : Int) - 1)); congr 2; omega, trivial⟩, trivial, Nat.le_refl _⟩, by dsimp only; omega, (by dsimp only; omega)⟩
  | zero =>
   have hc : decide (0 ≤ (((0 : Nat) : Int) - 1)) = false := by simp
   rw [List.drop_zero]
   (repeat' (first | refine goA ?_ | refine ARun.convInt rfl rfl rfl rfl rfl (guardF_spec rfl) ?_ | refine goB ?_ | ((fail_if_success refine ARun.plain rfl ?_); refine ARun.fork rfl rfl rfl (fun h => ?_) (fun h => ?_)) | refine awp_cond rfl (fun h => ?_) (fun h => ?_)))
   refine awp_ret ⟨_, ResL.cons (ResA.tmp (.val _)) (ResL.cons (ResA.tmp (.val _)) .nil), rfl⟩
 ·have e : getD l = (0, -24) := if_neg h8
  rw [e]
  have h0 : ((((l.map encB).length : Nat) : Int) != 8) = true := by simp; omega
  (repeat' (first | refine goA ?_ | refine goB ?_ | ((fail_if_success refine ARun.plain rfl ?_); refine ARun.fork rfl rfl rfl (fun h => ?_) (fun h => ?_)) | refine awp_cond rfl (fun h => ?_) (fun h => ?_)))
  refine awp_ret ⟨_, ResL.cons (ResA.tmp (.val _)) (ResL.cons (ResA.tmp (.val _)) .nil), rfl⟩
theorem get_put (n : Int) (h : -9223372036854775808 ≤ n ∧ n ≤ 9223372036854775807) : getD (putB n) = (n, 0) := by
 unfold getD
 rw [if_pos (putB_len n), numB_put, IntKind.wrap_i64]
 congr 1
 omega
end
end Go.Proofs.YtfphgelollhdhaaGreat.Mem
