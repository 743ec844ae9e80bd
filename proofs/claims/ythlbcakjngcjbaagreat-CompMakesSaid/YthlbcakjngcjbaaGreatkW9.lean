/- kK5, kK6, kK7, kT1, kG1. -/
import Derived.Test.YthlbcakjngcjbaaGreatW1
import Derived.Test.YthlbcakjngcjbaaGreatW2
import Derived.Test.YthlbcakjngcjbaaGreatW3
import Derived.Test.YthlbcakjngcjbaaGreatW4
import Derived.Test.YthlbcakjngcjbaaGreatkW5
import Derived.Test.YthlbcakjngcjbaaGreatkW6
import Derived.Test.YthlbcakjngcjbaaGreatkW7
import Derived.Test.YthlbcakjngcjbaaGreatkW8
set_option linter.unusedVariables false
set_option linter.unusedSimpArgs false
namespace Go.Proofs.YthlbcakjngcjbaaGreat.Dict
open Go Go.RowKit
set_option maxRecDepth 100000
attribute [local irreducible] Decidable.decide awp ARun regK toK
def lastAt (p : Wd → Bool) (l : List Wd) : Nat → Option Nat
 | 0 => none
 | n + 1 => match l[n]? with
  | some w => if p w then some n else lastAt p l n
  | none => lastAt p l n
abbrev Fd := Wd × Int × Bool
def foundD (l : List Wd) : Option Nat → Fd
 | some i => match l[i]? with
  | some w => (w, (i : Int), true)
  | none => (⟨[], 0, 0⟩, 0, false)
 | none => (⟨[], 0, 0⟩, 0, false)
def encFd (r : Fd) : AV := .tup [.agg (encW r.1), .val (.int .i64 r.2.1), .val (.bool r.2.2)]
theorem lastAt_hit {p : Wd → Bool} {l : List Wd} {n : Nat} {w : Wd} (h : l[n]? = some w) (hp : p w = true) : lastAt p l (n + 1) = some n := by
 rw [lastAt, h]
 exact if_pos hp
theorem lastAt_miss {p : Wd → Bool} {l : List Wd} {n : Nat} {w : Wd} (h : l[n]? = some w) (hp : p w = false) : lastAt p l (n + 1) = lastAt p l n := by
 rw [lastAt, h]
 exact if_neg (by simp [hp])
theorem found_hit {l : List Wd} {n : Nat} {w : Wd} (h : l[n]? = some w) : foundD l (some n) = (w, (n : Int), true) := by
 simp only [foundD, h]
def capB (l : List Wd) : List AV := [.rp [encWs l]]
def encBk (l : List Wd) : List (List AV) := (l.zipIdx.reverse).map fun p => [.val (.int .i64 (p.2 : Nat)), .agg (encW p.1)]
theorem encBk_len (l : List Wd) : (encBk l).length = l.length := by unfold encBk; simp
theorem encBk_get (l : List Wd) (i : Nat) (h : i < l.length) : (encBk l)[i]? = some [.val (.int .i64 ((l.length - 1 - i : Nat) : Nat)), .agg (encW (l[l.length - 1 - i]'(by omega)))] := by
 unfold encBk
 rw [List.getElem?_map, List.getElem?_reverse (by simpa using h), List.length_zipIdx, List.getElem?_zipIdx, List.getElem?_eq_getElem (by omega)]
 simp
theorem backward_c (l : List Wd) : FnC Tryz.prog 146 [encWs l] (.clo (.func 164) [] (capB l)) := by
 refine goF Tryz.func146 (closedL_cons (closed_ws l) closedL_nil) (fun w0 st0 => ?_)
 dsimp only [frOf]
 (repeat' (first | refine goA ?_ | refine ARun.makeFunc rfl rfl rfl (guardF_spec rfl) ?_ | refine goB ?_ | ((fail_if_success refine ARun.plain rfl ?_); refine ARun.fork rfl rfl rfl (fun h => ?_) (fun h => ?_)) | refine awp_cond rfl (fun h => ?_) (fun h => ?_)))
 refine awp_ret ⟨_, ResL.cons (ResA.tmp (Reif.cloL (RL.nil _) (RL.cons (.ptr rfl rfl rfl (closedL_cons (closed_ws l) closedL_nil)) (RL.nil _)))) .nil, rfl⟩
theorem backward_i (l : List Wd) (hl : l.length ≤ 1000000) : IterC Tryz.prog 164 (capB l) (encBk l) := by
 refine IterC.of_awpY (T := tt) (ok := tok) Tryz.func164 (by kernel_rfl) rfl rfl (by kernel_rfl) (closedL_cons (.rp (closedL_cons (closed_ws l) closedL_nil)) closedL_nil) (fun Y => ?_)
 dsimp only [frOf, capB]
 (repeat' (first | refine awpY_seq ?_ | refine awpY_block ?_ | (refine awpY_plain (fun W st => ?_); refine awp_region (fun _ => hmix) ?_) | refine ARun.op rfl (by first | exact True.intro | exact rfl | (unfold inR; omega) | omega | ((try unfold inR); simp only [decide_eq_true_eq, decide_eq_false_iff_not, beq_iff_eq, beq_eq_false_iff_ne, ne_eq, Bool.not_eq_true', Bool.not_eq_false', List.length_map, List.length_append, List.length_take, List.length_drop, List.length_replicate, List.length_cons, List.length_nil] at *; omega)) ?_ | (refine ARun.fin (by first | (intro h; cases h; done) | (intro _; kernel_rfl)) ?_; dsimp only [thenY, blockY, thenA, blockA, AS.bump, List.length_cons, List.length_nil, reduceIte, Nat.reduceEqDiff]) | (refine awpY_skip ?_; dsimp only [thenY, blockY, thenA, blockA, AS.bump, List.length_cons, List.length_nil, reduceIte, Nat.reduceEqDiff]) | (refine awpY_exit ?_; dsimp only [thenY, blockY, thenA, blockA, AS.bump, List.length_cons, List.length_nil, reduceIte, Nat.reduceEqDiff]) | refine awpY_condT rfl (by first | rfl | assumption | exact beq_int _ | exact bne_int _) ?_ | refine awpY_condF rfl (by first | rfl | assumption | exact beq_int _ | exact bne_int _) ?_))
 refine awpY_loopT (τ := Nat × Nat) (fun t => ⟨[(3, .val (.int .i64 ((l.length : Int) - 1 - (t.1 : Nat)))), (0, .val (.func (.yield Y.l) #[] #[])), (1, .rp [encWs l])], [], t.2⟩) (fun t => some t.1) (fun t => t.1 ≤ l.length) (fun t => l.length - t.1) (0, _) (Nat.zero_le _) rfl ⟨⟨by rw [List.length_map, Int.ofNat_zero, Int.sub_zero]; rfl, rfl, rfl, trivial⟩, trivial, Nat.le_refl _⟩ (fun t ht => ?_)
 obtain ⟨i, gc⟩ := t
 dsimp only at ht ⊢
 by_cases hlt : i < l.length
 ·have d1 : decide ((0 : Int) ≤ (l.length : Int) - 1 - (i : Nat)) = true := decide_eq_true (by omega)
  have hpe : l[l.length - 1 - i]? = some (l[l.length - 1 - i]'(by omega)) := List.getElem?_eq_getElem (by omega)
  have hx := encBk_get l i hlt
  rw [show (((l.length - 1 - i : Nat) : Nat) : Int) = (l.length : Int) - 1 - (i : Nat) by omega] at hx
  generalize l[l.length - 1 - i]'(by omega) = p at hpe hx
  have hp : (l.map encW)[((l.length : Int) - 1 - (i : Nat)).toNat]? = some (encW p) := by
   rw [show ((l.length : Int) - 1 - (i : Nat)).toNat = l.length - 1 - i by omega, List.getElem?_map, hpe]
   rfl
  (repeat' (first | refine awpY_yield 6 _ [(3, .val (.int .i64 ((l.length : Int) - 1 - (i : Nat)))), (0, .val (.func (.yield Y.l) #[] #[])), (1, .rp [encWs l])] rfl hx (closedL_cons (.val _) (closedL_cons (closed_w p) closedL_nil)) (.cons (.val _) (.cons (.val _) (.cons (.rp (closedL_cons (closed_ws l) closedL_nil)) .nil))) rfl (fun W st => ?_) | refine awpY_seq ?_ | refine awpY_block ?_ | (refine awpY_plain (fun W st => ?_); refine awp_region (fun _ => hmix) ?_) | refine ARun.op rfl (by first | exact True.intro | exact rfl | (unfold inR; omega) | omega | ((try unfold inR); simp only [decide_eq_true_eq, decide_eq_false_iff_not, beq_iff_eq, beq_eq_false_iff_ne, ne_eq, Bool.not_eq_true', Bool.not_eq_false', List.length_map, List.length_append, List.length_take, List.length_drop, List.length_replicate, List.length_cons, List.length_nil] at *; omega)) ?_ | refine ARun.indexAddr rfl rfl lensT (by first | assumption | rfl) rfl rfl rfl rfl rfl (guardF_spec rfl) ?_ | (refine ARun.fin (by first | (intro h; cases h; done) | (intro _; kernel_rfl)) ?_; dsimp only [thenY, blockY, thenA, blockA, AS.bump, List.length_cons, List.length_nil, reduceIte, Nat.reduceEqDiff]) | (refine awpY_skip ?_; dsimp only [thenY, blockY, thenA, blockA, AS.bump, List.length_cons, List.length_nil, reduceIte, Nat.reduceEqDiff]) | (refine awpY_exit ?_; dsimp only [thenY, blockY, thenA, blockA, AS.bump, List.length_cons, List.length_nil, reduceIte, Nat.reduceEqDiff]) | refine awpY_condT rfl (by first | rfl | assumption | exact beq_int _ | exact bne_int _) ?_ | refine awpY_condF rfl (by first | rfl | assumption | exact beq_int _ | exact bne_int _) ?_))
  refine ARun.nil ⟨rfl, rfl, rfl, ⟨rfl, rfl, rfl, trivial⟩, fun W st => ?_, fun W st => ?_⟩
  ·dsimp only [List.drop_succ_cons, List.drop_zero]
   (repeat' (first | refine awpY_seq ?_ | refine awpY_block ?_ | (refine awpY_plain (fun W st => ?_); refine awp_region (fun _ => hmix) ?_) | refine ARun.op rfl (by first | exact True.intro | exact rfl | (unfold inR; omega) | omega | ((try unfold inR); simp only [decide_eq_true_eq, decide_eq_false_iff_not, beq_iff_eq, beq_eq_false_iff_ne, ne_eq, Bool.not_eq_true', Bool.not_eq_false', List.length_map, List.length_append, List.length_take, List.length_drop, List.length_replicate, List.length_cons, List.length_nil] at *; omega)) ?_ | (refine ARun.fin (by first | (intro h; cases h; done) | (intro _; kernel_rfl)) ?_; dsimp only [thenY, blockY, thenA, blockA, AS.bump, List.length_cons, List.length_nil, reduceIte, Nat.reduceEqDiff]) | (refine awpY_skip ?_; dsimp only [thenY, blockY, thenA, blockA, AS.bump, List.length_cons, List.length_nil, reduceIte, Nat.reduceEqDiff]) | (refine awpY_exit ?_; dsimp only [thenY, blockY, thenA, blockA, AS.bump, List.length_cons, List.length_nil, reduceIte, Nat.reduceEqDiff]) | refine awpY_condT rfl (by first | rfl | assumption | exact beq_int _ | exact bne_int _) ?_ | refine awpY_condF rfl (by first | rfl | assumption | exact beq_int _ | exact bne_int _) ?_))
   refine ARun.nil ?_
   dsimp only [thenY, blockY]
   (repeat' (first | refine awpY_seq ?_ | refine awpY_block ?_ | (refine awpY_plain (fun W st => ?_); refine awp_region (fun _ => hmix) ?_) | refine ARun.op rfl (by first | exact True.intro | exact rfl | (unfold inR; omega) | omega | ((try unfold inR); simp only [decide_eq_true_eq, decide_eq_false_iff_not, beq_iff_eq, beq_eq_false_iff_ne, ne_eq, Bool.not_eq_true', Bool.not_eq_false', List.length_map, List.length_append, List.length_take, List.length_drop, List.length_replicate, List.length_cons, List.length_nil] at *; omega)) ?_ | (refine ARun.fin (by first | (intro h; cases h; done) | (intro _; kernel_rfl)) ?_; dsimp only [thenY, blockY, thenA, blockA, AS.bump, List.length_cons, List.length_nil, reduceIte, Nat.reduceEqDiff]) | (refine awpY_skip ?_; dsimp only [thenY, blockY, thenA, blockA, AS.bump, List.length_cons, List.length_nil, reduceIte, Nat.reduceEqDiff]) | (refine awpY_exit ?_; dsimp only [thenY, blockY, thenA, blockA, AS.bump, List.length_cons, List.length_nil, reduceIte, Nat.reduceEqDiff]) | refine awpY_condT rfl (by first | rfl | assumption | exact beq_int _ | exact bne_int _) ?_ | refine awpY_condF rfl (by first | rfl | assumption | exact beq_int _ | exact bne_int _) ?_))
   refine ⟨(i + 1, _), rfl, ⟨⟨?_, rfl, rfl, trivial⟩, trivial, Nat.le_refl _⟩, hlt, (by dsimp only; omega)⟩
   show AV.val (.int .i64 ((l.length : Int) - 1 - (i : Nat) - 1)) = AV.val (.int .i64 ((l.length : Int) - 1 - ((i + 1 : Nat) : Int)))
   rw [Int.natCast_add]
   congr 2
   omega
  ·dsimp only [List.drop_succ_cons, List.drop_zero]
   (repeat' (first | refine awpY_seq ?_ | refine awpY_block ?_ | (refine awpY_plain (fun W st => ?_); refine awp_region (fun _ => hmix) ?_) | refine ARun.op rfl (by first | exact True.intro | exact rfl | (unfold inR; omega) | omega | ((try unfold inR); simp only [decide_eq_true_eq, decide_eq_false_iff_not, beq_iff_eq, beq_eq_false_iff_ne, ne_eq, Bool.not_eq_true', Bool.not_eq_false', List.length_map, List.length_append, List.length_take, List.length_drop, List.length_replicate, List.length_cons, List.length_nil] at *; omega)) ?_ | (refine ARun.fin (by first | (intro h; cases h; done) | (intro _; kernel_rfl)) ?_; dsimp only [thenY, blockY, thenA, blockA, AS.bump, List.length_cons, List.length_nil, reduceIte, Nat.reduceEqDiff]) | (refine awpY_skip ?_; dsimp only [thenY, blockY, thenA, blockA, AS.bump, List.length_cons, List.length_nil, reduceIte, Nat.reduceEqDiff]) | (refine awpY_exit ?_; dsimp only [thenY, blockY, thenA, blockA, AS.bump, List.length_cons, List.length_nil, reduceIte, Nat.reduceEqDiff]) | refine awpY_condT rfl (by first | rfl | assumption | exact beq_int _ | exact bne_int _) ?_ | refine awpY_condF rfl (by first | rfl | assumption | exact beq_int _ | exact bne_int _) ?_))
   refine ARun.nil ?_
   dsimp only [thenY, blockY]
   (repeat' (first | refine awpY_seq ?_ | refine awpY_block ?_ | (refine awpY_plain (fun W st => ?_); refine awp_region (fun _ => hmix) ?_) | refine ARun.op rfl (by first | exact True.intro | exact rfl | (unfold inR; omega) | omega | ((try unfold inR); simp only [decide_eq_true_eq, decide_eq_false_iff_not, beq_iff_eq, beq_eq_false_iff_ne, ne_eq, Bool.not_eq_true', Bool.not_eq_false', List.length_map, List.length_append, List.length_take, List.length_drop, List.length_replicate, List.length_cons, List.length_nil] at *; omega)) ?_ | (refine ARun.fin (by first | (intro h; cases h; done) | (intro _; kernel_rfl)) ?_; dsimp only [thenY, blockY, thenA, blockA, AS.bump, List.length_cons, List.length_nil, reduceIte, Nat.reduceEqDiff]) | (refine awpY_skip ?_; dsimp only [thenY, blockY, thenA, blockA, AS.bump, List.length_cons, List.length_nil, reduceIte, Nat.reduceEqDiff]) | (refine awpY_exit ?_; dsimp only [thenY, blockY, thenA, blockA, AS.bump, List.length_cons, List.length_nil, reduceIte, Nat.reduceEqDiff]) | refine awpY_condT rfl (by first | rfl | assumption | exact beq_int _ | exact bne_int _) ?_ | refine awpY_condF rfl (by first | rfl | assumption | exact beq_int _ | exact bne_int _) ?_))
   refine awpY_ret ?_
   exact ⟨.inr rfl, .inr rfl⟩
 ·have hi : i = l.length := by omega
  subst hi
  have d1 : decide ((0 : Int) ≤ (l.length : Int) - 1 - ((l.length : Nat) : Int)) = false := decide_eq_false (by omega)
  (repeat' (first | refine awpY_seq ?_ | refine awpY_block ?_ | (refine awpY_plain (fun W st => ?_); refine awp_region (fun _ => hmix) ?_) | refine ARun.op rfl (by first | exact True.intro | exact rfl | (unfold inR; omega) | omega | ((try unfold inR); simp only [decide_eq_true_eq, decide_eq_false_iff_not, beq_iff_eq, beq_eq_false_iff_ne, ne_eq, Bool.not_eq_true', Bool.not_eq_false', List.length_map, List.length_append, List.length_take, List.length_drop, List.length_replicate, List.length_cons, List.length_nil] at *; omega)) ?_ | (refine ARun.fin (by first | (intro h; cases h; done) | (intro _; kernel_rfl)) ?_; dsimp only [thenY, blockY, thenA, blockA, AS.bump, List.length_cons, List.length_nil, reduceIte, Nat.reduceEqDiff]) | (refine awpY_skip ?_; dsimp only [thenY, blockY, thenA, blockA, AS.bump, List.length_cons, List.length_nil, reduceIte, Nat.reduceEqDiff]) | (refine awpY_exit ?_; dsimp only [thenY, blockY, thenA, blockA, AS.bump, List.length_cons, List.length_nil, reduceIte, Nat.reduceEqDiff]) | refine awpY_condT rfl (by first | rfl | assumption | exact beq_int _ | exact bne_int _) ?_ | refine awpY_condF rfl (by first | rfl | assumption | exact beq_int _ | exact bne_int _) ?_))
  rw [if_pos rfl]
  exact ⟨.inl rfl, .inl (by rw [encBk_len])⟩
set_option maxHeartbeats 4000000 in
theorem last_c (l : List Wd) (p : Wd → Bool) (f : FuncId) (cap : List AV) (hcap : ∀ x, x ∈ cap → Closed x) (hl : l.length ≤ 1000000) (hf : ∀ w, w ∈ l → FnC Tryz.prog f (.agg (encW w) :: cap) (.val (.bool (p w)))) :
  FnC Tryz.prog 121 [encWs l, .clo (.func f) [] cap] (encFd (foundD l (lastAt p l l.length))) := by
 have hcl : Closed (.clo (.func f) [] cap) := .clo closedL_nil hcap
 have c1 := backward_c l
 refine goF Tryz.func121 (closedL_cons (closed_ws l) (closedL_cons hcl closedL_nil)) (fun w0 st0 => ?_)
 dsimp only [frOf]
 (repeat' (first | refine goA ?_ | refine cX c1 ?_ | refine goB ?_ | ((fail_if_success refine ARun.plain rfl ?_); refine ARun.fork rfl rfl rfl (fun h => ?_) (fun h => ?_)) | refine awp_cond rfl (fun h => ?_) (fun h => ?_)))
 refine awp_rangeFunc (τ := Nat × Nat) (fun t => [(3, some ⟨0, 1, [[.clo (.func f) [] cap]]⟩), (4, some ⟨1, 3, [[St [], .val (.int .i64 0), .val (.int .i64 0)]]⟩), (5, some ⟨2, 1, [[.val (.int .i64 0)]]⟩), (6, some ⟨3, 1, [[.val (.bool false)]]⟩)]) (fun t => t.2) (fun i t => t.1 = i ∧ i ≤ l.length ∧ lastAt p l l.length = lastAt p l (l.length - i)) (0, _) (backward_i l hl) rfl
  (closedL_cons (.rp (closedL_cons (closed_ws l) closedL_nil)) closedL_nil) (fun x hx => by obtain ⟨q, _, rfl⟩ := List.mem_map.1 hx; rfl) (fun x hx => by obtain ⟨q, _, rfl⟩ := List.mem_map.1 hx; exact closedL_cons (.val _) (closedL_cons (closed_w q.1) closedL_nil)) (by kernel_rfl) ⟨rfl, Nat.zero_le _, rfl⟩
  ⟨⟨rfl, rfl, rfl, rfl, trivial⟩, Nat.le_refl _⟩ (fun w0 st0 lent lp c0 i x t hx hI => ?_) (fun t hI => ?_)
 ·obtain ⟨j, gc⟩ := t
  dsimp only at hI ⊢
  obtain ⟨rfl, hj, hA⟩ := hI
  have hjl : j < l.length := by rw [← encBk_len l]; exact (List.getElem?_eq_some_iff.1 hx).1
  rw [encBk_get l j hjl] at hx
  obtain rfl := Option.some.inj hx
  have hpe : l[l.length - 1 - j]? = some (l[l.length - 1 - j]'(by omega)) := List.getElem?_eq_getElem (by omega)
  have hmem : (l[l.length - 1 - j]'(by omega)) ∈ l := List.getElem_mem _
  generalize l[l.length - 1 - j]'(by omega) = w at hpe hmem
  have c2 := hf w hmem
  have e1 : l.length - j = (l.length - 1 - j) + 1 := by omega
  dsimp only [setPs]
  (repeat' (first | refine goA ?_ | refine goB ?_ | ((fail_if_success refine ARun.plain rfl ?_); refine ARun.fork rfl rfl rfl (fun h => ?_) (fun h => ?_)) | refine awp_cond rfl (fun h => ?_) (fun h => ?_)))
  intro w0 st0 lent c0
  cases hpw : p w with
  | false =>
   rw [hpw] at c2
   (repeat' (first | refine goA ?_ | refine callCX (c2) rfl rfl rfl rfl ?_ | refine goB ?_ | ((fail_if_success refine ARun.plain rfl ?_); refine ARun.fork rfl rfl rfl (fun h => ?_) (fun h => ?_)) | refine awp_cond rfl (fun h => ?_) (fun h => ?_)))
   refine ⟨(j + 1, _), ⟨rfl, rfl, rfl, rfl, trivial⟩, Nat.le_refl _, rfl, hjl, ?_⟩
   rw [hA, e1, lastAt_miss hpe hpw, show l.length - (j + 1) = l.length - 1 - j by omega]
  | true =>
   rw [hpw] at c2
   rw [hA, e1, lastAt_hit hpe hpw, found_hit hpe]
   (repeat' (first | refine goA ?_ | refine callCX (c2) rfl rfl rfl rfl ?_ | refine goB ?_ | ((fail_if_success refine ARun.plain rfl ?_); refine ARun.fork rfl rfl rfl (fun h => ?_) (fun h => ?_)) | refine awp_cond rfl (fun h => ?_) (fun h => ?_)))
   refine awp_ret ?_
   exact ⟨_, (ResL.cons (ResA.agg rfl rfl rfl rfl rfl rfl rfl (RL.cons (.val _) (RL.cons (.val _) (RL.cons (.val _) (RL.nil _))))) (ResL.cons (ResA.one rfl rfl rfl rfl rfl rfl rfl (.val _)) (ResL.cons (ResA.one rfl rfl rfl rfl rfl rfl rfl (.val _)) .nil))), rfl⟩
 ·obtain ⟨j, gc⟩ := t
  dsimp only at hI ⊢
  obtain ⟨rfl, hj, hA⟩ := hI
  rw [encBk_len, Nat.sub_self] at hA
  rw [hA]
  dsimp only [thenA, blockA]
  (repeat' (first | refine goA ?_ | refine goB ?_ | ((fail_if_success refine ARun.plain rfl ?_); refine ARun.fork rfl rfl rfl (fun h => ?_) (fun h => ?_)) | refine awp_cond rfl (fun h => ?_) (fun h => ?_)))
  exact awp_ret ⟨_, (ResL.cons (ResA.agg rfl rfl rfl rfl rfl rfl rfl (RL.cons (.val _) (RL.cons (.val _) (RL.cons (.val _) (RL.nil _))))) (ResL.cons (ResA.one rfl rfl rfl rfl rfl rfl rfl (.val _)) (ResL.cons (ResA.one rfl rfl rfl rfl rfl rfl rfl (.val _)) .nil))), rfl⟩
end Go.Proofs.YthlbcakjngcjbaaGreat.Dict
namespace Go.Proofs.YthlbcakjngcjbaaGreat.Dict
open Go Go.RowKit
set_option maxRecDepth 100000
attribute [local irreducible] Decidable.decide awp ARun regK toK
def findP (name : Bs) (w : Wd) : Bool := !hidD w && alikeD w.name name
theorem find1_c (name : Bs) (w : Wd) (hn : name.length ≤ 1000000) (hw : w.name.length ≤ 1000000) (hf : 0 ≤ w.fl ∧ w.fl ≤ 7) : FnC Tryz.prog 122 [.agg (encW w), .rp [St name]] (.val (.bool (findP name w))) := by
 have c1 := alike_c w.name name hw hn
 have hh := hid_eq w.fl hf
 refine goF Tryz.func122 (closedL_cons (closed_w w) (closedL_cons (.rp (closedL_cons (.val _) closedL_nil)) closedL_nil)) (fun w0 st0 => ?_)
 dsimp only [frOf]
 cases hb : hidD w with
 | false =>
  have d1 : (bitsV .and .i64 w.fl 2 == 0) = true := by rw [hh]; unfold hidD at hb; rw [hb]; rfl
  rw [show findP name w = alikeD w.name name by unfold findP; rw [hb]; rfl]
  (repeat' (first | refine goA ?_ | refine cX c1 ?_ | refine goB ?_ | ((fail_if_success refine ARun.plain rfl ?_); refine ARun.fork rfl rfl rfl (fun h => ?_) (fun h => ?_)) | refine awp_cond rfl (fun h => ?_) (fun h => ?_)))
  exact awp_ret ⟨_, ResL.cons (ResA.tmp (.val _)) .nil, rfl⟩
 | true =>
  have d1 : (bitsV .and .i64 w.fl 2 == 0) = false := by rw [hh]; unfold hidD at hb; rw [hb]; rfl
  rw [show findP name w = false by unfold findP; rw [hb]; rfl]
  (repeat' (first | refine goA ?_ | refine cX c1 ?_ | refine goB ?_ | ((fail_if_success refine ARun.plain rfl ?_); refine ARun.fork rfl rfl rfl (fun h => ?_) (fun h => ?_)) | refine awp_cond rfl (fun h => ?_) (fun h => ?_)))
  exact awp_ret ⟨_, ResL.cons (ResA.tmp (.val _)) .nil, rfl⟩
def findD (l : List Wd) (name : Bs) : Fd := foundD l (lastAt (findP name) l l.length)
def NameIn (l : List Wd) : Prop := ∀ w, w ∈ l → w.name.length ≤ 1000000 ∧ 0 ≤ w.fl ∧ w.fl ≤ 7
theorem find_c (l : List Wd) (name : Bs) (hl : l.length ≤ 1000000) (hn : name.length ≤ 1000000) (hw : NameIn l) : FnC Tryz.prog 71 [encWs l, St name] (encFd (findD l name)) := by
 have c1 := last_c l (findP name) 122 [.rp [St name]] (closedL_cons (.rp (closedL_cons (.val _) closedL_nil)) closedL_nil) hl (fun w h => find1_c name w hn (hw w h).1 (hw w h).2)
 rw [show foundD l (lastAt (findP name) l l.length) = findD l name from rfl] at c1
 generalize findD l name = r at *
 refine goF Tryz.func71 (closedL_cons (closed_ws l) (closedL_cons (.val _) closedL_nil)) (fun w0 st0 => ?_)
 dsimp only [frOf]
 (repeat' (first | refine goA ?_ | refine ARun.makeFunc rfl rfl rfl (guardF_spec rfl) ?_ | refine callGX [(3, _)] ( c1) (BsOk.cons rfl (by exact clo_all rfl) (BsOk.nil _)) rfl fzT rfl rfl ?_ | refine goB ?_ | ((fail_if_success refine ARun.plain rfl ?_); refine ARun.fork rfl rfl rfl (fun h => ?_) (fun h => ?_)) | refine awp_cond rfl (fun h => ?_) (fun h => ?_)))
 exact awp_ret ⟨_, ResL.cons (ResA.agg rfl rfl rfl rfl rfl rfl rfl (RL.cons (.val _) (RL.cons (.val _) (RL.cons (.val _) (RL.nil _))))) (ResL.cons (ResA.tmp (.val _)) (ResL.cons (ResA.tmp (.val _)) .nil)), rfl⟩
set_option maxHeartbeats 4000000 in
theorem ref_find_c (l : List Wd) (name : Bs) (hl : l.length ≤ 1000000) (hn : name.length ≤ 1000000) (hw : NameIn l) : FnC Tryz.prog 37 [encWs l, St name] (encFd (findD l name)) := by
 generalize hP : findP name = P
 refine goF Tryz.func37 (closedL_cons (closed_ws l) (closedL_cons (.val _) closedL_nil)) (fun w0 st0 => ?_)
 dsimp only [frOf]
 rw [show findD l name = foundD l (lastAt P l l.length) by rw [← hP]; rfl]
 (repeat' (first | refine goA ?_ | refine goB ?_ | ((fail_if_success refine ARun.plain rfl ?_); refine ARun.fork rfl rfl rfl (fun h => ?_) (fun h => ?_)) | refine awp_cond rfl (fun h => ?_) (fun h => ?_)))
 refine awp_loopT (T := Nat × Nat) (fun t => ⟨[(7, .val (.int .i64 ((l.length : Int) - 1 - (t.1 : Nat)))), (0, encWs l), (1, St name), (4, .ptr 4 0 0 0), (5, .val (.int .i64 0)), (6, .val (.bool false))], [(4, some ⟨0, 3, [[St [], .val (.int .i64 0), .val (.int .i64 0)]]⟩)], t.2⟩) (fun t => t.1 ≤ l.length ∧ lastAt P l l.length = lastAt P l (l.length - t.1)) (fun t => l.length - t.1) (0, _) ⟨Nat.zero_le _, rfl⟩ ⟨⟨by rw [List.length_map, Int.ofNat_zero, Int.sub_zero]; rfl, rfl, rfl, rfl, rfl, rfl, trivial⟩, ⟨rfl, trivial⟩, Nat.le_refl _⟩ (fun t ht => ?_)
 obtain ⟨j, gc⟩ := t
 obtain ⟨hj, hA⟩ := ht
 dsimp only at hj hA ⊢
 by_cases hlt : j < l.length
 ·have d1 : decide ((0 : Int) ≤ (l.length : Int) - 1 - (j : Nat)) = true := decide_eq_true (by omega)
  have hpe : l[l.length - 1 - j]? = some (l[l.length - 1 - j]'(by omega)) := List.getElem?_eq_getElem (by omega)
  have hmem : (l[l.length - 1 - j]'(by omega)) ∈ l := List.getElem_mem _
  generalize l[l.length - 1 - j]'(by omega) = w at hpe hmem
  have e1 : l.length - j = (l.length - 1 - j) + 1 := by omega
  have hp : (l.map encW)[((l.length : Int) - 1 - (j : Nat)).toNat]? = some (encW w) := by
   rw [show ((l.length : Int) - 1 - (j : Nat)).toNat = l.length - 1 - j by omega, List.getElem?_map, hpe]
   rfl
  have c1 := ref_alike_c w.name name (hw w hmem).1 hn
  have c2 := hidden_c w (hw w hmem).2
  have miss : P w = false → lastAt P l l.length = lastAt P l (l.length - (j + 1)) := fun hpw => by
   rw [hA, e1, lastAt_miss hpe hpw, show l.length - (j + 1) = l.length - 1 - j by omega]
  have step : AV.val (.int .i64 ((l.length : Int) - 1 - (j : Nat) - 1)) = AV.val (.int .i64 ((l.length : Int) - 1 - ((j + 1 : Nat) : Int))) := by
   rw [Int.natCast_add]
   congr 2
   omega
  cases ha : alikeD w.name name with
  | false =>
   rw [ha] at c1
   have hpw : P w = false := by rw [← hP]; unfold findP; rw [ha, Bool.and_false]
   (repeat' (first | refine goA ?_ | refine ARun.indexAddr rfl rfl lensT (by first | assumption | rfl) rfl rfl rfl rfl rfl (guardF_spec rfl) ?_ | refine cX c1 ?_ | refine cX c2 ?_ | refine goB ?_ | ((fail_if_success refine ARun.plain rfl ?_); refine ARun.fork rfl rfl rfl (fun h => ?_) (fun h => ?_)) | refine awp_cond rfl (fun h => ?_) (fun h => ?_)))
   exact ⟨(j + 1, _), ⟨⟨step, rfl, rfl, rfl, rfl, rfl, trivial⟩, ⟨rfl, trivial⟩, Nat.le_refl _⟩, ⟨hlt, miss hpw⟩, (by dsimp only; omega)⟩
  | true =>
   rw [ha] at c1
   cases hb : hidD w with
   | true =>
    rw [hb] at c2
    have hpw : P w = false := by rw [← hP]; unfold findP; rw [hb]; rfl
    (repeat' (first | refine goA ?_ | refine ARun.indexAddr rfl rfl lensT (by first | assumption | rfl) rfl rfl rfl rfl rfl (guardF_spec rfl) ?_ | refine cX c1 ?_ | refine cX c2 ?_ | refine goB ?_ | ((fail_if_success refine ARun.plain rfl ?_); refine ARun.fork rfl rfl rfl (fun h => ?_) (fun h => ?_)) | refine awp_cond rfl (fun h => ?_) (fun h => ?_)))
    exact ⟨(j + 1, _), ⟨⟨step, rfl, rfl, rfl, rfl, rfl, trivial⟩, ⟨rfl, trivial⟩, Nat.le_refl _⟩, ⟨hlt, miss hpw⟩, (by dsimp only; omega)⟩
   | false =>
    rw [hb] at c2
    have hpw : P w = true := by rw [← hP]; unfold findP; rw [ha, hb]; rfl
    rw [hA, e1, lastAt_hit hpe hpw, found_hit hpe, show ((l.length - 1 - j : Nat) : Int) = (l.length : Int) - 1 - (j : Nat) by omega]
    (repeat' (first | refine goA ?_ | refine ARun.indexAddr rfl rfl lensT (by first | assumption | rfl) rfl rfl rfl rfl rfl (guardF_spec rfl) ?_ | refine cX c1 ?_ | refine cX c2 ?_ | refine goB ?_ | ((fail_if_success refine ARun.plain rfl ?_); refine ARun.fork rfl rfl rfl (fun h => ?_) (fun h => ?_)) | refine awp_cond rfl (fun h => ?_) (fun h => ?_)))
    exact awp_ret ⟨_, ResL.cons (ResA.agg rfl rfl rfl rfl rfl rfl rfl (RL.cons (.val _) (RL.cons (.val _) (RL.cons (.val _) (RL.nil _))))) (ResL.cons (ResA.tmp (.val _)) (ResL.cons (ResA.tmp (.val _)) .nil)), rfl⟩
 ·have hjj : j = l.length := by omega
  subst hjj
  have d1 : decide ((0 : Int) ≤ (l.length : Int) - 1 - ((l.length : Nat) : Int)) = false := decide_eq_false (by omega)
  rw [Nat.sub_self] at hA
  rw [hA]
  (repeat' (first | refine goA ?_ | refine goB ?_ | ((fail_if_success refine ARun.plain rfl ?_); refine ARun.fork rfl rfl rfl (fun h => ?_) (fun h => ?_)) | refine awp_cond rfl (fun h => ?_) (fun h => ?_)))
  exact awp_ret ⟨_, ResL.cons (ResA.agg rfl rfl rfl rfl rfl rfl rfl (RL.cons (.val _) (RL.cons (.val _) (RL.cons (.val _) (RL.nil _))))) (ResL.cons (ResA.tmp (.val _)) (ResL.cons (ResA.tmp (.val _)) .nil)), rfl⟩
end Go.Proofs.YthlbcakjngcjbaaGreat.Dict
namespace Go.Proofs.YthlbcakjngcjbaaGreat.Dict
open Go Go.RowKit
set_option maxRecDepth 100000
attribute [local irreducible] Decidable.decide awp ARun regK toK
def encWE (r : List Wd × Int) : AV := .tup [encWs r.1, .val (.int .i64 r.2)]
def addD (l : List Wd) (name : Bs) (xt fl limit : Int) : List Wd × Int :=
 if namedD name ≠ 0 then (l, namedD name) else if ¬(0 ≤ fl ∧ fl ≤ 7) then (l, -24) else if limit ≤ l.length ∨ 1024 ≤ l.length then (l, -8) else (l ++ [⟨name, xt, fl⟩], 0)
def setFl (l : List Wd) (i : Nat) (fl : Int) : List Wd := match l[i]? with
 | some w => l.set i ⟨w.name, w.xt, fl⟩
 | none => l
def flagD (l : List Wd) (at' fl : Int) : List Wd × Int := if at' < 0 ∨ (l.length : Int) ≤ at' ∨ ¬(0 ≤ fl ∧ fl ≤ 7) then (l, -24) else (setFl l at'.toNat fl, 0)
def cutD (l : List Wd) (many : Int) : List Wd × Int := if many < 0 ∨ (l.length : Int) < many then (l, -24) else (l.take many.toNat, 0)
theorem setFl_len (l : List Wd) (i : Nat) (fl : Int) : (setFl l i fl).length = l.length := by
 unfold setFl
 split
 ·rw [List.length_set]
 ·rfl
theorem wclip_c (l : List Wd) (hl : l.length ≤ 1000000) : FnC Tryz.prog 120 [encWs l] (.sl 3 true (l.map encW)) := by
 refine goF Tryz.func120 (closedL_cons (closed_ws l) closedL_nil) (fun w0 st0 => ?_)
 dsimp only [frOf]
 (repeat' (first | refine goA ?_ | refine ARun.sliceClip rfl rfl rfl rfl rfl rfl (by first | exact .inr rfl | exact .inl rfl | (right; simp; done)) rfl (guardF_spec rfl) ?_ | refine goB ?_ | ((fail_if_success refine ARun.plain rfl ?_); refine ARun.fork rfl rfl rfl (fun h => ?_) (fun h => ?_)) | refine awp_cond rfl (fun h => ?_) (fun h => ?_)))
 refine awp_ret ⟨_, ResL.cons (ResA.tmp (.closed _ (closed_map encW_closed))) .nil, rfl⟩
theorem wclone_o (l : List Wd) (hl : l.length ≤ 1000000) : FnO Tryz.prog 119 [encWs l] 3 (l.map encW) (fun b g => .own b g 0 (l.map encW).length) := by
 refine FnO.of_awp (T := tt) (ok := tok) Tryz.func119 (by kernel_rfl) rfl (by kernel_rfl) (closedL_cons (closed_ws l) closedL_nil) rfl (own_closed_map encW_closed) (fun w0 st0 => ?_)
 dsimp only [frOf]
 cases l with
 | nil =>
  (repeat' (first | refine goA ?_ | refine ARun.eqNil rfl rfl rfl rfl (guardF_spec rfl) ?_ | refine appF rfl ?_ | refine awp_condAny rfl ?_ ?_ | refine goB ?_ | ((fail_if_success refine ARun.plain rfl ?_); refine ARun.fork rfl rfl rfl (fun h => ?_) (fun h => ?_)) | refine awp_cond rfl (fun h => ?_) (fun h => ?_)))
  ·refine awp_ownNil 2 3 rfl rfl rfl ?_
   refine awp_ret ⟨_, _, _, _, rfl, .cons rfl (.own 0 _) .nil, fun _ _ => rfl⟩
  ·refine awp_ret ⟨_, _, _, _, rfl, .cons rfl (.own 0 _) .nil, fun _ _ => rfl⟩
 | cons y l =>
  (repeat' (first | refine goA ?_ | refine ARun.eqNil rfl rfl rfl rfl (guardF_spec rfl) ?_ | refine appF rfl ?_ | refine goB ?_ | ((fail_if_success refine ARun.plain rfl ?_); refine ARun.fork rfl rfl rfl (fun h => ?_) (fun h => ?_)) | refine awp_cond rfl (fun h => ?_) (fun h => ?_)))
  refine awp_ret ⟨_, _, _, _, rfl, .cons rfl (.own 0 _) .nil, fun _ _ => rfl⟩
theorem wapp_closed (l : List Wd) (w : Wd) : ∀ el x, el ∈ l.map encW ++ [encW w] → x ∈ el → Closed x := own_closed_app encW_closed (encW_closed w)
set_option maxHeartbeats 4000000 in
theorem add_c (l : List Wd) (name : Bs) (xt fl limit : Int) (hl : l.length ≤ 1000000) (hn : name.length ≤ 1000000) (hf : -9223372036854775808 ≤ fl ∧ fl ≤ 9223372036854775807) : FnC Tryz.prog 112 [encWs l, St name, .val (.int .i64 xt), .val (.int .i64 fl), .val (.int .i64 limit)] (encWE (addD l name xt fl limit)) := by
 have c1 := named_c name hn
 have c2 := flagged_c fl hf
 have c3 := wclip_c l hl
 by_cases h1 : namedD name = 0
 ·have d1 : (namedD name != 0) = false := by simp [h1]
  by_cases h2 : 0 ≤ fl ∧ fl ≤ 7
  ·rw [decide_eq_true h2] at c2
   have e0 : (((l.map encW).length : Nat) : Int) = l.length := by rw [List.length_map]
   by_cases h3 : limit ≤ l.length ∨ 1024 ≤ l.length
   ·have d3 : decide (min limit 1024 ≤ (((l.map encW).length : Nat) : Int)) = true := decide_eq_true (by omega)
    rw [show addD l name xt fl limit = (l, -8) by unfold addD; rw [if_neg (by simp [h1]), if_neg (by simp [h2]), if_pos h3]]
    refine goF Tryz.func112 (closedL_cons (closed_ws l) (closedL_cons (.val _) (closedL_cons (.val _) (closedL_cons (.val _) (closedL_cons (.val _) closedL_nil))))) (fun w0 st0 => ?_)
    dsimp only [frOf]
    (repeat' (first | refine goA ?_ | refine cX c1 ?_ | refine cX c2 ?_ | refine cX c3 ?_ | refine ARun.min2 rfl rfl rfl (guardF_spec rfl) ?_ | refine goB ?_ | ((fail_if_success refine ARun.plain rfl ?_); refine ARun.fork rfl rfl rfl (fun h => ?_) (fun h => ?_)) | refine awp_cond rfl (fun h => ?_) (fun h => ?_)))
    exact awp_ret ⟨_, (ResL.cons (ResA.tmp (.closed _ (closed_ws _))) (ResL.cons (ResA.tmp (.val _)) .nil)), rfl⟩
   ·have d3 : decide (min limit 1024 ≤ (((l.map encW).length : Nat) : Int)) = false := decide_eq_false (by omega)
    rw [show addD l name xt fl limit = (l ++ [⟨name, xt, fl⟩], 0) by unfold addD; rw [if_neg (by simp [h1]), if_neg (by simp [h2]), if_neg h3]]
    refine goF Tryz.func112 (closedL_cons (closed_ws l) (closedL_cons (.val _) (closedL_cons (.val _) (closedL_cons (.val _) (closedL_cons (.val _) closedL_nil))))) (fun w0 st0 => ?_)
    dsimp only [frOf]
    (repeat' (first | refine goA ?_ | refine cX c1 ?_ | refine cX c2 ?_ | refine cX c3 ?_ | refine ARun.min2 rfl rfl rfl (guardF_spec rfl) ?_ | refine ARun.buildSliceO rfl rfl rfl rfl rfl rfl rfl (buildSF_spec rfl) rfl (guardF_spec rfl) ?_ | refine appF rfl ?_ | refine goB ?_ | ((fail_if_success refine ARun.plain rfl ?_); refine ARun.fork rfl rfl rfl (fun h => ?_) (fun h => ?_)) | refine awp_cond rfl (fun h => ?_) (fun h => ?_)))
    refine awp_ret ⟨_, ResL.cons (ResA.tmp (.owned rfl rfl (by simp) (wapp_closed l ⟨name, xt, fl⟩))) (ResL.cons (ResA.tmp (.val _)) .nil), ?_⟩
    unfold encWE encWs
    rw [List.map_append]
    rfl
  ·rw [decide_eq_false h2] at c2
   rw [show addD l name xt fl limit = (l, -24) by unfold addD; rw [if_neg (by simp [h1]), if_pos h2]]
   refine goF Tryz.func112 (closedL_cons (closed_ws l) (closedL_cons (.val _) (closedL_cons (.val _) (closedL_cons (.val _) (closedL_cons (.val _) closedL_nil))))) (fun w0 st0 => ?_)
   dsimp only [frOf]
   (repeat' (first | refine goA ?_ | refine cX c1 ?_ | refine cX c2 ?_ | refine cX c3 ?_ | refine goB ?_ | ((fail_if_success refine ARun.plain rfl ?_); refine ARun.fork rfl rfl rfl (fun h => ?_) (fun h => ?_)) | refine awp_cond rfl (fun h => ?_) (fun h => ?_)))
   exact awp_ret ⟨_, (ResL.cons (ResA.tmp (.closed _ (closed_ws _))) (ResL.cons (ResA.tmp (.val _)) .nil)), rfl⟩
 ·have d1 : (namedD name != 0) = true := by simp [h1]
  rw [show addD l name xt fl limit = (l, namedD name) by unfold addD; rw [if_pos (by simp [h1])]]
  refine goF Tryz.func112 (closedL_cons (closed_ws l) (closedL_cons (.val _) (closedL_cons (.val _) (closedL_cons (.val _) (closedL_cons (.val _) closedL_nil))))) (fun w0 st0 => ?_)
  dsimp only [frOf]
  (repeat' (first | refine goA ?_ | refine cX c1 ?_ | refine cX c2 ?_ | refine cX c3 ?_ | refine goB ?_ | ((fail_if_success refine ARun.plain rfl ?_); refine ARun.fork rfl rfl rfl (fun h => ?_) (fun h => ?_)) | refine awp_cond rfl (fun h => ?_) (fun h => ?_)))
  exact awp_ret ⟨_, (ResL.cons (ResA.tmp (.closed _ (closed_ws _))) (ResL.cons (ResA.tmp (.val _)) .nil)), rfl⟩
set_option maxHeartbeats 4000000 in
theorem ref_add_c (l : List Wd) (name : Bs) (xt fl limit : Int) (hl : l.length ≤ 1000000) (hn : name.length ≤ 1000000) : FnC Tryz.prog 115 [encWs l, St name, .val (.int .i64 xt), .val (.int .i64 fl), .val (.int .i64 limit)] (encWE (addD l name xt fl limit)) := by
 have c1 := ref_named_c name hn
 by_cases h1 : namedD name = 0
 ·have d1 : (namedD name != 0) = false := by simp [h1]
  by_cases h2 : 0 ≤ fl ∧ fl ≤ 7
  ·have d2 : decide (fl < 0) = false := decide_eq_false (by omega)
   have d2' : decide (7 < fl) = false := decide_eq_false (by omega)
   have e0 : (((l.map encW).length : Nat) : Int) = l.length := by rw [List.length_map]
   by_cases h3 : limit ≤ l.length
   ·have d3 : decide (limit ≤ (((l.map encW).length : Nat) : Int)) = true := decide_eq_true (by omega)
    rw [show addD l name xt fl limit = (l, -8) by unfold addD; rw [if_neg (by simp [h1]), if_neg (by simp [h2]), if_pos (.inl h3)]]
    refine goF Tryz.func115 (closedL_cons (closed_ws l) (closedL_cons (.val _) (closedL_cons (.val _) (closedL_cons (.val _) (closedL_cons (.val _) closedL_nil))))) (fun w0 st0 => ?_)
    dsimp only [frOf]
    (repeat' (first | refine goA ?_ | refine cX c1 ?_ | refine goB ?_ | ((fail_if_success refine ARun.plain rfl ?_); refine ARun.fork rfl rfl rfl (fun h => ?_) (fun h => ?_)) | refine awp_cond rfl (fun h => ?_) (fun h => ?_)))
    exact awp_ret ⟨_, (ResL.cons (ResA.tmp (.closed _ (closed_ws _))) (ResL.cons (ResA.tmp (.val _)) .nil)), rfl⟩
   ·have d3 : decide (limit ≤ (((l.map encW).length : Nat) : Int)) = false := decide_eq_false (by omega)
    by_cases h4 : 1024 ≤ l.length
    ·have d4 : decide ((1024 : Int) ≤ (((l.map encW).length : Nat) : Int)) = true := decide_eq_true (by omega)
     rw [show addD l name xt fl limit = (l, -8) by unfold addD; rw [if_neg (by simp [h1]), if_neg (by simp [h2]), if_pos (.inr h4)]]
     refine goF Tryz.func115 (closedL_cons (closed_ws l) (closedL_cons (.val _) (closedL_cons (.val _) (closedL_cons (.val _) (closedL_cons (.val _) closedL_nil))))) (fun w0 st0 => ?_)
     dsimp only [frOf]
     (repeat' (first | refine goA ?_ | refine cX c1 ?_ | refine goB ?_ | ((fail_if_success refine ARun.plain rfl ?_); refine ARun.fork rfl rfl rfl (fun h => ?_) (fun h => ?_)) | refine awp_cond rfl (fun h => ?_) (fun h => ?_)))
     exact awp_ret ⟨_, (ResL.cons (ResA.tmp (.closed _ (closed_ws _))) (ResL.cons (ResA.tmp (.val _)) .nil)), rfl⟩
    ·have d4 : decide ((1024 : Int) ≤ (((l.map encW).length : Nat) : Int)) = false := decide_eq_false (by omega)
     rw [show addD l name xt fl limit = (l ++ [⟨name, xt, fl⟩], 0) by unfold addD; rw [if_neg (by simp [h1]), if_neg (by simp [h2]), if_neg (by omega)]]
     refine goF Tryz.func115 (closedL_cons (closed_ws l) (closedL_cons (.val _) (closedL_cons (.val _) (closedL_cons (.val _) (closedL_cons (.val _) closedL_nil))))) (fun w0 st0 => ?_)
     dsimp only [frOf]
     (repeat' (first | refine goA ?_ | refine cX c1 ?_ | refine ARun.buildSliceO rfl rfl rfl rfl rfl rfl rfl (buildSF_spec rfl) rfl (guardF_spec rfl) ?_ | refine appF rfl ?_ | refine appO rfl ?_ | refine goB ?_ | ((fail_if_success refine ARun.plain rfl ?_); refine ARun.fork rfl rfl rfl (fun h => ?_) (fun h => ?_)) | refine awp_cond rfl (fun h => ?_) (fun h => ?_)))
     refine awp_ret ⟨_, ResL.cons (ResA.tmp (.owned rfl rfl (by simp) (wapp_closed l ⟨name, xt, fl⟩))) (ResL.cons (ResA.tmp (.val _)) .nil), ?_⟩
     unfold encWE encWs
     rw [List.map_append]
     rfl
  ·rw [show addD l name xt fl limit = (l, -24) by unfold addD; rw [if_neg (by simp [h1]), if_pos h2]]
   by_cases h3 : fl < 0
   ·have d2 : decide (fl < 0) = true := decide_eq_true h3
    refine goF Tryz.func115 (closedL_cons (closed_ws l) (closedL_cons (.val _) (closedL_cons (.val _) (closedL_cons (.val _) (closedL_cons (.val _) closedL_nil))))) (fun w0 st0 => ?_)
    dsimp only [frOf]
    (repeat' (first | refine goA ?_ | refine cX c1 ?_ | refine goB ?_ | ((fail_if_success refine ARun.plain rfl ?_); refine ARun.fork rfl rfl rfl (fun h => ?_) (fun h => ?_)) | refine awp_cond rfl (fun h => ?_) (fun h => ?_)))
    exact awp_ret ⟨_, (ResL.cons (ResA.tmp (.closed _ (closed_ws _))) (ResL.cons (ResA.tmp (.val _)) .nil)), rfl⟩
   ·have d2 : decide (fl < 0) = false := decide_eq_false h3
    have d2' : decide (7 < fl) = true := decide_eq_true (by omega)
    refine goF Tryz.func115 (closedL_cons (closed_ws l) (closedL_cons (.val _) (closedL_cons (.val _) (closedL_cons (.val _) (closedL_cons (.val _) closedL_nil))))) (fun w0 st0 => ?_)
    dsimp only [frOf]
    (repeat' (first | refine goA ?_ | refine cX c1 ?_ | refine goB ?_ | ((fail_if_success refine ARun.plain rfl ?_); refine ARun.fork rfl rfl rfl (fun h => ?_) (fun h => ?_)) | refine awp_cond rfl (fun h => ?_) (fun h => ?_)))
    exact awp_ret ⟨_, (ResL.cons (ResA.tmp (.closed _ (closed_ws _))) (ResL.cons (ResA.tmp (.val _)) .nil)), rfl⟩
 ·have d1 : (namedD name != 0) = true := by simp [h1]
  rw [show addD l name xt fl limit = (l, namedD name) by unfold addD; rw [if_pos (by simp [h1])]]
  refine goF Tryz.func115 (closedL_cons (closed_ws l) (closedL_cons (.val _) (closedL_cons (.val _) (closedL_cons (.val _) (closedL_cons (.val _) closedL_nil))))) (fun w0 st0 => ?_)
  dsimp only [frOf]
  (repeat' (first | refine goA ?_ | refine cX c1 ?_ | refine goB ?_ | ((fail_if_success refine ARun.plain rfl ?_); refine ARun.fork rfl rfl rfl (fun h => ?_) (fun h => ?_)) | refine awp_cond rfl (fun h => ?_) (fun h => ?_)))
  exact awp_ret ⟨_, (ResL.cons (ResA.tmp (.closed _ (closed_ws _))) (ResL.cons (ResA.tmp (.val _)) .nil)), rfl⟩
theorem set_fl {l : List Wd} {i : Nat} {w : Wd} (h : l[i]? = some w) (fl : Int) : (l.map encW).set i (encW ⟨w.name, w.xt, fl⟩) = (setFl l i fl).map encW := by
 unfold setFl
 rw [h]
 simp only [List.map_set]
set_option maxHeartbeats 4000000 in
theorem flag_c (l : List Wd) (at' fl : Int) (hl : l.length ≤ 1000000) (hf : -9223372036854775808 ≤ fl ∧ fl ≤ 9223372036854775807) : FnC Tryz.prog 64 [encWs l, .val (.int .i64 at'), .val (.int .i64 fl)] (encWE (flagD l at' fl)) := by
 have c1 := flagged_c fl hf
 have c2 := wclone_o l hl
 have e0 : (((l.map encW).length : Nat) : Int) = l.length := by rw [List.length_map]
 by_cases h1 : at' < 0
 ·rw [show flagD l at' fl = (l, -24) from if_pos (.inl h1)]
  have d1 : decide (at' < 0) = true := decide_eq_true h1
  refine goF Tryz.func64 (closedL_cons (closed_ws l) (closedL_cons (.val _) (closedL_cons (.val _) closedL_nil))) (fun w0 st0 => ?_)
  dsimp only [frOf]
  (repeat' (first | refine goA ?_ | refine goB ?_ | ((fail_if_success refine ARun.plain rfl ?_); refine ARun.fork rfl rfl rfl (fun h => ?_) (fun h => ?_)) | refine awp_cond rfl (fun h => ?_) (fun h => ?_)))
  exact awp_ret ⟨_, (ResL.cons (ResA.tmp (.closed _ (closed_ws _))) (ResL.cons (ResA.tmp (.val _)) .nil)), rfl⟩
 have d1 : decide (at' < 0) = false := decide_eq_false h1
 by_cases h2 : (l.length : Int) ≤ at'
 ·rw [show flagD l at' fl = (l, -24) from if_pos (.inr (.inl h2))]
  have d2 : decide ((((l.map encW).length : Nat) : Int) ≤ at') = true := decide_eq_true (by omega)
  refine goF Tryz.func64 (closedL_cons (closed_ws l) (closedL_cons (.val _) (closedL_cons (.val _) closedL_nil))) (fun w0 st0 => ?_)
  dsimp only [frOf]
  (repeat' (first | refine goA ?_ | refine goB ?_ | ((fail_if_success refine ARun.plain rfl ?_); refine ARun.fork rfl rfl rfl (fun h => ?_) (fun h => ?_)) | refine awp_cond rfl (fun h => ?_) (fun h => ?_)))
  exact awp_ret ⟨_, (ResL.cons (ResA.tmp (.closed _ (closed_ws _))) (ResL.cons (ResA.tmp (.val _)) .nil)), rfl⟩
 have d2 : decide ((((l.map encW).length : Nat) : Int) ≤ at') = false := decide_eq_false (by omega)
 by_cases h3 : 0 ≤ fl ∧ fl ≤ 7
 ·rw [show flagD l at' fl = (setFl l at'.toNat fl, 0) from if_neg (by omega)]
  rw [decide_eq_true h3] at c1
  obtain ⟨i, rfl⟩ : ∃ i : Nat, at' = (i : Int) := ⟨at'.toNat, by omega⟩
  have hp : l[i]? = some l[i] := List.getElem?_eq_getElem (by omega)
  generalize l[i] = w at hp
  have he : (l.map encW)[0 + ((i : Nat) : Int).toNat]? = some (encW w) := by rw [Nat.zero_add, Int.toNat_natCast]; exact get_map hp
  have hs : (l.map encW).set (0 + ((i : Nat) : Int).toNat) [St w.name, .val (.int .i64 w.xt), .val (.int .i64 fl)] = (setFl l i fl).map encW := by rw [Nat.zero_add, Int.toNat_natCast]; exact set_fl hp fl
  refine goF Tryz.func64 (closedL_cons (closed_ws l) (closedL_cons (.val _) (closedL_cons (.val _) closedL_nil))) (fun w0 st0 => ?_)
  dsimp only [frOf]
  (repeat' (first | refine goA ?_ | refine cX c1 ?_ | refine callOX [] (c2) (BsOk.nil _) rfl fzT rfl rfl ?_ | refine ARun.indexAddr_own rfl rfl rfl rfl lensT lensT rfl rfl rfl rfl rfl (guardF_spec rfl) ?_ | refine ARun.storeAt rfl rfl rfl he rfl rfl rfl rfl rfl hs (guardF_spec rfl) ?_ | refine goB ?_ | ((fail_if_success refine ARun.plain rfl ?_); refine ARun.fork rfl rfl rfl (fun h => ?_) (fun h => ?_)) | refine awp_cond rfl (fun h => ?_) (fun h => ?_)))
  rw [Int.toNat_natCast]
  refine awp_ret ⟨_, ResL.cons (ResA.tmp (.owned rfl rfl (by simp [setFl_len]) (own_closed_map encW_closed))) (ResL.cons (ResA.tmp (.val _)) .nil), ?_⟩
  rfl
 ·rw [show flagD l at' fl = (l, -24) from if_pos (.inr (.inr h3))]
  rw [decide_eq_false h3] at c1
  refine goF Tryz.func64 (closedL_cons (closed_ws l) (closedL_cons (.val _) (closedL_cons (.val _) closedL_nil))) (fun w0 st0 => ?_)
  dsimp only [frOf]
  (repeat' (first | refine goA ?_ | refine cX c1 ?_ | refine goB ?_ | ((fail_if_success refine ARun.plain rfl ?_); refine ARun.fork rfl rfl rfl (fun h => ?_) (fun h => ?_)) | refine awp_cond rfl (fun h => ?_) (fun h => ?_)))
  exact awp_ret ⟨_, (ResL.cons (ResA.tmp (.closed _ (closed_ws _))) (ResL.cons (ResA.tmp (.val _)) .nil)), rfl⟩
set_option maxHeartbeats 4000000 in
theorem ref_flag_c (l : List Wd) (at' fl : Int) (hl : l.length ≤ 1000000) : FnC Tryz.prog 66 [encWs l, .val (.int .i64 at'), .val (.int .i64 fl)] (encWE (flagD l at' fl)) := by
 have e0 : (((l.map encW).length : Nat) : Int) = l.length := by rw [List.length_map]
 by_cases h1 : at' < 0
 ·rw [show flagD l at' fl = (l, -24) from if_pos (.inl h1)]
  have d1 : decide (at' < 0) = true := decide_eq_true h1
  refine goF Tryz.func66 (closedL_cons (closed_ws l) (closedL_cons (.val _) (closedL_cons (.val _) closedL_nil))) (fun w0 st0 => ?_)
  dsimp only [frOf]
  (repeat' (first | refine goA ?_ | refine goB ?_ | ((fail_if_success refine ARun.plain rfl ?_); refine ARun.fork rfl rfl rfl (fun h => ?_) (fun h => ?_)) | refine awp_cond rfl (fun h => ?_) (fun h => ?_)))
  exact awp_ret ⟨_, (ResL.cons (ResA.tmp (.closed _ (closed_ws _))) (ResL.cons (ResA.tmp (.val _)) .nil)), rfl⟩
 have d1 : decide (at' < 0) = false := decide_eq_false h1
 by_cases h2 : (l.length : Int) ≤ at'
 ·rw [show flagD l at' fl = (l, -24) from if_pos (.inr (.inl h2))]
  have d2 : decide ((((l.map encW).length : Nat) : Int) ≤ at') = true := decide_eq_true (by omega)
  refine goF Tryz.func66 (closedL_cons (closed_ws l) (closedL_cons (.val _) (closedL_cons (.val _) closedL_nil))) (fun w0 st0 => ?_)
  dsimp only [frOf]
  (repeat' (first | refine goA ?_ | refine goB ?_ | ((fail_if_success refine ARun.plain rfl ?_); refine ARun.fork rfl rfl rfl (fun h => ?_) (fun h => ?_)) | refine awp_cond rfl (fun h => ?_) (fun h => ?_)))
  exact awp_ret ⟨_, (ResL.cons (ResA.tmp (.closed _ (closed_ws _))) (ResL.cons (ResA.tmp (.val _)) .nil)), rfl⟩
 have d2 : decide ((((l.map encW).length : Nat) : Int) ≤ at') = false := decide_eq_false (by omega)
 by_cases h3 : 0 ≤ fl ∧ fl ≤ 7
 ·rw [show flagD l at' fl = (setFl l at'.toNat fl, 0) from if_neg (by omega)]
  have d3 : decide (fl < 0) = false := decide_eq_false (by omega)
  have d4 : decide (7 < fl) = false := decide_eq_false (by omega)
  obtain ⟨i, rfl⟩ : ∃ i : Nat, at' = (i : Int) := ⟨at'.toNat, by omega⟩
  have hp : l[i]? = some l[i] := List.getElem?_eq_getElem (by omega)
  generalize l[i] = w at hp
  have he : (l.map encW)[0 + ((i : Nat) : Int).toNat]? = some (encW w) := by rw [Nat.zero_add, Int.toNat_natCast]; exact get_map hp
  have hs : (l.map encW).set (0 + ((i : Nat) : Int).toNat) [St w.name, .val (.int .i64 w.xt), .val (.int .i64 fl)] = (setFl l i fl).map encW := by rw [Nat.zero_add, Int.toNat_natCast]; exact set_fl hp fl
  refine goF Tryz.func66 (closedL_cons (closed_ws l) (closedL_cons (.val _) (closedL_cons (.val _) closedL_nil))) (fun w0 st0 => ?_)
  dsimp only [frOf]
  (repeat' (first | refine goA ?_ | refine ARun.buildSliceO rfl rfl rfl rfl rfl rfl rfl (buildSF_spec rfl) rfl (guardF_spec rfl) ?_ | refine appF rfl ?_ | refine ARun.indexAddr_own rfl rfl rfl rfl lensT lensT rfl rfl rfl rfl rfl (guardF_spec rfl) ?_ | refine ARun.storeAt rfl rfl rfl he rfl rfl rfl rfl rfl hs (guardF_spec rfl) ?_ | refine goB ?_ | ((fail_if_success refine ARun.plain rfl ?_); refine ARun.fork rfl rfl rfl (fun h => ?_) (fun h => ?_)) | refine awp_cond rfl (fun h => ?_) (fun h => ?_)))
  rw [Int.toNat_natCast]
  refine awp_ret ⟨_, ResL.cons (ResA.tmp (.owned rfl rfl (by simp [setFl_len]) (own_closed_map encW_closed))) (ResL.cons (ResA.tmp (.val _)) .nil), ?_⟩
  rfl
 ·rw [show flagD l at' fl = (l, -24) from if_pos (.inr (.inr h3))]
  by_cases h4 : fl < 0
  ·have d3 : decide (fl < 0) = true := decide_eq_true h4
   refine goF Tryz.func66 (closedL_cons (closed_ws l) (closedL_cons (.val _) (closedL_cons (.val _) closedL_nil))) (fun w0 st0 => ?_)
   dsimp only [frOf]
   (repeat' (first | refine goA ?_ | refine goB ?_ | ((fail_if_success refine ARun.plain rfl ?_); refine ARun.fork rfl rfl rfl (fun h => ?_) (fun h => ?_)) | refine awp_cond rfl (fun h => ?_) (fun h => ?_)))
   exact awp_ret ⟨_, (ResL.cons (ResA.tmp (.closed _ (closed_ws _))) (ResL.cons (ResA.tmp (.val _)) .nil)), rfl⟩
  ·have d3 : decide (fl < 0) = false := decide_eq_false h4
   have d4 : decide (7 < fl) = true := decide_eq_true (by omega)
   refine goF Tryz.func66 (closedL_cons (closed_ws l) (closedL_cons (.val _) (closedL_cons (.val _) closedL_nil))) (fun w0 st0 => ?_)
   dsimp only [frOf]
   (repeat' (first | refine goA ?_ | refine goB ?_ | ((fail_if_success refine ARun.plain rfl ?_); refine ARun.fork rfl rfl rfl (fun h => ?_) (fun h => ?_)) | refine awp_cond rfl (fun h => ?_) (fun h => ?_)))
   exact awp_ret ⟨_, (ResL.cons (ResA.tmp (.closed _ (closed_ws _))) (ResL.cons (ResA.tmp (.val _)) .nil)), rfl⟩
theorem cut_c (l : List Wd) (many : Int) (hl : l.length ≤ 1000000) : FnC Tryz.prog 67 [encWs l, .val (.int .i64 many)] (encWE (cutD l many)) := by
 have e0 : (((l.map encW).length : Nat) : Int) = l.length := by rw [List.length_map]
 by_cases h1 : many < 0
 ·rw [show cutD l many = (l, -24) from if_pos (.inl h1)]
  have d1 : decide (many < 0) = true := decide_eq_true h1
  refine goF Tryz.func67 (closedL_cons (closed_ws l) (closedL_cons (.val _) closedL_nil)) (fun w0 st0 => ?_)
  dsimp only [frOf]
  (repeat' (first | refine goA ?_ | refine goB ?_ | ((fail_if_success refine ARun.plain rfl ?_); refine ARun.fork rfl rfl rfl (fun h => ?_) (fun h => ?_)) | refine awp_cond rfl (fun h => ?_) (fun h => ?_)))
  exact awp_ret ⟨_, (ResL.cons (ResA.tmp (.closed _ (closed_ws _))) (ResL.cons (ResA.tmp (.val _)) .nil)), rfl⟩
 have d1 : decide (many < 0) = false := decide_eq_false h1
 by_cases h2 : (l.length : Int) < many
 ·rw [show cutD l many = (l, -24) from if_pos (.inr h2)]
  have d2 : decide ((((l.map encW).length : Nat) : Int) < many) = true := decide_eq_true (by omega)
  refine goF Tryz.func67 (closedL_cons (closed_ws l) (closedL_cons (.val _) closedL_nil)) (fun w0 st0 => ?_)
  dsimp only [frOf]
  (repeat' (first | refine goA ?_ | refine goB ?_ | ((fail_if_success refine ARun.plain rfl ?_); refine ARun.fork rfl rfl rfl (fun h => ?_) (fun h => ?_)) | refine awp_cond rfl (fun h => ?_) (fun h => ?_)))
  exact awp_ret ⟨_, (ResL.cons (ResA.tmp (.closed _ (closed_ws _))) (ResL.cons (ResA.tmp (.val _)) .nil)), rfl⟩
 have d2 : decide ((((l.map encW).length : Nat) : Int) < many) = false := decide_eq_false (by omega)
 rw [show cutD l many = (l.take many.toNat, 0) from if_neg (by omega)]
 have c1 := wclip_c (l.take many.toNat) (by rw [List.length_take]; omega)
 have h3 : (0 : Int) ≤ many := by omega
 have hsp : l.map encW = (l.take many.toNat).map encW ++ (l.drop many.toNat).map encW := by rw [← List.map_append, List.take_append_drop]
 have hmy : many = (((l.take many.toNat).map encW).length : Nat) := by rw [List.length_map, List.length_take]; omega
 refine goF Tryz.func67 (closedL_cons (closed_ws l) (closedL_cons (.val _) closedL_nil)) (fun w0 st0 => ?_)
 dsimp only [frOf]
 (repeat' (first | refine goA ?_ | refine cX c1 ?_ | refine ARun.sliceTo rfl hsp rfl hmy rfl rfl rfl rfl rfl (guardF_spec rfl) ?_ | refine goB ?_ | ((fail_if_success refine ARun.plain rfl ?_); refine ARun.fork rfl rfl rfl (fun h => ?_) (fun h => ?_)) | refine awp_cond rfl (fun h => ?_) (fun h => ?_)))
 refine awp_ret ⟨_, ResL.cons (ResA.tmp (.weak (closed_map encW_closed))) (ResL.cons (ResA.tmp (.val _)) .nil), rfl⟩
set_option maxHeartbeats 4000000 in
theorem ref_cut_c (l : List Wd) (many : Int) (hl : l.length ≤ 1000000) : FnC Tryz.prog 68 [encWs l, .val (.int .i64 many)] (encWE (cutD l many)) := by
 have e0 : (((l.map encW).length : Nat) : Int) = l.length := by rw [List.length_map]
 by_cases h1 : many < 0
 ·rw [show cutD l many = (l, -24) from if_pos (.inl h1)]
  have d1 : decide (many < 0) = true := decide_eq_true h1
  refine goF Tryz.func68 (closedL_cons (closed_ws l) (closedL_cons (.val _) closedL_nil)) (fun w0 st0 => ?_)
  dsimp only [frOf]
  (repeat' (first | refine goA ?_ | refine goB ?_ | ((fail_if_success refine ARun.plain rfl ?_); refine ARun.fork rfl rfl rfl (fun h => ?_) (fun h => ?_)) | refine awp_cond rfl (fun h => ?_) (fun h => ?_)))
  exact awp_ret ⟨_, (ResL.cons (ResA.tmp (.closed _ (closed_ws _))) (ResL.cons (ResA.tmp (.val _)) .nil)), rfl⟩
 have d1 : decide (many < 0) = false := decide_eq_false h1
 by_cases h2 : (l.length : Int) < many
 ·rw [show cutD l many = (l, -24) from if_pos (.inr h2)]
  have d2 : decide ((((l.map encW).length : Nat) : Int) < many) = true := decide_eq_true (by omega)
  refine goF Tryz.func68 (closedL_cons (closed_ws l) (closedL_cons (.val _) closedL_nil)) (fun w0 st0 => ?_)
  dsimp only [frOf]
  (repeat' (first | refine goA ?_ | refine goB ?_ | ((fail_if_success refine ARun.plain rfl ?_); refine ARun.fork rfl rfl rfl (fun h => ?_) (fun h => ?_)) | refine awp_cond rfl (fun h => ?_) (fun h => ?_)))
  exact awp_ret ⟨_, (ResL.cons (ResA.tmp (.closed _ (closed_ws _))) (ResL.cons (ResA.tmp (.val _)) .nil)), rfl⟩
 have d2 : decide ((((l.map encW).length : Nat) : Int) < many) = false := decide_eq_false (by omega)
 rw [show cutD l many = (l.take many.toNat, 0) from if_neg (by omega)]
 have h3 : (0 : Int) ≤ many := by omega
 have hsp : l.map encW = (l.take many.toNat).map encW ++ (l.drop many.toNat).map encW := by rw [← List.map_append, List.take_append_drop]
 have hmy : many = (((l.take many.toNat).map encW).length : Nat) := by rw [List.length_map, List.length_take]; omega
 refine goF Tryz.func68 (closedL_cons (closed_ws l) (closedL_cons (.val _) closedL_nil)) (fun w0 st0 => ?_)
 dsimp only [frOf]
 (repeat' (first | refine goA ?_ | refine ARun.buildSliceO rfl rfl rfl rfl rfl rfl rfl (buildSF_spec rfl) rfl (guardF_spec rfl) ?_ | refine ARun.sliceTo rfl hsp rfl hmy rfl rfl rfl rfl rfl (guardF_spec rfl) ?_ | refine appF rfl ?_ | refine goB ?_ | ((fail_if_success refine ARun.plain rfl ?_); refine ARun.fork rfl rfl rfl (fun h => ?_) (fun h => ?_)) | refine awp_cond rfl (fun h => ?_) (fun h => ?_)))
 refine awp_ret ⟨_, ResL.cons (ResA.tmp (.owned rfl rfl (by simp) (own_closed_map encW_closed))) (ResL.cons (ResA.tmp (.val _)) .nil), rfl⟩
end Go.Proofs.YthlbcakjngcjbaaGreat.Dict
namespace Go.Proofs.YthlbcakjngcjbaaGreat.Stk
open Go Go.RowKit
set_option maxRecDepth 100000
attribute [local irreducible] Decidable.decide awp ARun regK toK
def encS (s : List Int) : AV := .sl 1 false (s.map encI)
theorem encI_closed (n : Int) : ∀ x, x ∈ encI n → Closed x := fun x hx => by rw [List.mem_singleton.1 hx]; exact .val _
theorem closed_s (s : List Int) : Closed (encS s) := closed_map encI_closed
def pushD (s : List Int) (n limit : Int) : List Int × Int := if limit ≤ (s.length : Int) then (s, -3) else (s ++ [n], 0)
theorem pushD_over {s : List Int} {n limit : Int} (h : limit ≤ (s.length : Int)) : pushD s n limit = (s, -3) := if_pos h
theorem pushD_ok {s : List Int} {n limit : Int} (h : ¬ limit ≤ (s.length : Int)) : pushD s n limit = (s ++ [n], 0) := if_neg h
theorem ref_push_c (s : List Int) (n limit : Int) (hl : s.length ≤ 1000000) : FnC Tryz.prog 181 [encS s, .val (.int .i64 n), .val (.int .i64 limit)] (.tup [encS (pushD s n limit).1, .val (.int .i64 (pushD s n limit).2)]) := by
 refine goF Tryz.func181 (closedL_cons (closed_s s) (closedL_cons (.val _) (closedL_cons (.val _) closedL_nil))) (fun w0 st0 => ?_)
 dsimp only [frOf]
 (repeat' (first | refine goA ?_ | refine appF rfl ?_ | refine appO rfl ?_ | refine goB ?_ | ((fail_if_success refine ARun.plain rfl ?_); refine ARun.fork rfl rfl rfl (fun h => ?_) (fun h => ?_)) | refine awp_cond rfl (fun h => ?_) (fun h => ?_)))
 ·(simp only [decide_eq_true_eq, decide_eq_false_iff_not, List.length_map] at *)
  rw [pushD_over h]
  refine awp_ret ⟨_, ResL.cons (ResA.tmp (.closed _ (closed_map encI_closed))) (ResL.cons (ResA.tmp (.val _)) .nil), rfl⟩
 ·(simp only [decide_eq_true_eq, decide_eq_false_iff_not, List.length_map] at *)
  rw [pushD_ok h]
  refine awp_ret ⟨_, ResL.cons (ResA.tmp (.owned rfl rfl rfl (own_closed_app encI_closed (encI_closed n)))) (ResL.cons (ResA.tmp (.val _)) .nil), ?_⟩
  simp [retAV, encS, lkA, encI]
def popD (s : List Int) : Int × List Int × Int := match s.getLast? with | none => (0, s, -4) | some x => (x, s.dropLast, 0)
theorem popD_nil : popD [] = (0, [], -4) := rfl
theorem popD_snoc (p : List Int) (x : Int) : popD (p ++ [x]) = (x, p, 0) := by unfold popD; simp
theorem snoc_of {s : List Int} (h : s ≠ []) : ∃ p x, s = p ++ [x] := ⟨s.dropLast, s.getLast h, (List.dropLast_concat_getLast h).symm⟩
theorem snoc_ix (p : List Int) (x : Int) : ((p ++ [x]).map encI)[(((((p ++ [x]).map encI).length : Nat) : Int) - 1).toNat]? = some (encI x) := by
 rw [List.length_map, List.length_append, List.length_singleton, List.map_append, show (((p.length + 1 : Nat) : Int) - 1).toNat = (p.map encI).length by rw [List.length_map]; omega]
 simp
def sameD (a b : List Int) : Bool := decide (a = b)
theorem ref_same_c (a b : List Int) (ha : a.length ≤ 1000000) (hb : b.length ≤ 1000000) : FnC Tryz.prog 35 [encS a, encS b] (.val (.bool (sameD a b))) := by
 refine goF Tryz.func35 (closedL_cons (closed_s a) (closedL_cons (closed_s b) closedL_nil)) (fun w0 st0 => ?_)
 dsimp only [frOf]
 by_cases hne : a.length = b.length
 ·have hc0 : ((((a.map encI).length : Nat) : Int) != (((b.map encI).length : Nat) : Int)) = false := by simp [hne]
  (repeat' (first | refine goA ?_ | refine goB ?_ | ((fail_if_success refine ARun.plain rfl ?_); refine ARun.fork rfl rfl rfl (fun h => ?_) (fun h => ?_)) | refine awp_cond rfl (fun h => ?_) (fun h => ?_)))
  refine awp_loopT (T := Nat × Nat) (fun t => ⟨[(0, encS a), (1, encS b), (4, .val (.bool false)), (5, .val (.int .i64 (t.1 : Nat)))], [], t.2⟩)
   (fun t => t.1 ≤ a.length ∧ a.take t.1 = b.take t.1) (fun t => a.length - t.1) (0, _) ⟨Nat.zero_le _, rfl⟩ ⟨⟨rfl, rfl, rfl, rfl, trivial⟩, trivial, Nat.le_refl _⟩ (fun t ht => ?_)
  obtain ⟨k, gc⟩ := t
  obtain ⟨hk, hA⟩ := ht
  dsimp only at hk hA ⊢
  by_cases hlt : k < a.length
  ·have h1 : a[k]? = some a[k] := List.getElem?_eq_getElem hlt
   have h2 : b[k]? = some b[k] := List.getElem?_eq_getElem (by omega)
   have hc : decide (((k : Nat) : Int) < (((a.map encI).length : Nat) : Int)) = true := by rw [List.length_map]; simp; omega
   have e1 := take_succ' h1
   have e2 := take_succ' h2
   by_cases heq : a[k] = b[k]
   ·have hd : (a[k] != b[k]) = false := by simp [heq]
    (repeat' (first | refine goA ?_ | refine ARun.indexAddr rfl rfl (by omega) (by first | with_reducible exact get_map h1 | with_reducible exact get_map h2) rfl rfl rfl rfl rfl (guardF_spec rfl) ?_ | refine goB ?_ | ((fail_if_success refine ARun.plain rfl ?_); refine ARun.fork rfl rfl rfl (fun h => ?_) (fun h => ?_)) | refine awp_cond rfl (fun h => ?_) (fun h => ?_)))
    refine ⟨(k + 1, _), ⟨⟨rfl, rfl, rfl, succI k, trivial⟩, trivial, Nat.le_refl _⟩, ⟨hlt, ?_⟩, (by dsimp only; omega)⟩
    dsimp only
    rw [e1, e2, hA, heq]
   ·have hd : (a[k] != b[k]) = true := by simp [heq]
    (repeat' (first | refine goA ?_ | refine ARun.indexAddr rfl rfl (by omega) (by first | with_reducible exact get_map h1 | with_reducible exact get_map h2) rfl rfl rfl rfl rfl (guardF_spec rfl) ?_ | refine goB ?_ | ((fail_if_success refine ARun.plain rfl ?_); refine ARun.fork rfl rfl rfl (fun h => ?_) (fun h => ?_)) | refine awp_cond rfl (fun h => ?_) (fun h => ?_)))
    have : sameD a b = false := by
     unfold sameD
     rw [decide_eq_false_iff_not]
     intro e
     subst e
     exact heq rfl
    rw [this]
    refine awp_ret ⟨_, ResL.cons (ResA.tmp (.val _)) .nil, rfl⟩
  ·have hk : k = a.length := by omega
   subst hk
   have hc : decide (((a.length : Nat) : Int) < (((a.map encI).length : Nat) : Int)) = false := by rw [List.length_map]; simp
   (repeat' (first | refine goA ?_ | refine goB ?_ | ((fail_if_success refine ARun.plain rfl ?_); refine ARun.fork rfl rfl rfl (fun h => ?_) (fun h => ?_)) | refine awp_cond rfl (fun h => ?_) (fun h => ?_)))
   have : sameD a b = true := by
    unfold sameD
    rw [decide_eq_true_eq]
    rw [List.take_length, hne, List.take_length] at hA
    exact hA
   rw [this]
   refine awp_ret ⟨_, ResL.cons (ResA.tmp (.val _)) .nil, rfl⟩
 ·have hc0 : ((((a.map encI).length : Nat) : Int) != (((b.map encI).length : Nat) : Int)) = true := by simp; omega
  (repeat' (first | refine goA ?_ | refine goB ?_ | ((fail_if_success refine ARun.plain rfl ?_); refine ARun.fork rfl rfl rfl (fun h => ?_) (fun h => ?_)) | refine awp_cond rfl (fun h => ?_) (fun h => ?_)))
  have : sameD a b = false := by
   unfold sameD
   rw [decide_eq_false_iff_not]
   intro e
   subst e
   exact hne rfl
  rw [this]
  refine awp_ret ⟨_, ResL.cons (ResA.tmp (.val _)) .nil, rfl⟩
end Go.Proofs.YthlbcakjngcjbaaGreat.Stk
namespace Go.Proofs.YthlbcakjngcjbaaGreat
open Go Go.RowKit
open Dict (St Bs bs_eq)
set_option maxRecDepth 100000
def nmsV : List Bs := [
 [40, 101, 120, 105, 116, 41], [40, 108, 105, 116, 41], [40, 98, 114, 97, 110, 99, 104, 41], [40, 48, 98, 114, 97, 110, 99, 104, 41],
 [40, 100, 111, 41], [40, 63, 100, 111, 41], [40, 108, 111, 111, 112, 41], [40, 43, 108, 111, 111, 112, 41], [40, 104, 97, 108, 116, 41],
 [40, 99, 97, 117, 103, 104, 116, 41], [40, 100, 111, 101, 115, 41], [40, 115, 116, 114, 41], [69, 88, 69, 67, 85, 84, 69], [67, 65, 84, 67, 72],
 [84, 72, 82, 79, 87], [73], [74], [85, 78, 76, 79, 79, 80], [62, 82], [82, 62], [82, 64], [50, 62, 82], [50, 82, 62], [68, 85, 80],
 [68, 82, 79, 80], [83, 87, 65, 80], [79, 86, 69, 82], [82, 79, 84], [45, 82, 79, 84], [78, 73, 80], [84, 85, 67, 75], [63, 68, 85, 80],
 [50, 68, 85, 80], [50, 68, 82, 79, 80], [50, 83, 87, 65, 80], [50, 79, 86, 69, 82], [80, 73, 67, 75], [82, 79, 76, 76], [68, 69, 80, 84, 72], [43],
 [45], [42], [47], [77, 79, 68], [65, 78, 68], [79, 82], [88, 79, 82], [76, 83, 72, 73, 70, 84], [82, 83, 72, 73, 70, 84], [77, 73, 78],
 [77, 65, 88], [61], [60, 62], [60], [62], [60, 61], [62, 61], [85, 60], [85, 62], [78, 69, 71, 65, 84, 69], [65, 66, 83], [73, 78, 86, 69, 82, 84],
 [49, 43], [49, 45], [50, 42], [50, 47], [48, 61], [48, 60], [48, 60, 62], [48, 62], [67, 69, 76, 76, 83], [67, 69, 76, 76, 43],
 [65, 76, 73, 71, 78, 69, 68], [47, 77, 79, 68], [42, 47], [42, 47, 77, 79, 68], [85, 77, 42], [85, 77, 47, 77, 79, 68], [77, 42],
 [83, 77, 47, 82, 69, 77], [70, 77, 47, 77, 79, 68], [83, 62, 68], [87, 73, 84, 72, 73, 78], [64], [33], [43, 33], [67, 64], [67, 33], [50, 64],
 [50, 33], [70, 73, 76, 76], [77, 79, 86, 69], [67, 79, 85, 78, 84], [72, 69, 82, 69], [65, 76, 76, 79, 84], [44], [67, 44], [65, 76, 73, 71, 78],
 [66, 65, 83, 69], [83, 84, 65, 84, 69], [84, 82, 85, 69], [70, 65, 76, 83, 69], [66, 76], [68, 69, 67, 73, 77, 65, 76], [72, 69, 88],
 [69, 77, 73, 84], [67, 82], [83, 80, 65, 67, 69], [83, 80, 65, 67, 69, 83], [84, 89, 80, 69], [46], [85, 46], [60, 35], [35], [35, 83],
 [72, 79, 76, 68], [83, 73, 71, 78], [35, 62], [62, 66, 79, 68, 89], [65, 66, 79, 82, 84], [80, 79, 83, 84], [65, 70, 84, 69, 82],
 [69, 86, 69, 82, 89], [67, 65, 78, 67, 69, 76], [65, 82, 71], [83, 69, 76, 70], [78, 79, 87], [83, 69, 84, 45, 83, 84, 65, 84, 69],
 [65, 84, 45, 83, 84, 65, 84, 69], [71, 69, 84, 45, 83, 84, 65, 84, 69]]
def spcV : List Bs := [
 [58], [59], [67, 82, 69, 65, 84, 69], [68, 79, 69, 83, 62], [86, 65, 82, 73, 65, 66, 76, 69], [67, 79, 78, 83, 84, 65, 78, 84],
 [73, 77, 77, 69, 68, 73, 65, 84, 69], [39], [91, 39, 93], [67, 72, 65, 82], [91, 67, 72, 65, 82, 93], [76, 73, 84, 69, 82, 65, 76],
 [80, 79, 83, 84, 80, 79, 78, 69], [82, 69, 67, 85, 82, 83, 69], [73, 70], [69, 76, 83, 69], [84, 72, 69, 78], [66, 69, 71, 73, 78],
 [87, 72, 73, 76, 69], [82, 69, 80, 69, 65, 84], [85, 78, 84, 73, 76], [65, 71, 65, 73, 78], [68, 79], [63, 68, 79], [76, 79, 79, 80],
 [43, 76, 79, 79, 80], [76, 69, 65, 86, 69], [83, 34], [46, 34], [40], [92], [91], [93], [70, 79, 82, 71, 69, 84], [77, 65, 67, 72, 73, 78, 69],
 [79, 78, 58], [69, 88, 73, 84]]
def onlyV : List Bs := [
 [73], [74], [85, 78, 76, 79, 79, 80], [62, 82], [82, 62], [82, 64], [50, 62, 82], [50, 82, 62]]
def nowV : List Bs := [
 [46, 34], [40], [92], [91]]
def bothV : List Bs := [
 [59], [68, 79, 69, 83, 62], [91, 39, 93], [91, 67, 72, 65, 82, 93], [76, 73, 84, 69, 82, 65, 76], [80, 79, 83, 84, 80, 79, 78, 69],
 [82, 69, 67, 85, 82, 83, 69], [73, 70], [69, 76, 83, 69], [84, 72, 69, 78], [66, 69, 71, 73, 78], [87, 72, 73, 76, 69], [82, 69, 80, 69, 65, 84],
 [85, 78, 84, 73, 76], [65, 71, 65, 73, 78], [68, 79], [63, 68, 79], [76, 79, 79, 80], [43, 76, 79, 79, 80], [76, 69, 65, 86, 69], [83, 34],
 [69, 88, 73, 84]]
def encN (l : Bs) : List AV := [St l]
theorem encN_closed (l : Bs) : ∀ x, x ∈ encN l → Closed x := fun x hx => by rw [List.mem_singleton.1 hx]; exact .val _
theorem closed_ns (l : List Bs) : Closed (.sl 1 false (l.map encN)) := closed_map encN_closed
attribute [local irreducible] Decidable.decide awp ARun regK toK
set_option maxHeartbeats 4000000 in
theorem names_c : FnC Tryz.prog 91 [] (.sl 1 true (nmsV.map encN)) := by
 refine goF Tryz.func91 closedL_nil (fun w0 st0 => ?_)
 dsimp only [frOf]
 (repeat' (first | refine goA ?_ | refine goB ?_ | ((fail_if_success refine ARun.plain rfl ?_); refine ARun.fork rfl rfl rfl (fun h => ?_) (fun h => ?_)) | refine awp_cond rfl (fun h => ?_) (fun h => ?_)))
 refine awp_ret ⟨_, ResL.cons (ResA.tmp (.closed (.sl 1 true (nmsV.map encN)) (closed_map encN_closed))) .nil, rfl⟩
set_option maxHeartbeats 4000000 in
theorem specials_c : FnC Tryz.prog 92 [] (.sl 1 true (spcV.map encN)) := by
 refine goF Tryz.func92 closedL_nil (fun w0 st0 => ?_)
 dsimp only [frOf]
 (repeat' (first | refine goA ?_ | refine goB ?_ | ((fail_if_success refine ARun.plain rfl ?_); refine ARun.fork rfl rfl rfl (fun h => ?_) (fun h => ?_)) | refine awp_cond rfl (fun h => ?_) (fun h => ?_)))
 refine awp_ret ⟨_, ResL.cons (ResA.tmp (.closed (.sl 1 true (spcV.map encN)) (closed_map encN_closed))) .nil, rfl⟩
set_option maxHeartbeats 4000000 in
theorem ref_names_c : FnC Tryz.prog 76 [] (.sl 1 true (nmsV.map encN)) := by
 refine goF Tryz.func76 closedL_nil (fun w0 st0 => ?_)
 dsimp only [frOf]
 (repeat' (first | refine goA ?_ | refine goB ?_ | ((fail_if_success refine ARun.plain rfl ?_); refine ARun.fork rfl rfl rfl (fun h => ?_) (fun h => ?_)) | refine awp_cond rfl (fun h => ?_) (fun h => ?_)))
 refine awp_ret ⟨_, ResL.cons (ResA.tmp (.closed (.sl 1 true (nmsV.map encN)) (closed_map encN_closed))) .nil, rfl⟩
set_option maxHeartbeats 4000000 in
theorem ref_specials_c : FnC Tryz.prog 77 [] (.sl 1 true (spcV.map encN)) := by
 refine goF Tryz.func77 closedL_nil (fun w0 st0 => ?_)
 dsimp only [frOf]
 (repeat' (first | refine goA ?_ | refine goB ?_ | ((fail_if_success refine ARun.plain rfl ?_); refine ARun.fork rfl rfl rfl (fun h => ?_) (fun h => ?_)) | refine awp_cond rfl (fun h => ?_) (fun h => ?_)))
 refine awp_ret ⟨_, ResL.cons (ResA.tmp (.closed (.sl 1 true (spcV.map encN)) (closed_map encN_closed))) .nil, rfl⟩
theorem len_nms : (nmsV.map encN).length = 130 := by rw [List.length_map]; rfl
theorem len_spc : (spcV.map encN).length = 37 := by rw [List.length_map]; rfl
theorem start_c : FnC Tryz.prog 47 [] (.val (.int .i64 1368)) := by
 have c1 := names_c
 have c2 := specials_c
 have e1 := len_nms
 have e2 := len_spc
 generalize nmsV.map encN = l1 at *
 generalize spcV.map encN = l2 at *
 have e3 : (32 : Int) + 8 * ((l1.length : Int) + (l2.length : Int)) = 1368 := by rw [e1, e2]; rfl
 refine goF Tryz.func47 closedL_nil (fun w0 st0 => ?_)
 dsimp only [frOf]
 (repeat' (first | refine goA ?_ | refine cX c1 ?_ | refine cX c2 ?_ | refine goB ?_ | ((fail_if_success refine ARun.plain rfl ?_); refine ARun.fork rfl rfl rfl (fun h => ?_) (fun h => ?_)) | refine awp_cond rfl (fun h => ?_) (fun h => ?_)))
 exact awp_ret ⟨_, ResL.cons (ResA.tmp (.val _)) .nil, congrArg (fun n => AV.val (.int .i64 n)) e3.symm⟩
theorem ref_start_c : FnC Tryz.prog 51 [] (.val (.int .i64 1368)) := by
 refine goF Tryz.func51 closedL_nil (fun w0 st0 => ?_)
 dsimp only [frOf]
 (repeat' (first | refine goA ?_ | refine goB ?_ | ((fail_if_success refine ARun.plain rfl ?_); refine ARun.fork rfl rfl rfl (fun h => ?_) (fun h => ?_)) | refine awp_cond rfl (fun h => ?_) (fun h => ?_)))
 exact awp_ret ⟨_, ResL.cons (ResA.tmp (.val _)) .nil, rfl⟩
theorem within_c (n lo hi : Int) : FnC Tryz.prog 86 [.val (.int .i64 n), .val (.int .i64 lo), .val (.int .i64 hi)] (.val (.bool (decide (lo ≤ n ∧ n ≤ hi)))) := by
 refine goF Tryz.func86 (closedL_cons (.val _) (closedL_cons (.val _) (closedL_cons (.val _) closedL_nil))) (fun w0 st0 => ?_)
 dsimp only [frOf]
 by_cases h1 : lo ≤ n
 ·have d1 : decide (lo ≤ n) = true := decide_eq_true h1
  (repeat' (first | refine goA ?_ | refine goB ?_ | ((fail_if_success refine ARun.plain rfl ?_); refine ARun.fork rfl rfl rfl (fun h => ?_) (fun h => ?_)) | refine awp_cond rfl (fun h => ?_) (fun h => ?_)))
  refine awp_ret ⟨_, ResL.cons (ResA.tmp (.val _)) .nil, congrArg (fun b => AV.val (.bool b)) ?_⟩
  exact decide_eq_decide.2 (by omega)
 ·have d1 : decide (lo ≤ n) = false := decide_eq_false h1
  (repeat' (first | refine goA ?_ | refine goB ?_ | ((fail_if_success refine ARun.plain rfl ?_); refine ARun.fork rfl rfl rfl (fun h => ?_) (fun h => ?_)) | refine awp_cond rfl (fun h => ?_) (fun h => ?_)))
  refine awp_ret ⟨_, ResL.cons (ResA.tmp (.val _)) .nil, congrArg (fun b => AV.val (.bool b)) ?_⟩
  exact decide_eq_false (by omega)
structure Cf where
 mem : Int
 data : Int
 ret : Int
 words : Int
 out : Int
def encC (c : Cf) : List AV := [.val (.int .i64 c.mem), .val (.int .i64 c.data), .val (.int .i64 c.ret), .val (.int .i64 c.words), .val (.int .i64 c.out)]
theorem encC_closed (c : Cf) : ∀ x, x ∈ encC c → Closed x := closedL_cons (.val _) (closedL_cons (.val _) (closedL_cons (.val _) (closedL_cons (.val _) (closedL_cons (.val _) closedL_nil))))
def FitsP (c : Cf) : Prop := (2048 ≤ c.mem ∧ c.mem ≤ 65536) ∧ c.mem.tmod 8 = 0 ∧ (1 ≤ c.data ∧ c.data ≤ 256) ∧ (1 ≤ c.ret ∧ c.ret ≤ 256) ∧ (200 ≤ c.words ∧ c.words ≤ 1024) ∧ 0 ≤ c.out ∧ c.out ≤ 65536
open Classical in
noncomputable def fitsD (c : Cf) : Bool := if FitsP c then true else false
theorem fits_yes {c : Cf} (h : FitsP c) : fitsD c = true := by unfold fitsD; exact if_pos h
theorem fits_no {c : Cf} (h : ¬ FitsP c) : fitsD c = false := by unfold fitsD; exact if_neg h
set_option maxHeartbeats 4000000 in
theorem fits_c (c : Cf) : FnC Tryz.prog 84 [.agg (encC c)] (.val (.bool (fitsD c))) := by
  have c1 := within_c c.mem 2048 65536
  have c2 := within_c c.data 1 256
  have c3 := within_c c.ret 1 256
  have c4 := within_c c.words 200 1024
  have c5 := within_c c.out 0 65536
  by_cases hF : FitsP c
  · have h' := hF
    obtain ⟨h1, h2, h3, h4, h5, h6⟩ := h'
    rw [decide_eq_true h1] at c1
    rw [decide_eq_true h3] at c2
    rw [decide_eq_true h4] at c3
    rw [decide_eq_true h5] at c4
    rw [decide_eq_true h6] at c5
    have d2 : (c.mem.tmod 8 == 0) = true := beq_iff_eq.2 h2
    rw [fits_yes hF]
    refine goF Tryz.func84 (closedL_cons (.agg (encC_closed _)) closedL_nil) (fun w0 st0 => ?_)
    dsimp only [frOf]
    (repeat' (first | refine goA ?_ | refine cX c1 ?_ | refine cX c2 ?_ | refine cX c3 ?_ | refine cX c4 ?_ | refine cX c5 ?_ | refine goB ?_ | fail))
    exact awp_ret ⟨_, ResL.cons (ResA.tmp (.val _)) .nil, rfl⟩
  · rw [fits_no hF]
    refine goF Tryz.func84 (closedL_cons (.agg (encC_closed _)) closedL_nil) (fun w0 st0 => ?_)
    dsimp only [frOf]
    (repeat' (first | refine goA ?_ | refine cX c1 ?_ | refine cX c2 ?_ | refine cX c3 ?_ | refine cX c4 ?_ | refine cX c5 ?_ | refine goB ?_ | ((fail_if_success refine ARun.plain rfl ?_); refine ARun.fork rfl rfl rfl (fun h => ?_) (fun h => ?_)) | refine awp_cond rfl (fun h => ?_) (fun h => ?_)))
    all_goals
      refine awp_ret ⟨_, ResL.cons (ResA.tmp (.val _)) .nil, congrArg (fun b => AV.val (.bool b)) ?_⟩
      first
        | rfl
        | (symm
           simp only [decide_eq_true_eq, decide_eq_false_iff_not, beq_iff_eq] at *
           exact fun q => hF ⟨by assumption, by assumption, by assumption, by assumption, by assumption, q⟩)
set_option maxHeartbeats 8000000 in
theorem ref_fits_c (c : Cf) : FnC Tryz.prog 75 [.agg (encC c)] (.val (.bool (fitsD c))) := by
  by_cases hF : FitsP c
  · have h' := hF
    obtain ⟨⟨h1, h2⟩, h3, ⟨h4, h5⟩, ⟨h6, h7⟩, ⟨h8, h9⟩, h10, h11⟩ := h'
    have d1 := decide_eq_true h1
    have d2 := decide_eq_true h2
    have d3 : (c.mem.tmod 8 == 0) = true := beq_iff_eq.2 h3
    have d4 := decide_eq_true h4
    have d5 := decide_eq_true h5
    have d6 := decide_eq_true h6
    have d7 := decide_eq_true h7
    have d8 := decide_eq_true h8
    have d9 := decide_eq_true h9
    have d10 := decide_eq_true h10
    have d11 := decide_eq_true h11
    rw [fits_yes hF]
    refine goF Tryz.func75 (closedL_cons (.agg (encC_closed _)) closedL_nil) (fun w0 st0 => ?_)
    dsimp only [frOf]
    (repeat' (first | refine goA ?_ | refine goB ?_ | fail))
    exact awp_ret ⟨_, ResL.cons (ResA.tmp (.val _)) .nil, congrArg (fun b => AV.val (.bool b)) d11.symm⟩
  · rw [fits_no hF]
    refine goF Tryz.func75 (closedL_cons (.agg (encC_closed _)) closedL_nil) (fun w0 st0 => ?_)
    dsimp only [frOf]
    (repeat' (first | refine goA ?_ | refine goB ?_ | ((fail_if_success refine ARun.plain rfl ?_); refine ARun.fork rfl rfl rfl (fun h => ?_) (fun h => ?_)) | refine awp_cond rfl (fun h => ?_) (fun h => ?_)))
    all_goals
      refine awp_ret ⟨_, ResL.cons (ResA.tmp (.val _)) .nil, congrArg (fun b => AV.val (.bool b)) ?_⟩
      first
        | rfl
        | (symm
           simp only [decide_eq_true_eq, decide_eq_false_iff_not, beq_iff_eq] at *
           exact fun q => hF ⟨⟨by assumption, by assumption⟩, by assumption, ⟨by assumption, by assumption⟩, ⟨by assumption, by assumption⟩, ⟨by assumption, by assumption⟩, by assumption, q⟩)
end Go.Proofs.YthlbcakjngcjbaaGreat
