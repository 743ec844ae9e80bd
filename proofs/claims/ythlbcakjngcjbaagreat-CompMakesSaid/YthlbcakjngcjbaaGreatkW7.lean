/- kM6, kM7, kP1, kP2, kP3. -/
import Derived.Test.YthlbcakjngcjbaaGreatW1
import Derived.Test.YthlbcakjngcjbaaGreatW2
import Derived.Test.YthlbcakjngcjbaaGreatW3
import Derived.Test.YthlbcakjngcjbaaGreatW4
import Derived.Test.YthlbcakjngcjbaaGreatkW5
import Derived.Test.YthlbcakjngcjbaaGreatkW6
set_option linter.unusedVariables false
set_option linter.unusedSimpArgs false
namespace Go.Proofs.YthlbcakjngcjbaaGreat.Mem
open Go Go.RowKit
set_option maxRecDepth 100000
attribute [local irreducible] Decidable.decide awp ARun regK toK
def cellAtD (m : Mm) (at' : Int) : Int := if thereD m.b.length at' 8 = false then -9 else if at'.tmod 8 ≠ 0 then -23 else 0
theorem ref_cellAt_c (m : Mm) (at' : Int) (hl : m.b.length ≤ 1000000) : FnC Tryz.prog 142 [.agg (encM m), .val (.int .i64 at')] (.val (.int .i64 (cellAtD m at'))) := by
 have c1 := ref_there_c m at' 8 hl
 cases ht : thereD m.b.length at' 8 with
 | false =>
  rw [ht] at c1
  rw [show cellAtD m at' = -9 from if_pos ht]
  refine goF Tryz.func142 (closedL_cons (closed_m m) (closedL_cons (.val _) closedL_nil)) (fun w0 st0 => ?_)
  dsimp only [frOf]
  (repeat' (first | refine goA ?_ | refine cX c1 ?_ | refine goB ?_ | ((fail_if_success refine ARun.plain rfl ?_); refine ARun.fork rfl rfl rfl (fun h => ?_) (fun h => ?_)) | refine awp_cond rfl (fun h => ?_) (fun h => ?_)))
  (refine awp_ret ⟨_, ResL.cons (ResA.tmp (.val _)) .nil, rfl⟩)
 | true =>
  rw [ht] at c1
  have h0 : ¬ thereD m.b.length at' 8 = false := by simp [ht]
  by_cases hm : at'.tmod 8 = 0
  ·have h1 : (at'.tmod 8 != 0) = false := by simp [hm]
   rw [show cellAtD m at' = 0 by unfold cellAtD; rw [if_neg h0, if_neg (by simp [hm])]]
   refine goF Tryz.func142 (closedL_cons (closed_m m) (closedL_cons (.val _) closedL_nil)) (fun w0 st0 => ?_)
   dsimp only [frOf]
   (repeat' (first | refine goA ?_ | refine cX c1 ?_ | refine goB ?_ | ((fail_if_success refine ARun.plain rfl ?_); refine ARun.fork rfl rfl rfl (fun h => ?_) (fun h => ?_)) | refine awp_cond rfl (fun h => ?_) (fun h => ?_)))
   (refine awp_ret ⟨_, ResL.cons (ResA.tmp (.val _)) .nil, rfl⟩)
  ·have h1 : (at'.tmod 8 != 0) = true := by simp [hm]
   rw [show cellAtD m at' = -23 by unfold cellAtD; rw [if_neg h0, if_pos hm]]
   refine goF Tryz.func142 (closedL_cons (closed_m m) (closedL_cons (.val _) closedL_nil)) (fun w0 st0 => ?_)
   dsimp only [frOf]
   (repeat' (first | refine goA ?_ | refine cX c1 ?_ | refine goB ?_ | ((fail_if_success refine ARun.plain rfl ?_); refine ARun.fork rfl rfl rfl (fun h => ?_) (fun h => ?_)) | refine awp_cond rfl (fun h => ?_) (fun h => ?_)))
   (refine awp_ret ⟨_, ResL.cons (ResA.tmp (.val _)) .nil, rfl⟩)
def fetchD (m : Mm) (at' : Int) : Int × Int := if cellAtD m at' ≠ 0 then (0, cellAtD m at') else ((getD (partD m.b at' 8)).1, 0)
theorem cellAt_there {m : Mm} {at' : Int} (h : cellAtD m at' = 0) : thereD m.b.length at' 8 = true ∧ at'.tmod 8 = 0 := by
 unfold cellAtD at h
 split at h
 ·omega
 ·rename_i h1
  split at h
  ·omega
  ·rename_i h2
   exact ⟨by simpa using h1, by simpa using h2⟩
theorem ref_fetch_c (m : Mm) (at' : Int) (hl : m.b.length ≤ 1000000) : FnC Tryz.prog 148 [.agg (encM m), .val (.int .i64 at')] (.tup [.val (.int .i64 (fetchD m at').1), .val (.int .i64 (fetchD m at').2)]) := by
 have c1 := ref_cellAt_c m at' hl
 by_cases h0 : cellAtD m at' = 0
 ·rw [show fetchD m at' = ((getD (partD m.b at' 8)).1, 0) from if_neg (by simp [h0])]
  rw [h0] at c1
  have z : ((0 : Int) != 0) = false := by simp
  obtain ⟨ht, _⟩ := cellAt_there h0
  have h4 := there_yes ht (by omega)
  obtain ⟨a, rfl⟩ : ∃ a : Nat, at' = (a : Int) := ⟨at'.toNat, by omega⟩
  have hs := split3 encB m.b a 8
  have hp1 : ((m.b.take a).map encB).length = a := by simp; omega
  have hp2 : (((m.b.drop a).take 8).map encB).length = 8 := by simp; omega
  have c2 := ref_get_c ((m.b.drop a).take 8) (by simp; omega)
  refine goF Tryz.func148 (closedL_cons (closed_m m) (closedL_cons (.val _) closedL_nil)) (fun w0 st0 => ?_)
  dsimp only [frOf]
  (repeat' (first | refine goA ?_ | refine cX c1 ?_ | refine cX c2 ?_ | refine ARun.sliceMid rfl (by first | assumption | rfl) rfl lensT rfl lensT rfl rfl rfl rfl rfl (guardF_spec rfl) ?_ | refine goB ?_ | ((fail_if_success refine ARun.plain rfl ?_); refine ARun.fork rfl rfl rfl (fun h => ?_) (fun h => ?_)) | refine awp_cond rfl (fun h => ?_) (fun h => ?_)))
  refine awp_ret ⟨_, ResL.cons (ResA.tmp (.val _)) (ResL.cons (ResA.tmp (.val _)) .nil), rfl⟩
 ·rw [show fetchD m at' = (0, cellAtD m at') from if_pos h0]
  have z : (cellAtD m at' != 0) = true := by simp [h0]
  refine goF Tryz.func148 (closedL_cons (closed_m m) (closedL_cons (.val _) closedL_nil)) (fun w0 st0 => ?_)
  dsimp only [frOf]
  (repeat' (first | refine goA ?_ | refine cX c1 ?_ | refine goB ?_ | ((fail_if_success refine ARun.plain rfl ?_); refine ARun.fork rfl rfl rfl (fun h => ?_) (fun h => ?_)) | refine awp_cond rfl (fun h => ?_) (fun h => ?_)))
  refine awp_ret ⟨_, ResL.cons (ResA.tmp (.val _)) (ResL.cons (ResA.tmp (.val _)) .nil), rfl⟩
def RightM (m : Mm) : Prop := (∀ p, p ∈ m.old → thereD m.b.length p.1 p.2.length = true) ∧ m.b.length ≤ 65536 ∧ m.b.length % 8 = 0
def FewM (m : Mm) (most : Int) : Prop := (m.b.length : Int) ≤ most ∧ m.old.length ≤ 60 ∧ ∀ p, p ∈ m.old → p.2.length ≤ 200
open Classical in
noncomputable def rightM (m : Mm) : Bool := if RightM m then true else false
open Classical in
noncomputable def fewM (m : Mm) (most : Int) : Bool := if FewM m most then true else false
theorem rightM_yes {m : Mm} (h : RightM m) : rightM m = true := by unfold rightM; exact if_pos h
theorem rightM_no {m : Mm} (h : ¬ RightM m) : rightM m = false := by unfold rightM; exact if_neg h
theorem fewM_yes {m : Mm} {most : Int} (h : FewM m most) : fewM m most = true := by unfold fewM; exact if_pos h
theorem fewM_no {m : Mm} {most : Int} (h : ¬ FewM m most) : fewM m most = false := by unfold fewM; exact if_neg h
set_option maxHeartbeats 4000000 in
theorem ref_few_c (m : Mm) (most : Int) : FnC Tryz.prog 82 [.agg (encM m), .val (.int .i64 most)] (.val (.bool (fewM m most))) := by
 refine goF Tryz.func82 (closedL_cons (closed_m m) (closedL_cons (.val _) closedL_nil)) (fun w0 st0 => ?_)
 dsimp only [frOf]
 by_cases h1 : most < (m.b.length : Int)
 ·have d1 : decide (most < (((m.b.map encB).length : Nat) : Int)) = true := by simpa using h1
  rw [fewM_no (fun h => by have := h.1; omega)]
  (repeat' (first | refine goA ?_ | refine goB ?_ | ((fail_if_success refine ARun.plain rfl ?_); refine ARun.fork rfl rfl rfl (fun h => ?_) (fun h => ?_)) | refine awp_cond rfl (fun h => ?_) (fun h => ?_)))
  (refine awp_ret ⟨_, ResL.cons (ResA.tmp (.val _)) .nil, rfl⟩)
 by_cases h2 : (60 : Int) < (m.old.length : Int)
 ·have d1 : decide (most < (((m.b.map encB).length : Nat) : Int)) = false := by simpa using h1
  have d2 : decide ((60 : Int) < (((m.old.map encP).length : Nat) : Int)) = true := by simpa using h2
  rw [fewM_no (fun h => by have := h.2.1; omega)]
  (repeat' (first | refine goA ?_ | refine goB ?_ | ((fail_if_success refine ARun.plain rfl ?_); refine ARun.fork rfl rfl rfl (fun h => ?_) (fun h => ?_)) | refine awp_cond rfl (fun h => ?_) (fun h => ?_)))
  (refine awp_ret ⟨_, ResL.cons (ResA.tmp (.val _)) .nil, rfl⟩)
 have d1 : decide (most < (((m.b.map encB).length : Nat) : Int)) = false := by simpa using h1
 have d2 : decide ((60 : Int) < (((m.old.map encP).length : Nat) : Int)) = false := by simpa using h2
 (repeat' (first | refine goA ?_ | refine goB ?_ | ((fail_if_success refine ARun.plain rfl ?_); refine ARun.fork rfl rfl rfl (fun h => ?_) (fun h => ?_)) | refine awp_cond rfl (fun h => ?_) (fun h => ?_)))
 refine awp_loopT (T := Nat × Nat) (fun t => ⟨[(2, .ptr 2 0 0 0), (5, .val (.int .i64 (t.1 : Nat)))], [(2, some ⟨0, 2, [encM m]⟩)], t.2⟩) (fun t => t.1 ≤ m.old.length ∧ ∀ (j : Nat) (p : Pt), j < t.1 → m.old[j]? = some p → p.2.length ≤ 200) (fun t => m.old.length - t.1) (0, _) ⟨Nat.zero_le _, fun j p hj => absurd hj (Nat.not_lt_zero j)⟩ ⟨⟨rfl, rfl, trivial⟩, ⟨rfl, trivial⟩, Nat.le_refl _⟩ (fun t ht => ?_)
 obtain ⟨k, gc⟩ := t
 obtain ⟨hk, hA⟩ := ht
 dsimp only at hk hA ⊢
 clear d1 d2
 by_cases hlt : k < m.old.length
 ·have hp : m.old[k]? = some m.old[k] := List.getElem?_eq_getElem hlt
  have hmem : m.old[k] ∈ m.old := List.getElem_mem hlt
  have hc : decide (((k : Nat) : Int) < (((m.old.map encP).length : Nat) : Int)) = true := by simp; omega
  generalize m.old[k] = p at hp hmem
  obtain ⟨pa, pb⟩ := p
  by_cases h3 : (200 : Int) < (pb.length : Int)
  ·have d3 : decide ((200 : Int) < (((pb.map encB).length : Nat) : Int)) = true := by simpa using h3
   rw [fewM_no (fun h => by have := h.2.2 _ hmem; simp only at this; omega)]
   (repeat' (first | refine goA ?_ | refine ARun.indexAddr rfl rfl (by omega) (by first | with_reducible exact get_map hp | with_reducible exact get_map hp) rfl rfl rfl rfl rfl (guardF_spec rfl) ?_ | refine goB ?_ | ((fail_if_success refine ARun.plain rfl ?_); refine ARun.fork rfl rfl rfl (fun h => ?_) (fun h => ?_)) | refine awp_cond rfl (fun h => ?_) (fun h => ?_)))
   (refine awp_ret ⟨_, ResL.cons (ResA.tmp (.val _)) .nil, rfl⟩)
  ·have d3 : decide ((200 : Int) < (((pb.map encB).length : Nat) : Int)) = false := by simpa using h3
   (repeat' (first | refine goA ?_ | refine ARun.indexAddr rfl rfl (by omega) (by first | with_reducible exact get_map hp | with_reducible exact get_map hp) rfl rfl rfl rfl rfl (guardF_spec rfl) ?_ | refine goB ?_ | ((fail_if_success refine ARun.plain rfl ?_); refine ARun.fork rfl rfl rfl (fun h => ?_) (fun h => ?_)) | refine awp_cond rfl (fun h => ?_) (fun h => ?_)))
   refine ⟨(k + 1, _), ⟨⟨rfl, succI k, trivial⟩, ⟨rfl, trivial⟩, Nat.le_refl _⟩, ⟨hlt, fun j p hj hjp => ?_⟩, (by dsimp only; omega)⟩
   by_cases hjk : j = k
   ·subst hjk
    rw [hp] at hjp
    obtain rfl := Option.some.inj hjp
    simp only
    omega
   ·exact hA j p (by simp only at hj; omega) hjp
 ·have hkk : k = m.old.length := by omega
  subst hkk
  have hc : decide (((m.old.length : Nat) : Int) < (((m.old.map encP).length : Nat) : Int)) = false := by simp
  rw [fewM_yes ⟨by omega, by omega, fun p hp => by
   obtain ⟨j, hj⟩ := List.getElem?_of_mem hp
   exact hA j p (List.getElem?_eq_some_iff.1 hj).1 hj⟩]
  (repeat' (first | refine goA ?_ | refine goB ?_ | ((fail_if_success refine ARun.plain rfl ?_); refine ARun.fork rfl rfl rfl (fun h => ?_) (fun h => ?_)) | refine awp_cond rfl (fun h => ?_) (fun h => ?_)))
  (refine awp_ret ⟨_, ResL.cons (ResA.tmp (.val _)) .nil, rfl⟩)
end Go.Proofs.YthlbcakjngcjbaaGreat.Mem
namespace Go.Proofs.YthlbcakjngcjbaaGreat.Mem
open Go Go.RowKit
set_option maxRecDepth 100000
attribute [local irreducible] Decidable.decide awp ARun regK toK
set_option maxHeartbeats 4000000 in
theorem ref_right_c (m : Mm) (hl : m.b.length ≤ 1000000) (ho : m.old.length ≤ 1000000) : FnC Tryz.prog 93 [.agg (encM m)] (.val (.bool (rightM m))) := by
 refine goF Tryz.func93 (closedL_cons (closed_m m) closedL_nil) (fun w0 st0 => ?_)
 dsimp only [frOf]
 (repeat' (first | refine goA ?_ | refine goB ?_ | ((fail_if_success refine ARun.plain rfl ?_); refine ARun.fork rfl rfl rfl (fun h => ?_) (fun h => ?_)) | refine awp_cond rfl (fun h => ?_) (fun h => ?_)))
 refine awp_loopT (T := Nat × Nat) (fun t => ⟨[(1, .ptr 1 0 0 0), (3, .val (.int .i64 (t.1 : Nat)))], [(1, some ⟨0, 2, [encM m]⟩)], t.2⟩) (fun t => t.1 ≤ m.old.length ∧ ∀ (j : Nat) (p : Pt), j < t.1 → m.old[j]? = some p → thereD m.b.length p.1 p.2.length = true) (fun t => m.old.length - t.1) (0, _) ⟨Nat.zero_le _, fun j p hj => absurd hj (Nat.not_lt_zero j)⟩ ⟨⟨rfl, rfl, trivial⟩, ⟨rfl, trivial⟩, Nat.le_refl _⟩ (fun t ht => ?_)
 obtain ⟨k, gc⟩ := t
 obtain ⟨hk, hA⟩ := ht
 dsimp only at hk hA ⊢
 by_cases hlt : k < m.old.length
 ·have hp : m.old[k]? = some m.old[k] := List.getElem?_eq_getElem hlt
  have hmem : m.old[k] ∈ m.old := List.getElem_mem hlt
  have hc : decide (((k : Nat) : Int) < (((m.old.map encP).length : Nat) : Int)) = true := by simp; omega
  generalize m.old[k] = p at hp hmem
  obtain ⟨pa, pb⟩ := p
  have c1 := ref_there_c m pa (((pb.map encB).length : Nat) : Int) hl
  have e0 : (((pb.map encB).length : Nat) : Int) = (pb.length : Int) := by rw [List.length_map]
  cases ht : thereD m.b.length pa (((pb.map encB).length : Nat) : Int) with
  | false =>
   rw [ht] at c1
   rw [e0] at ht
   rw [rightM_no (fun h => by have := h.1 _ hmem; rw [ht] at this; cases this)]
   (repeat' (first | refine goA ?_ | refine ARun.indexAddr rfl rfl (by omega) (by first | with_reducible exact get_map hp | with_reducible exact get_map hp) rfl rfl rfl rfl rfl (guardF_spec rfl) ?_ | refine cX c1 ?_ | refine goB ?_ | ((fail_if_success refine ARun.plain rfl ?_); refine ARun.fork rfl rfl rfl (fun h => ?_) (fun h => ?_)) | refine awp_cond rfl (fun h => ?_) (fun h => ?_)))
   (refine awp_ret ⟨_, ResL.cons (ResA.tmp (.val _)) .nil, rfl⟩)
  | true =>
   rw [ht] at c1
   rw [e0] at ht
   (repeat' (first | refine goA ?_ | refine ARun.indexAddr rfl rfl (by omega) (by first | with_reducible exact get_map hp | with_reducible exact get_map hp) rfl rfl rfl rfl rfl (guardF_spec rfl) ?_ | refine cX c1 ?_ | refine goB ?_ | ((fail_if_success refine ARun.plain rfl ?_); refine ARun.fork rfl rfl rfl (fun h => ?_) (fun h => ?_)) | refine awp_cond rfl (fun h => ?_) (fun h => ?_)))
   refine ⟨(k + 1, _), ⟨⟨rfl, succI k, trivial⟩, ⟨rfl, trivial⟩, Nat.le_refl _⟩, ⟨hlt, fun j p hj hjp => ?_⟩, (by dsimp only; omega)⟩
   by_cases hjk : j = k
   ·subst hjk
    rw [hp] at hjp
    obtain rfl := Option.some.inj hjp
    exact ht
   ·exact hA j p (by simp only at hj; omega) hjp
 ·have hkk : k = m.old.length := by omega
  subst hkk
  have hc : decide (((m.old.length : Nat) : Int) < (((m.old.map encP).length : Nat) : Int)) = false := by simp
  have hall : ∀ p, p ∈ m.old → thereD m.b.length p.1 p.2.length = true := fun p hp => by
   obtain ⟨j, hj⟩ := List.getElem?_of_mem hp
   exact hA j p (List.getElem?_eq_some_iff.1 hj).1 hj
  have e1 : (((m.b.map encB).length : Nat) : Int).tmod 8 = ((m.b.length % 8 : Nat) : Int) := by rw [List.length_map, Int.tmod_eq_emod_of_nonneg (by omega)]; omega
  by_cases h1 : m.b.length ≤ 65536
  ·have d1 : decide ((((m.b.map encB).length : Nat) : Int) ≤ 65536) = true := by simp; omega
   by_cases h2 : m.b.length % 8 = 0
   ·have d2 : ((((m.b.map encB).length : Nat) : Int).tmod 8 == 0) = true := by rw [e1, h2]; simp
    rw [rightM_yes ⟨hall, h1, h2⟩]
    (repeat' (first | refine goA ?_ | refine goB ?_ | ((fail_if_success refine ARun.plain rfl ?_); refine ARun.fork rfl rfl rfl (fun h => ?_) (fun h => ?_)) | refine awp_cond rfl (fun h => ?_) (fun h => ?_)))
    refine awp_ret ⟨_, ResL.cons (ResA.tmp (.val _)) .nil, congrArg (fun b => AV.val (.bool b)) d2.symm⟩
   ·have d2 : ((((m.b.map encB).length : Nat) : Int).tmod 8 == 0) = false := by rw [e1, beq_eq_false_iff_ne]; omega
    rw [rightM_no (fun h => h2 h.2.2)]
    (repeat' (first | refine goA ?_ | refine goB ?_ | ((fail_if_success refine ARun.plain rfl ?_); refine ARun.fork rfl rfl rfl (fun h => ?_) (fun h => ?_)) | refine awp_cond rfl (fun h => ?_) (fun h => ?_)))
    refine awp_ret ⟨_, ResL.cons (ResA.tmp (.val _)) .nil, congrArg (fun b => AV.val (.bool b)) d2.symm⟩
  ·have d1 : decide ((((m.b.map encB).length : Nat) : Int) ≤ 65536) = false := by simp; omega
   rw [rightM_no (fun h => h1 h.2.1)]
   (repeat' (first | refine goA ?_ | refine goB ?_ | ((fail_if_success refine ARun.plain rfl ?_); refine ARun.fork rfl rfl rfl (fun h => ?_) (fun h => ?_)) | refine awp_cond rfl (fun h => ?_) (fun h => ?_)))
   (refine awp_ret ⟨_, ResL.cons (ResA.tmp (.val _)) .nil, rfl⟩)
theorem bs_eq (l l' : List UInt8) : ((ByteArray.mk l.toArray).toList == (ByteArray.mk l'.toArray).toList) = decide (l = l') := by
 rw [ByteArray.toList_eq, ByteArray.toList_eq]
 show (l == l') = _
 rw [Bool.eq_iff_iff, beq_iff_eq, decide_eq_true_eq]
def SameM (a b : Mm) : Prop := a.b = b.b ∧ a.old = b.old
open Classical in
noncomputable def sameM (a b : Mm) : Bool := if SameM a b then true else false
theorem sameM_yes {a b : Mm} (h : SameM a b) : sameM a b = true := by unfold sameM; exact if_pos h
theorem sameM_no {a b : Mm} (h : ¬ SameM a b) : sameM a b = false := by unfold sameM; exact if_neg h
set_option maxHeartbeats 4000000 in
theorem ref_same_c (a b : Mm) (hla : a.old.length ≤ 1000000) (hlb : b.old.length ≤ 1000000) : FnC Tryz.prog 106 [.agg (encM a), .agg (encM b)] (.val (.bool (sameM a b))) := by
 refine goF Tryz.func106 (closedL_cons (closed_m a) (closedL_cons (closed_m b) closedL_nil)) (fun w0 st0 => ?_)
 dsimp only [frOf]
 by_cases h1 : a.b = b.b
 ·have d1 : (!((ByteArray.mk a.b.toArray).toList == (ByteArray.mk b.b.toArray).toList)) = false := by rw [bs_eq]; simp [h1]
  by_cases h2 : a.old.length = b.old.length
  ·have d2 : ((((a.old.map encP).length : Nat) : Int) != (((b.old.map encP).length : Nat) : Int)) = false := by simp [h2]
   (repeat' (first | refine goA ?_ | refine ARun.bytesStr (by first | exact SrcA.sl rfl (.inr rfl) | exact SrcA.sl rfl (.inl rfl) | exact SrcA.ownW rfl rfl rfl rfl) rfl rfl rfl rfl rfl rfl rfl rfl (guardF_spec rfl) ?_ | refine goB ?_ | ((fail_if_success refine ARun.plain rfl ?_); refine ARun.fork rfl rfl rfl (fun h => ?_) (fun h => ?_)) | refine awp_cond rfl (fun h => ?_) (fun h => ?_)))
   refine awp_loopT (T := Nat × Nat) (fun t => ⟨[(2, .ptr 2 0 0 0), (3, .ptr 3 1 0 0), (4, .val (.bool false)), (5, .val (.int .i64 (t.1 : Nat)))], [(2, some ⟨0, 2, [encM a]⟩), (3, some ⟨1, 2, [encM b]⟩)], t.2⟩) (fun t => t.1 ≤ a.old.length ∧ a.old.take t.1 = b.old.take t.1) (fun t => a.old.length - t.1) (0, _) ⟨Nat.zero_le _, rfl⟩ ⟨⟨rfl, rfl, rfl, rfl, trivial⟩, ⟨rfl, rfl, trivial⟩, Nat.le_refl _⟩ (fun t ht => ?_)
   obtain ⟨k, gc⟩ := t
   obtain ⟨hk, hA⟩ := ht
   dsimp only at hk hA ⊢
   clear d1 d2
   by_cases hlt : k < a.old.length
   ·have hp : a.old[k]? = some a.old[k] := List.getElem?_eq_getElem hlt
    have hq : b.old[k]? = some b.old[k] := List.getElem?_eq_getElem (by omega)
    have hc : decide (((k : Nat) : Int) < (((a.old.map encP).length : Nat) : Int)) = true := by simp; omega
    have e1 := take_succ' hp
    have e2 := take_succ' hq
    have hne : ∀ x y, a.old[k]? = some x → b.old[k]? = some y → x ≠ y → sameM a b = false := fun x y hx hy hxy => sameM_no (fun h => hxy (by rw [h.2, hy] at hx; exact (Option.some.inj hx).symm))
    generalize a.old[k] = p at hp e1
    generalize b.old[k] = q at hq e2
    obtain ⟨pa, pb⟩ := p
    obtain ⟨qa, qb⟩ := q
    by_cases h3 : pa = qa
    ·have d3 : (pa != qa) = false := by simp [h3]
     by_cases h4 : pb = qb
     ·have d4 : (!((ByteArray.mk pb.toArray).toList == (ByteArray.mk qb.toArray).toList)) = false := by rw [bs_eq]; simp [h4]
      (repeat' (first | refine goA ?_ | refine ARun.indexAddr rfl rfl (by omega) (by first | with_reducible exact get_map hp | with_reducible exact get_map hq) rfl rfl rfl rfl rfl (guardF_spec rfl) ?_ | refine ARun.bytesStr (by first | exact SrcA.sl rfl (.inr rfl) | exact SrcA.sl rfl (.inl rfl) | exact SrcA.ownW rfl rfl rfl rfl) rfl rfl rfl rfl rfl rfl rfl rfl (guardF_spec rfl) ?_ | refine goB ?_ | ((fail_if_success refine ARun.plain rfl ?_); refine ARun.fork rfl rfl rfl (fun h => ?_) (fun h => ?_)) | refine awp_cond rfl (fun h => ?_) (fun h => ?_)))
      refine ⟨(k + 1, _), ⟨⟨rfl, rfl, rfl, succI k, trivial⟩, ⟨rfl, rfl, trivial⟩, Nat.le_refl _⟩, ⟨hlt, ?_⟩, (by dsimp only; omega)⟩
      dsimp only
      rw [e1, e2, hA, h3, h4]
     ·have d4 : (!((ByteArray.mk pb.toArray).toList == (ByteArray.mk qb.toArray).toList)) = true := by rw [bs_eq]; simp [h4]
      rw [hne _ _ hp hq (by simp [h4])]
      (repeat' (first | refine goA ?_ | refine ARun.indexAddr rfl rfl (by omega) (by first | with_reducible exact get_map hp | with_reducible exact get_map hq) rfl rfl rfl rfl rfl (guardF_spec rfl) ?_ | refine ARun.bytesStr (by first | exact SrcA.sl rfl (.inr rfl) | exact SrcA.sl rfl (.inl rfl) | exact SrcA.ownW rfl rfl rfl rfl) rfl rfl rfl rfl rfl rfl rfl rfl (guardF_spec rfl) ?_ | refine goB ?_ | ((fail_if_success refine ARun.plain rfl ?_); refine ARun.fork rfl rfl rfl (fun h => ?_) (fun h => ?_)) | refine awp_cond rfl (fun h => ?_) (fun h => ?_)))
      (refine awp_ret ⟨_, ResL.cons (ResA.tmp (.val _)) .nil, rfl⟩)
    ·have d3 : (pa != qa) = true := by simp [h3]
     rw [hne _ _ hp hq (by simp [h3])]
     (repeat' (first | refine goA ?_ | refine ARun.indexAddr rfl rfl (by omega) (by first | with_reducible exact get_map hp | with_reducible exact get_map hq) rfl rfl rfl rfl rfl (guardF_spec rfl) ?_ | refine ARun.bytesStr (by first | exact SrcA.sl rfl (.inr rfl) | exact SrcA.sl rfl (.inl rfl) | exact SrcA.ownW rfl rfl rfl rfl) rfl rfl rfl rfl rfl rfl rfl rfl (guardF_spec rfl) ?_ | refine goB ?_ | ((fail_if_success refine ARun.plain rfl ?_); refine ARun.fork rfl rfl rfl (fun h => ?_) (fun h => ?_)) | refine awp_cond rfl (fun h => ?_) (fun h => ?_)))
     (refine awp_ret ⟨_, ResL.cons (ResA.tmp (.val _)) .nil, rfl⟩)
   ·have hkk : k = a.old.length := by omega
    subst hkk
    have hc : decide (((a.old.length : Nat) : Int) < (((a.old.map encP).length : Nat) : Int)) = false := by simp
    rw [List.take_length, h2, List.take_length] at hA
    rw [sameM_yes ⟨h1, hA⟩]
    (repeat' (first | refine goA ?_ | refine goB ?_ | ((fail_if_success refine ARun.plain rfl ?_); refine ARun.fork rfl rfl rfl (fun h => ?_) (fun h => ?_)) | refine awp_cond rfl (fun h => ?_) (fun h => ?_)))
    (refine awp_ret ⟨_, ResL.cons (ResA.tmp (.val _)) .nil, rfl⟩)
  ·have d2 : ((((a.old.map encP).length : Nat) : Int) != (((b.old.map encP).length : Nat) : Int)) = true := by simp; omega
   rw [sameM_no (fun h => h2 (by rw [h.2]))]
   (repeat' (first | refine goA ?_ | refine ARun.bytesStr (by first | exact SrcA.sl rfl (.inr rfl) | exact SrcA.sl rfl (.inl rfl) | exact SrcA.ownW rfl rfl rfl rfl) rfl rfl rfl rfl rfl rfl rfl rfl (guardF_spec rfl) ?_ | refine goB ?_ | ((fail_if_success refine ARun.plain rfl ?_); refine ARun.fork rfl rfl rfl (fun h => ?_) (fun h => ?_)) | refine awp_cond rfl (fun h => ?_) (fun h => ?_)))
   (refine awp_ret ⟨_, ResL.cons (ResA.tmp (.val _)) .nil, rfl⟩)
 ·have d1 : (!((ByteArray.mk a.b.toArray).toList == (ByteArray.mk b.b.toArray).toList)) = true := by rw [bs_eq]; simp [h1]
  rw [sameM_no (fun h => h1 h.1)]
  (repeat' (first | refine goA ?_ | refine ARun.bytesStr (by first | exact SrcA.sl rfl (.inr rfl) | exact SrcA.sl rfl (.inl rfl) | exact SrcA.ownW rfl rfl rfl rfl) rfl rfl rfl rfl rfl rfl rfl rfl (guardF_spec rfl) ?_ | refine goB ?_ | ((fail_if_success refine ARun.plain rfl ?_); refine ARun.fork rfl rfl rfl (fun h => ?_) (fun h => ?_)) | refine awp_cond rfl (fun h => ?_) (fun h => ?_)))
  (refine awp_ret ⟨_, ResL.cons (ResA.tmp (.val _)) .nil, rfl⟩)
end Go.Proofs.YthlbcakjngcjbaaGreat.Mem
namespace Go.Proofs.YthlbcakjngcjbaaGreat.Mem
open Go Go.RowKit
set_option maxRecDepth 100000
attribute [local irreducible] Decidable.decide awp ARun regK toK
theorem cellAt_c (m : Mm) (at' : Int) (hl : m.b.length ≤ 1000000) : FnC Tryz.prog 138 [.agg (encM m), .val (.int .i64 at')] (.val (.int .i64 (cellAtD m at'))) := by
 have c1 := there_c m at' 8 hl
 cases ht : thereD m.b.length at' 8 with
 | false =>
  rw [ht] at c1
  rw [show cellAtD m at' = -9 from if_pos ht]
  refine goF Tryz.func138 (closedL_cons (closed_m m) (closedL_cons (.val _) closedL_nil)) (fun w0 st0 => ?_)
  dsimp only [frOf]
  (repeat' (first | refine goA ?_ | refine cX c1 ?_ | refine goB ?_ | ((fail_if_success refine ARun.plain rfl ?_); refine ARun.fork rfl rfl rfl (fun h => ?_) (fun h => ?_)) | refine awp_cond rfl (fun h => ?_) (fun h => ?_)))
  exact awp_ret ⟨_, ResL.cons (ResA.tmp (.val _)) .nil, rfl⟩
 | true =>
  rw [ht] at c1
  have h0 : ¬ thereD m.b.length at' 8 = false := by simp [ht]
  by_cases hm : at'.tmod 8 = 0
  ·have h1 : (at'.tmod 8 != 0) = false := by simp [hm]
   rw [show cellAtD m at' = 0 by unfold cellAtD; rw [if_neg h0, if_neg (by simp [hm])]]
   refine goF Tryz.func138 (closedL_cons (closed_m m) (closedL_cons (.val _) closedL_nil)) (fun w0 st0 => ?_)
   dsimp only [frOf]
   (repeat' (first | refine goA ?_ | refine cX c1 ?_ | refine goB ?_ | ((fail_if_success refine ARun.plain rfl ?_); refine ARun.fork rfl rfl rfl (fun h => ?_) (fun h => ?_)) | refine awp_cond rfl (fun h => ?_) (fun h => ?_)))
   exact awp_ret ⟨_, ResL.cons (ResA.tmp (.val _)) .nil, rfl⟩
  ·have h1 : (at'.tmod 8 != 0) = true := by simp [hm]
   rw [show cellAtD m at' = -23 by unfold cellAtD; rw [if_neg h0, if_pos hm]]
   refine goF Tryz.func138 (closedL_cons (closed_m m) (closedL_cons (.val _) closedL_nil)) (fun w0 st0 => ?_)
   dsimp only [frOf]
   (repeat' (first | refine goA ?_ | refine cX c1 ?_ | refine goB ?_ | ((fail_if_success refine ARun.plain rfl ?_); refine ARun.fork rfl rfl rfl (fun h => ?_) (fun h => ?_)) | refine awp_cond rfl (fun h => ?_) (fun h => ?_)))
   exact awp_ret ⟨_, ResL.cons (ResA.tmp (.val _)) .nil, rfl⟩
end Go.Proofs.YthlbcakjngcjbaaGreat.Mem
namespace Go.Proofs.YthlbcakjngcjbaaGreat.Mem
open Go Go.RowKit
set_option maxRecDepth 100000
attribute [local irreducible] Decidable.decide awp ARun regK toK
def enc2m (r : Mm × Int) : AV := .tup [.agg (encM r.1), .val (.int .i64 r.2)]
def storeD (m : Mm) (at' n : Int) : Mm × Int := if cellAtD m at' ≠ 0 then (m, cellAtD m at') else writeD m at' (putB n)
theorem store_c (m : Mm) (at' n : Int) (hl : m.b.length ≤ 1000000) (ho : m.old.length ≤ 1000000) : FnC Tryz.prog 113 [.agg (encM m), .val (.int .i64 at'), .val (.int .i64 n)] (enc2m (storeD m at' n)) := by
 have c1 := cellAt_c m at' hl
 have c2 := put_c n
 have c3 := write_c m at' (putB n) hl ho (by rw [putB_len]; omega)
 by_cases h0 : cellAtD m at' = 0
 ·rw [show storeD m at' n = writeD m at' (putB n) from if_neg (by simp [h0])]
  rw [h0] at c1
  have z : ((0 : Int) != 0) = false := by simp
  refine goF Tryz.func113 (closedL_cons (closed_m m) (closedL_cons (.val _) (closedL_cons (.val _) closedL_nil))) (fun w0 st0 => ?_)
  dsimp only [frOf]
  (repeat' (first | refine goA ?_ | refine cX c1 ?_ | refine cX c2 ?_ | refine cX c3 ?_ | refine goB ?_ | ((fail_if_success refine ARun.plain rfl ?_); refine ARun.fork rfl rfl rfl (fun h => ?_) (fun h => ?_)) | refine awp_cond rfl (fun h => ?_) (fun h => ?_)))
  exact awp_ret ⟨_, (ResL.cons (ResA.agg rfl rfl rfl rfl rfl rfl rfl (RL.cons (.closed _ (closed_bs _)) (RL.cons (.closed _ (closed_map encP_closed)) (RL.nil _)))) (ResL.cons (ResA.tmp (.val _)) .nil)), rfl⟩
 ·rw [show storeD m at' n = (m, cellAtD m at') from if_pos h0]
  have z : (cellAtD m at' != 0) = true := by simp [h0]
  refine goF Tryz.func113 (closedL_cons (closed_m m) (closedL_cons (.val _) (closedL_cons (.val _) closedL_nil))) (fun w0 st0 => ?_)
  dsimp only [frOf]
  (repeat' (first | refine goA ?_ | refine cX c1 ?_ | refine goB ?_ | ((fail_if_success refine ARun.plain rfl ?_); refine ARun.fork rfl rfl rfl (fun h => ?_) (fun h => ?_)) | refine awp_cond rfl (fun h => ?_) (fun h => ?_)))
  exact awp_ret ⟨_, (ResL.cons (ResA.agg rfl rfl rfl rfl rfl rfl rfl (RL.cons (.closed _ (closed_bs _)) (RL.cons (.closed _ (closed_map encP_closed)) (RL.nil _)))) (ResL.cons (ResA.tmp (.val _)) .nil)), rfl⟩
theorem ref_store_c (m : Mm) (at' n : Int) (hl : m.b.length ≤ 1000000) (ho : m.old.length ≤ 1000000) : FnC Tryz.prog 116 [.agg (encM m), .val (.int .i64 at'), .val (.int .i64 n)] (enc2m (storeD m at' n)) := by
 have c1 := ref_cellAt_c m at' hl
 have c2 := ref_put_c n
 have c3 := ref_write_c m at' (putB n) hl ho (by rw [putB_len]; omega)
 by_cases h0 : cellAtD m at' = 0
 ·rw [show storeD m at' n = writeD m at' (putB n) from if_neg (by simp [h0])]
  rw [h0] at c1
  have z : ((0 : Int) != 0) = false := by simp
  refine goF Tryz.func116 (closedL_cons (closed_m m) (closedL_cons (.val _) (closedL_cons (.val _) closedL_nil))) (fun w0 st0 => ?_)
  dsimp only [frOf]
  (repeat' (first | refine goA ?_ | refine cX c1 ?_ | refine cX c2 ?_ | refine cX c3 ?_ | refine goB ?_ | ((fail_if_success refine ARun.plain rfl ?_); refine ARun.fork rfl rfl rfl (fun h => ?_) (fun h => ?_)) | refine awp_cond rfl (fun h => ?_) (fun h => ?_)))
  exact awp_ret ⟨_, (ResL.cons (ResA.agg rfl rfl rfl rfl rfl rfl rfl (RL.cons (.closed _ (closed_bs _)) (RL.cons (.closed _ (closed_map encP_closed)) (RL.nil _)))) (ResL.cons (ResA.tmp (.val _)) .nil)), rfl⟩
 ·rw [show storeD m at' n = (m, cellAtD m at') from if_pos h0]
  have z : (cellAtD m at' != 0) = true := by simp [h0]
  refine goF Tryz.func116 (closedL_cons (closed_m m) (closedL_cons (.val _) (closedL_cons (.val _) closedL_nil))) (fun w0 st0 => ?_)
  dsimp only [frOf]
  (repeat' (first | refine goA ?_ | refine cX c1 ?_ | refine goB ?_ | ((fail_if_success refine ARun.plain rfl ?_); refine ARun.fork rfl rfl rfl (fun h => ?_) (fun h => ?_)) | refine awp_cond rfl (fun h => ?_) (fun h => ?_)))
  exact awp_ret ⟨_, (ResL.cons (ResA.agg rfl rfl rfl rfl rfl rfl rfl (RL.cons (.closed _ (closed_bs _)) (RL.cons (.closed _ (closed_map encP_closed)) (RL.nil _)))) (ResL.cons (ResA.tmp (.val _)) .nil)), rfl⟩
def freeD (m : Mm) : Mm := ⟨m.b, []⟩
end Go.Proofs.YthlbcakjngcjbaaGreat.Mem
namespace Go.Proofs.YthlbcakjngcjbaaGreat.Mem
open Go Go.RowKit
set_option maxRecDepth 100000
attribute [local irreducible] Decidable.decide awp ARun regK toK
def newD (n : Int) : Mm × Int := if n < 8 ∨ 65536 < n ∨ n.tmod 8 ≠ 0 then (⟨[], []⟩, -24) else (⟨List.replicate n.toNat 0, []⟩, 0)
set_option maxHeartbeats 4000000 in
theorem right_c (m : Mm) (hl : m.b.length ≤ 1000000) (ho : m.old.length ≤ 1000000) : FnC Tryz.prog 85 [.agg (encM m)] (.val (.bool (rightM m))) := by
 refine goF Tryz.func85 (closedL_cons (closed_m m) closedL_nil) (fun w0 st0 => ?_)
 dsimp only [frOf]
 (repeat' (first | refine goA ?_ | refine goB ?_ | ((fail_if_success refine ARun.plain rfl ?_); refine ARun.fork rfl rfl rfl (fun h => ?_) (fun h => ?_)) | refine awp_cond rfl (fun h => ?_) (fun h => ?_)))
 refine awp_loopT (T := Nat × Nat) (fun t => ⟨[(8, .val (.int .i64 (t.1 : Nat))), (7, .val (.int .i64 (((m.old.map encP).length : Nat)))), (6, .sl 2 false (m.old.map encP)), (1, .ptr 1 0 0 0)], [(1, some ⟨0, 2, [encM m]⟩)], t.2⟩) (fun t => t.1 ≤ m.old.length ∧ ∀ (j : Nat) (p : Pt), j < t.1 → m.old[j]? = some p → thereD m.b.length p.1 p.2.length = true) (fun t => m.old.length - t.1) (0, _) ⟨Nat.zero_le _, fun j p hj => absurd hj (Nat.not_lt_zero j)⟩ ⟨⟨rfl, rfl, rfl, rfl, trivial⟩, ⟨rfl, trivial⟩, Nat.le_refl _⟩ (fun t ht => ?_)
 obtain ⟨k, gc⟩ := t
 obtain ⟨hk, hA⟩ := ht
 dsimp only at hk hA ⊢
 by_cases hlt : k < m.old.length
 ·have hp : m.old[k]? = some m.old[k] := List.getElem?_eq_getElem hlt
  have hmem : m.old[k] ∈ m.old := List.getElem_mem hlt
  have hc : decide (((k : Nat) : Int) < (((m.old.map encP).length : Nat) : Int)) = true := by simp; omega
  generalize m.old[k] = p at hp hmem
  obtain ⟨pa, pb⟩ := p
  have c1 := there_c m pa (((pb.map encB).length : Nat) : Int) hl
  have e0 : (((pb.map encB).length : Nat) : Int) = (pb.length : Int) := by rw [List.length_map]
  cases ht : thereD m.b.length pa (((pb.map encB).length : Nat) : Int) with
  | false =>
   rw [ht] at c1
   rw [e0] at ht
   rw [rightM_no (fun h => by have := h.1 _ hmem; rw [ht] at this; cases this)]
   (repeat' (first | refine goA ?_ | refine ARun.indexAddr rfl rfl (by omega) (by first | with_reducible exact get_map hp | with_reducible exact get_map hp) rfl rfl rfl rfl rfl (guardF_spec rfl) ?_ | refine cX c1 ?_ | refine goB ?_ | ((fail_if_success refine ARun.plain rfl ?_); refine ARun.fork rfl rfl rfl (fun h => ?_) (fun h => ?_)) | refine awp_cond rfl (fun h => ?_) (fun h => ?_)))
   exact awp_ret ⟨_, ResL.cons (ResA.tmp (.val _)) .nil, rfl⟩
  | true =>
   rw [ht] at c1
   rw [e0] at ht
   (repeat' (first | refine goA ?_ | refine ARun.indexAddr rfl rfl (by omega) (by first | with_reducible exact get_map hp | with_reducible exact get_map hp) rfl rfl rfl rfl rfl (guardF_spec rfl) ?_ | refine cX c1 ?_ | refine goB ?_ | ((fail_if_success refine ARun.plain rfl ?_); refine ARun.fork rfl rfl rfl (fun h => ?_) (fun h => ?_)) | refine awp_cond rfl (fun h => ?_) (fun h => ?_)))
   refine ⟨(k + 1, _), ⟨⟨succI k, rfl, rfl, rfl, trivial⟩, ⟨rfl, trivial⟩, Nat.le_refl _⟩, ⟨hlt, fun j p hj hjp => ?_⟩, (by dsimp only; omega)⟩
   by_cases hjk : j = k
   ·subst hjk
    rw [hp] at hjp
    obtain rfl := Option.some.inj hjp
    exact ht
   ·exact hA j p (by simp only at hj; omega) hjp
 ·have hkk : k = m.old.length := by omega
  subst hkk
  have hc : decide (((m.old.length : Nat) : Int) < (((m.old.map encP).length : Nat) : Int)) = false := by simp
  have hall : ∀ p, p ∈ m.old → thereD m.b.length p.1 p.2.length = true := fun p hp => by
   obtain ⟨j, hj⟩ := List.getElem?_of_mem hp
   exact hA j p (List.getElem?_eq_some_iff.1 hj).1 hj
  have e1 : (((m.b.map encB).length : Nat) : Int).tmod 8 = ((m.b.length % 8 : Nat) : Int) := by rw [List.length_map, Int.tmod_eq_emod_of_nonneg (by omega)]; omega
  by_cases h1 : m.b.length ≤ 65536
  ·have d1 : decide ((((m.b.map encB).length : Nat) : Int) ≤ 65536) = true := by simp; omega
   by_cases h2 : m.b.length % 8 = 0
   ·have d2 : ((((m.b.map encB).length : Nat) : Int).tmod 8 == 0) = true := by rw [e1, h2]; simp
    rw [rightM_yes ⟨hall, h1, h2⟩]
    (repeat' (first | refine goA ?_ | refine goB ?_ | ((fail_if_success refine ARun.plain rfl ?_); refine ARun.fork rfl rfl rfl (fun h => ?_) (fun h => ?_)) | refine awp_cond rfl (fun h => ?_) (fun h => ?_)))
    refine awp_ret ⟨_, ResL.cons (ResA.tmp (.val _)) .nil, congrArg (fun b => AV.val (.bool b)) d2.symm⟩
   ·have d2 : ((((m.b.map encB).length : Nat) : Int).tmod 8 == 0) = false := by rw [e1, beq_eq_false_iff_ne]; omega
    rw [rightM_no (fun h => h2 h.2.2)]
    (repeat' (first | refine goA ?_ | refine goB ?_ | ((fail_if_success refine ARun.plain rfl ?_); refine ARun.fork rfl rfl rfl (fun h => ?_) (fun h => ?_)) | refine awp_cond rfl (fun h => ?_) (fun h => ?_)))
    refine awp_ret ⟨_, ResL.cons (ResA.tmp (.val _)) .nil, congrArg (fun b => AV.val (.bool b)) d2.symm⟩
  ·have d1 : decide ((((m.b.map encB).length : Nat) : Int) ≤ 65536) = false := by simp; omega
   rw [rightM_no (fun h => h1 h.2.1)]
   (repeat' (first | refine goA ?_ | refine goB ?_ | ((fail_if_success refine ARun.plain rfl ?_); refine ARun.fork rfl rfl rfl (fun h => ?_) (fun h => ?_)) | refine awp_cond rfl (fun h => ?_) (fun h => ?_)))
   exact awp_ret ⟨_, ResL.cons (ResA.tmp (.val _)) .nil, rfl⟩
theorem bequal_c (l l' : List UInt8) : FnC Tryz.prog 100 [encBs l, encBs l'] (.val (.bool (decide (l = l')))) := by
 refine goF Tryz.func100 (closedL_cons (closed_bs l) (closedL_cons (closed_bs l') closedL_nil)) (fun w0 st0 => ?_)
 dsimp only [frOf]
 (repeat' (first | refine goA ?_ | refine ARun.bytesStr (by first | exact SrcA.sl rfl (.inr rfl) | exact SrcA.sl rfl (.inl rfl) | exact SrcA.ownW rfl rfl rfl rfl) rfl rfl rfl rfl rfl rfl rfl rfl (guardF_spec rfl) ?_ | refine goB ?_ | ((fail_if_success refine ARun.plain rfl ?_); refine ARun.fork rfl rfl rfl (fun h => ?_) (fun h => ?_)) | refine awp_cond rfl (fun h => ?_) (fun h => ?_)))
 exact awp_ret ⟨_, ResL.cons (ResA.tmp (.val _)) .nil, congrArg (fun b => AV.val (.bool b)) (bs_eq l l').symm⟩
theorem patch_c (p q : Pt) : FnC Tryz.prog 134 [.agg (encP p), .agg (encP q)] (.val (.bool (decide (p = q)))) := by
 have c1 := bequal_c p.2 q.2
 by_cases h1 : p.1 = q.1
 ·have d1 : (p.1 == q.1) = true := by simp [h1]
  rw [show decide (p = q) = decide (p.2 = q.2) by rw [Bool.eq_iff_iff, decide_eq_true_eq, decide_eq_true_eq, Prod.ext_iff]; simp [h1]]
  refine goF Tryz.func134 (closedL_cons (.agg (encP_closed p)) (closedL_cons (.agg (encP_closed q)) closedL_nil)) (fun w0 st0 => ?_)
  dsimp only [frOf]
  (repeat' (first | refine goA ?_ | refine cX c1 ?_ | refine goB ?_ | ((fail_if_success refine ARun.plain rfl ?_); refine ARun.fork rfl rfl rfl (fun h => ?_) (fun h => ?_)) | refine awp_cond rfl (fun h => ?_) (fun h => ?_)))
  exact awp_ret ⟨_, ResL.cons (ResA.tmp (.val _)) .nil, rfl⟩
 ·have d1 : (p.1 == q.1) = false := by simp [h1]
  rw [show decide (p = q) = false from decide_eq_false (fun h => h1 (by rw [h]))]
  refine goF Tryz.func134 (closedL_cons (.agg (encP_closed p)) (closedL_cons (.agg (encP_closed q)) closedL_nil)) (fun w0 st0 => ?_)
  dsimp only [frOf]
  (repeat' (first | refine goA ?_ | refine cX c1 ?_ | refine goB ?_ | ((fail_if_success refine ARun.plain rfl ?_); refine ARun.fork rfl rfl rfl (fun h => ?_) (fun h => ?_)) | refine awp_cond rfl (fun h => ?_) (fun h => ?_)))
  exact awp_ret ⟨_, ResL.cons (ResA.tmp (.val _)) .nil, rfl⟩
set_option maxHeartbeats 4000000 in
theorem eqfunc_c (a b : List Pt) (hla : a.length ≤ 1000000) (hlb : b.length ≤ 1000000) : FnC Tryz.prog 135 [.sl 2 false (a.map encP), .sl 2 false (b.map encP), .val (.func (.func 134) #[] #[])] (.val (.bool (decide (a = b)))) := by
 by_cases hl : a.length = b.length
 ·have d1 : ((((a.map encP).length : Nat) : Int) != (((b.map encP).length : Nat) : Int)) = false := by simp [hl]
  refine goF Tryz.func135 (closedL_cons (closed_map encP_closed) (closedL_cons (closed_map encP_closed) (closedL_cons (.val _) closedL_nil))) (fun w0 st0 => ?_)
  dsimp only [frOf]
  (repeat' (first | refine goA ?_ | refine goB ?_ | ((fail_if_success refine ARun.plain rfl ?_); refine ARun.fork rfl rfl rfl (fun h => ?_) (fun h => ?_)) | refine awp_cond rfl (fun h => ?_) (fun h => ?_)))
  refine awp_loopT (T := Nat × Nat) (fun t => ⟨[(17, .val (.int .i64 (t.1 : Nat))), (16, .val (.int .i64 (((a.map encP).length : Nat)))), (15, .sl 2 false (a.map encP)), (1, .sl 2 false (b.map encP)), (2, .val (.func (.func 134) #[] #[]))], [], t.2⟩) (fun t => t.1 ≤ a.length ∧ a.take t.1 = b.take t.1) (fun t => a.length - t.1) (0, _) ⟨Nat.zero_le _, rfl⟩ ⟨⟨rfl, rfl, rfl, rfl, rfl, trivial⟩, trivial, Nat.le_refl _⟩ (fun t ht => ?_)
  obtain ⟨k, gc⟩ := t
  obtain ⟨hk, hA⟩ := ht
  dsimp only at hk hA ⊢
  clear d1
  by_cases hlt : k < a.length
  ·have hp : a[k]? = some a[k] := List.getElem?_eq_getElem hlt
   have hq : b[k]? = some b[k] := List.getElem?_eq_getElem (by omega)
   have hc : decide (((k : Nat) : Int) < (((a.map encP).length : Nat) : Int)) = true := by simp; omega
   have e1 := take_succ' hp
   have e2 := take_succ' hq
   have hne : ∀ x y, a[k]? = some x → b[k]? = some y → x ≠ y → decide (a = b) = false := fun x y hx hy hxy => decide_eq_false (fun h => hxy (by rw [h, hy] at hx; exact (Option.some.inj hx).symm))
   generalize a[k] = p at hp e1
   generalize b[k] = q at hq e2
   have c1 := patch_c p q
   by_cases h3 : p = q
   ·rw [decide_eq_true h3] at c1
    (repeat' (first | refine goA ?_ | refine ARun.indexAddr rfl rfl (by omega) (by first | with_reducible exact get_map hp | with_reducible exact get_map hq) rfl rfl rfl rfl rfl (guardF_spec rfl) ?_ | refine cX c1 ?_ | refine goB ?_ | ((fail_if_success refine ARun.plain rfl ?_); refine ARun.fork rfl rfl rfl (fun h => ?_) (fun h => ?_)) | refine awp_cond rfl (fun h => ?_) (fun h => ?_)))
    refine ⟨(k + 1, _), ⟨⟨succI k, rfl, rfl, rfl, rfl, trivial⟩, trivial, Nat.le_refl _⟩, ⟨hlt, ?_⟩, (by dsimp only; omega)⟩
    dsimp only
    rw [e1, e2, hA, h3]
   ·rw [decide_eq_false h3] at c1
    rw [hne _ _ hp hq h3]
    (repeat' (first | refine goA ?_ | refine ARun.indexAddr rfl rfl (by omega) (by first | with_reducible exact get_map hp | with_reducible exact get_map hq) rfl rfl rfl rfl rfl (guardF_spec rfl) ?_ | refine cX c1 ?_ | refine goB ?_ | ((fail_if_success refine ARun.plain rfl ?_); refine ARun.fork rfl rfl rfl (fun h => ?_) (fun h => ?_)) | refine awp_cond rfl (fun h => ?_) (fun h => ?_)))
    exact awp_ret ⟨_, ResL.cons (ResA.tmp (.val _)) .nil, rfl⟩
  ·have hkk : k = a.length := by omega
   subst hkk
   have hc : decide (((a.length : Nat) : Int) < (((a.map encP).length : Nat) : Int)) = false := by simp
   rw [List.take_length, hl, List.take_length] at hA
   rw [decide_eq_true hA]
   (repeat' (first | refine goA ?_ | refine goB ?_ | ((fail_if_success refine ARun.plain rfl ?_); refine ARun.fork rfl rfl rfl (fun h => ?_) (fun h => ?_)) | refine awp_cond rfl (fun h => ?_) (fun h => ?_)))
   exact awp_ret ⟨_, ResL.cons (ResA.tmp (.val _)) .nil, rfl⟩
 ·have d1 : ((((a.map encP).length : Nat) : Int) != (((b.map encP).length : Nat) : Int)) = true := by simp; omega
  rw [show decide (a = b) = false from decide_eq_false (fun h => hl (by rw [h]))]
  refine goF Tryz.func135 (closedL_cons (closed_map encP_closed) (closedL_cons (closed_map encP_closed) (closedL_cons (.val _) closedL_nil))) (fun w0 st0 => ?_)
  dsimp only [frOf]
  (repeat' (first | refine goA ?_ | refine goB ?_ | ((fail_if_success refine ARun.plain rfl ?_); refine ARun.fork rfl rfl rfl (fun h => ?_) (fun h => ?_)) | refine awp_cond rfl (fun h => ?_) (fun h => ?_)))
  exact awp_ret ⟨_, ResL.cons (ResA.tmp (.val _)) .nil, rfl⟩
theorem same_c (a b : Mm) (hla : a.old.length ≤ 1000000) (hlb : b.old.length ≤ 1000000) : FnC Tryz.prog 96 [.agg (encM a), .agg (encM b)] (.val (.bool (sameM a b))) := by
 have c1 := bequal_c a.b b.b
 have c2 := eqfunc_c a.old b.old hla hlb
 by_cases h1 : a.b = b.b
 ·rw [decide_eq_true h1] at c1
  rw [show sameM a b = decide (a.old = b.old) by
   by_cases h2 : a.old = b.old
   ·rw [sameM_yes ⟨h1, h2⟩, decide_eq_true h2]
   ·rw [sameM_no (fun h => h2 h.2), decide_eq_false h2]]
  refine goF Tryz.func96 (closedL_cons (closed_m a) (closedL_cons (closed_m b) closedL_nil)) (fun w0 st0 => ?_)
  dsimp only [frOf]
  (repeat' (first | refine goA ?_ | refine cX c1 ?_ | refine cX c2 ?_ | refine goB ?_ | ((fail_if_success refine ARun.plain rfl ?_); refine ARun.fork rfl rfl rfl (fun h => ?_) (fun h => ?_)) | refine awp_cond rfl (fun h => ?_) (fun h => ?_)))
  exact awp_ret ⟨_, ResL.cons (ResA.tmp (.val _)) .nil, rfl⟩
 ·rw [decide_eq_false h1] at c1
  rw [sameM_no (fun h => h1 h.1)]
  refine goF Tryz.func96 (closedL_cons (closed_m a) (closedL_cons (closed_m b) closedL_nil)) (fun w0 st0 => ?_)
  dsimp only [frOf]
  (repeat' (first | refine goA ?_ | refine cX c1 ?_ | refine cX c2 ?_ | refine goB ?_ | ((fail_if_success refine ARun.plain rfl ?_); refine ARun.fork rfl rfl rfl (fun h => ?_) (fun h => ?_)) | refine awp_cond rfl (fun h => ?_) (fun h => ?_)))
  exact awp_ret ⟨_, ResL.cons (ResA.tmp (.val _)) .nil, rfl⟩
end Go.Proofs.YthlbcakjngcjbaaGreat.Mem
