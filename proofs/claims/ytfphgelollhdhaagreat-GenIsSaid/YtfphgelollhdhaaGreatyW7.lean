/- yM6, yM7, yP1, yP2, yP3. -/
import Derived.Test.YtfphgelollhdhaaGreatW1
import Derived.Test.YtfphgelollhdhaaGreatW2
import Derived.Test.YtfphgelollhdhaaGreatW3
import Derived.Test.YtfphgelollhdhaaGreatW4
import Derived.Test.YtfphgelollhdhaaGreatyW5
import Derived.Test.YtfphgelollhdhaaGreatyW6
set_option linter.unusedVariables false
set_option linter.unusedSimpArgs false
namespace Go.Proofs.YtfphgelollhdhaaGreat.Mem
open Go Go.RowKit
set_option maxRecDepth 100000
attribute [local irreducible] Decidable.decide awp ARun regK toK
def cellAtD (m : Mm) (at' : Int) : Int := if thereD m.b.length at' 8 = false then -9 else if at'.tmod 8 ≠ 0 then -23 else 0
theorem ref_cellAt_c (m : Mm) (at' : Int) (hl : m.b.length ≤ 1000000) : FnC Tryz.prog 21 [.agg (encM m), .val (.int .i64 at')] (.val (.int .i64 (cellAtD m at'))) := by
 have c1 := ref_there_c m at' 8 hl
 cases ht : thereD m.b.length at' 8 with
 | false =>
  rw [ht] at c1
  rw [show cellAtD m at' = -9 from if_pos ht]
  refine goF Tryz.func21 (closedL_cons (closed_m m) (closedL_cons (.val _) closedL_nil)) (fun w0 st0 => ?_)
  dsimp only [frOf]
  (repeat' (first | refine goA ?_ | refine cX c1 ?_ | refine goB ?_ | ((fail_if_success refine ARun.plain rfl ?_); refine ARun.fork rfl rfl rfl (fun h => ?_) (fun h => ?_)) | refine awp_cond rfl (fun h => ?_) (fun h => ?_)))
  (refine awp_ret ⟨_, ResL.cons (ResA.tmp (.val _)) .nil, rfl⟩)
 | true =>
  rw [ht] at c1
  have h0 : ¬ thereD m.b.length at' 8 = false := by simp [ht]
  by_cases hm : at'.tmod 8 = 0
  ·have h1 : (at'.tmod 8 != 0) = false := by simp [hm]
   rw [show cellAtD m at' = 0 by unfold cellAtD; rw [if_neg h0, if_neg (by simp [hm])]]
   refine goF Tryz.func21 (closedL_cons (closed_m m) (closedL_cons (.val _) closedL_nil)) (fun w0 st0 => ?_)
   dsimp only [frOf]
   (repeat' (first | refine goA ?_ | refine cX c1 ?_ | refine goB ?_ | ((fail_if_success refine ARun.plain rfl ?_); refine ARun.fork rfl rfl rfl (fun h => ?_) (fun h => ?_)) | refine awp_cond rfl (fun h => ?_) (fun h => ?_)))
   (refine awp_ret ⟨_, ResL.cons (ResA.tmp (.val _)) .nil, rfl⟩)
  ·have h1 : (at'.tmod 8 != 0) = true := by simp [hm]
   rw [show cellAtD m at' = -23 by unfold cellAtD; rw [if_neg h0, if_pos hm]]
   refine goF Tryz.func21 (closedL_cons (closed_m m) (closedL_cons (.val _) closedL_nil)) (fun w0 st0 => ?_)
   dsimp only [frOf]
   (repeat' (first | refine goA ?_ | refine cX c1 ?_ | refine goB ?_ | ((fail_if_success refine ARun.plain rfl ?_); refine ARun.fork rfl rfl rfl (fun h => ?_) (fun h => ?_)) | refine awp_cond rfl (fun h => ?_) (fun h => ?_)))
   (refine awp_ret ⟨_, ResL.cons (ResA.tmp (.val _)) .nil, rfl⟩)
def fetchD (m : Mm) (at' : Int) : Int × Int := if cellAtD m at' ≠ 0 then (0, cellAtD m at') else ((getD (partD m.b at' 8)).1, 0)
theorem cellAt_there {m : Mm} {at' : Int} (h : cellAtD m at' = 0) : thereD m.b.length at' 8 = true ∧ at'.tmod 8 = 0 := by
 unfold cellAtD at h
 split at h
 ·omega
 ·rename_i h1
  split at h
  ·omega
  ·rename_i h2
   exact ⟨by simpa using h1, by simpa using h2⟩
theorem ref_fetch_c (m : Mm) (at' : Int) (hl : m.b.length ≤ 1000000) : FnC Tryz.prog 9 [.agg (encM m), .val (.int .i64 at')] (.tup [.val (.int .i64 (fetchD m at').1), .val (.int .i64 (fetchD m at').2)]) := by
 have c1 := ref_cellAt_c m at' hl
 by_cases h0 : cellAtD m at' = 0
 ·rw [show fetchD m at' = ((getD (partD m.b at' 8)).1, 0) from if_neg (by simp [h0])]
  rw [h0] at c1
  have z : ((0 : Int) != 0) = false := by simp
  obtain ⟨ht, _⟩ := cellAt_there h0
  have h4 := there_yes ht (by omega)
  obtain ⟨a, rfl⟩ : ∃ a : Nat, at' = (a : Int) := ⟨at'.toNat, by omega⟩
  have hs := split3 encB m.b a 8
  have hp1 : ((m.b.take a).map encB).length = a := by simp; omega
  have hp2 : (((m.b.drop a).take 8).map encB).length = 8 := by simp; omega
  have c2 := ref_get_c ((m.b.drop a).take 8) (by simp; omega)
  refine goF Tryz.func9 (closedL_cons (closed_m m) (closedL_cons (.val _) closedL_nil)) (fun w0 st0 => ?_)
  dsimp only [frOf]
  (repeat' (first | refine goA ?_ | refine cX c1 ?_ | refine cX c2 ?_ | refine ARun.sliceMid rfl (by first | assumption | rfl) rfl lensT rfl lensT rfl rfl rfl rfl rfl (guardF_spec rfl) ?_ | refine goB ?_ | ((fail_if_success refine ARun.plain rfl ?_); refine ARun.fork rfl rfl rfl (fun h => ?_) (fun h => ?_)) | refine awp_cond rfl (fun h => ?_) (fun h => ?_)))
  refine awp_ret ⟨_, ResL.cons (ResA.tmp (.val _)) (ResL.cons (ResA.tmp (.val _)) .nil), rfl⟩
 ·rw [show fetchD m at' = (0, cellAtD m at') from if_pos h0]
  have z : (cellAtD m at' != 0) = true := by simp [h0]
  refine goF Tryz.func9 (closedL_cons (closed_m m) (closedL_cons (.val _) closedL_nil)) (fun w0 st0 => ?_)
  dsimp only [frOf]
  (repeat' (first | refine goA ?_ | refine cX c1 ?_ | refine goB ?_ | ((fail_if_success refine ARun.plain rfl ?_); refine ARun.fork rfl rfl rfl (fun h => ?_) (fun h => ?_)) | refine awp_cond rfl (fun h => ?_) (fun h => ?_)))
  refine awp_ret ⟨_, ResL.cons (ResA.tmp (.val _)) (ResL.cons (ResA.tmp (.val _)) .nil), rfl⟩
def RightM (m : Mm) : Prop := (∀ p, p ∈ m.old → thereD m.b.length p.1 p.2.length = true) ∧ m.b.length ≤ 65536 ∧ m.b.length % 8 = 0
def FewM (m : Mm) (most : Int) : Prop := (m.b.length : Int) ≤ most ∧ m.old.length ≤ 60 ∧ ∀ p, p ∈ m.old → p.2.length ≤ 200
end Go.Proofs.YtfphgelollhdhaaGreat.Mem
namespace Go.Proofs.YtfphgelollhdhaaGreat.Mem
open Go Go.RowKit
set_option maxRecDepth 100000
attribute [local irreducible] Decidable.decide awp ARun regK toK
def MayM (m : Mm) : Prop := FewM m 600 ∧ RightM m
open Classical in
noncomputable def mayM (m : Mm) : Bool := if MayM m then true else false
theorem bs_eq (l l' : List UInt8) : ((ByteArray.mk l.toArray).toList == (ByteArray.mk l'.toArray).toList) = decide (l = l') := by
 rw [ByteArray.toList_eq, ByteArray.toList_eq]
 show (l == l') = _
 rw [Bool.eq_iff_iff, beq_iff_eq, decide_eq_true_eq]
end Go.Proofs.YtfphgelollhdhaaGreat.Mem
namespace Go.Proofs.YtfphgelollhdhaaGreat.Mem
open Go Go.RowKit
set_option maxRecDepth 100000
attribute [local irreducible] Decidable.decide awp ARun regK toK
end Go.Proofs.YtfphgelollhdhaaGreat.Mem
namespace Go.Proofs.YtfphgelollhdhaaGreat.Mem
open Go Go.RowKit
set_option maxRecDepth 100000
attribute [local irreducible] Decidable.decide awp ARun regK toK
def enc2m (r : Mm × Int) : AV := .tup [.agg (encM r.1), .val (.int .i64 r.2)]
def storeD (m : Mm) (at' n : Int) : Mm × Int := if cellAtD m at' ≠ 0 then (m, cellAtD m at') else writeD m at' (putB n)
theorem ref_store_c (m : Mm) (at' n : Int) (hl : m.b.length ≤ 1000000) (ho : m.old.length ≤ 1000000) : FnC Tryz.prog 75 [.agg (encM m), .val (.int .i64 at'), .val (.int .i64 n)] (enc2m (storeD m at' n)) := by
 have c1 := ref_cellAt_c m at' hl
 have c2 := ref_put_c n
 have c3 := ref_write_c m at' (putB n) hl ho (by rw [putB_len]; omega)
 by_cases h0 : cellAtD m at' = 0
 ·rw [show storeD m at' n = writeD m at' (putB n) from if_neg (by simp [h0])]
  rw [h0] at c1
  have z : ((0 : Int) != 0) = false := by simp
  refine goF Tryz.func75 (closedL_cons (closed_m m) (closedL_cons (.val _) (closedL_cons (.val _) closedL_nil))) (fun w0 st0 => ?_)
  dsimp only [frOf]
  (repeat' (first | refine goA ?_ | refine cX c1 ?_ | refine cX c2 ?_ | refine cX c3 ?_ | refine goB ?_ | ((fail_if_success refine ARun.plain rfl ?_); refine ARun.fork rfl rfl rfl (fun h => ?_) (fun h => ?_)) | refine awp_cond rfl (fun h => ?_) (fun h => ?_)))
  exact awp_ret ⟨_, (ResL.cons (ResA.agg rfl rfl rfl rfl rfl rfl rfl (RL.cons (.closed _ (closed_bs _)) (RL.cons (.closed _ (closed_map encP_closed)) (RL.nil _)))) (ResL.cons (ResA.tmp (.val _)) .nil)), rfl⟩
 ·rw [show storeD m at' n = (m, cellAtD m at') from if_pos h0]
  have z : (cellAtD m at' != 0) = true := by simp [h0]
  refine goF Tryz.func75 (closedL_cons (closed_m m) (closedL_cons (.val _) (closedL_cons (.val _) closedL_nil))) (fun w0 st0 => ?_)
  dsimp only [frOf]
  (repeat' (first | refine goA ?_ | refine cX c1 ?_ | refine goB ?_ | ((fail_if_success refine ARun.plain rfl ?_); refine ARun.fork rfl rfl rfl (fun h => ?_) (fun h => ?_)) | refine awp_cond rfl (fun h => ?_) (fun h => ?_)))
  exact awp_ret ⟨_, (ResL.cons (ResA.agg rfl rfl rfl rfl rfl rfl rfl (RL.cons (.closed _ (closed_bs _)) (RL.cons (.closed _ (closed_map encP_closed)) (RL.nil _)))) (ResL.cons (ResA.tmp (.val _)) .nil)), rfl⟩
def freeD (m : Mm) : Mm := ⟨m.b, []⟩
theorem ref_free_c (m : Mm) : FnC Tryz.prog 17 [.agg (encM m)] (.agg (encM (freeD m))) := by
 refine goF Tryz.func17 (closedL_cons (closed_m m) closedL_nil) (fun w0 st0 => ?_)
 dsimp only [frOf]
 (repeat' (first | refine goA ?_ | refine goB ?_ | ((fail_if_success refine ARun.plain rfl ?_); refine ARun.fork rfl rfl rfl (fun h => ?_) (fun h => ?_)) | refine awp_cond rfl (fun h => ?_) (fun h => ?_)))
 exact awp_ret ⟨_, (ResL.cons (ResA.agg rfl rfl rfl rfl rfl rfl rfl (RL.cons (.closed _ (closed_bs _)) (RL.cons .nilSl (RL.nil _)))) .nil), rfl⟩
end Go.Proofs.YtfphgelollhdhaaGreat.Mem
namespace Go.Proofs.YtfphgelollhdhaaGreat.Mem
open Go Go.RowKit
set_option maxRecDepth 100000
attribute [local irreducible] Decidable.decide awp ARun regK toK
def newD (n : Int) : Mm × Int := if n < 8 ∨ 65536 < n ∨ n.tmod 8 ≠ 0 then (⟨[], []⟩, -24) else (⟨List.replicate n.toNat 0, []⟩, 0)
end Go.Proofs.YtfphgelollhdhaaGreat.Mem
