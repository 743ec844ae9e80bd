/- zN1, zK1, zK2, zK3, zK4. -/
import Derived.Test.YtpkkplojpjakiaaGreatW1
import Derived.Test.YtpkkplojpjakiaaGreatW2
import Derived.Test.YtpkkplojpjakiaaGreatW3
import Derived.Test.YtpkkplojpjakiaaGreatW4
import Derived.Test.YtpkkplojpjakiaaGreatzW5
import Derived.Test.YtpkkplojpjakiaaGreatzW6
import Derived.Test.YtpkkplojpjakiaaGreatzW7
import Derived.Laws.Strings
set_option linter.unusedVariables false
set_option linter.unusedSimpArgs false
namespace Go.Proofs.YtpkkplojpjakiaaGreat.Mem
open Go Go.RowKit
set_option maxRecDepth 100000
attribute [local irreducible] Decidable.decide awp ARun regK toK
theorem left_c (m : Mm) (here : Int) (hl : m.b.length ≤ 1000000) (h0 : 0 ≤ here ∧ here ≤ m.b.length) : FnC Tryz.prog 42 [.agg [encBs m.b, .sl 2 false (m.old.map encP), .val (.int .i64 here)]] (.val (.int .i64 ((((m.b.map encB).length : Nat) : Int) - here))) := by
 refine goF Tryz.func42 (closedL_cons (.agg (closedL_cons (closed_bs _) (closedL_cons (closed_map encP_closed) (closedL_cons (.val _) closedL_nil)))) closedL_nil) (fun w0 st0 => ?_)
 dsimp only [frOf]
 (repeat' (first | refine goA ?_ | refine goB ?_ | ((fail_if_success refine ARun.plain rfl ?_); refine ARun.fork rfl rfl rfl (fun h => ?_) (fun h => ?_)) | refine awp_cond rfl (fun h => ?_) (fun h => ?_)))
 refine awp_ret ⟨_, ResL.cons (ResA.tmp (.val _)) .nil, rfl⟩
def layD (m : Mm) (here : Int) (b : List UInt8) : Mm × Int × Int := if (m.b.length : Int) - here < b.length then (m, here, -8) else ((writeD m here b).1, here + b.length, 0)
def enc3m (r : Mm × Int × Int) : AV := .tup [.agg (encM r.1), .val (.int .i64 r.2.1), .val (.int .i64 r.2.2)]
theorem lay_c (m : Mm) (here : Int) (b : List UInt8) (hl : m.b.length ≤ 1000000) (ho : m.old.length ≤ 1000000) (hb : b.length ≤ 1000000) (h0 : 0 ≤ here ∧ here ≤ m.b.length) : FnC Tryz.prog 21 [.agg (encM m), .val (.int .i64 here), encBs b] (enc3m (layD m here b)) := by
 have c1 := left_c m here hl h0
 have c2 := write_c m here b hl ho hb
 refine goF Tryz.func21 (closedL_cons (closed_m m) (closedL_cons (.val _) (closedL_cons (closed_bs b) closedL_nil))) (fun w0 st0 => ?_)
 dsimp only [frOf]
 (repeat' (first | refine goA ?_ | refine ARun.makeFunc rfl rfl rfl (guardF_spec rfl) ?_ | refine callCX (c1) rfl rfl rfl rfl ?_ | refine cX c2 ?_ | refine goB ?_ | ((fail_if_success refine ARun.plain rfl ?_); refine ARun.fork rfl rfl rfl (fun h => ?_) (fun h => ?_)) | refine awp_cond rfl (fun h => ?_) (fun h => ?_)))
 all_goals (simp only [decide_eq_true_eq, decide_eq_false_iff_not, List.length_map] at *)
 ·rw [show layD m here b = (m, here, -8) from if_pos (by omega)]
  exact awp_ret ⟨_, (ResL.cons (ResA.agg rfl rfl rfl rfl rfl rfl rfl (RL.cons (.closed _ (closed_bs _)) (RL.cons (.closed _ (closed_map encP_closed)) (RL.nil _)))) (ResL.cons (ResA.tmp (.val _)) (ResL.cons (ResA.tmp (.val _)) .nil))), rfl⟩
 ·rw [show layD m here b = ((writeD m here b).1, here + b.length, 0) from if_neg (by omega)]
  refine awp_ret ⟨_, (ResL.cons (ResA.agg rfl rfl rfl rfl rfl rfl rfl (RL.cons (.closed _ (closed_bs _)) (RL.cons (.closed _ (closed_map encP_closed)) (RL.nil _)))) (ResL.cons (ResA.tmp (.val _)) (ResL.cons (ResA.tmp (.val _)) .nil))), ?_⟩
  simp [retAV, enc3m, lkA, encM, encBs]
def commaD (m : Mm) (here n : Int) : Mm × Int × Int := if here.tmod 8 ≠ 0 then (m, here, -23) else layD m here (putB n)
theorem comma_c (m : Mm) (here n : Int) (hl : m.b.length ≤ 1000000) (ho : m.old.length ≤ 1000000) (h0 : 0 ≤ here ∧ here ≤ m.b.length) : FnC Tryz.prog 18 [.agg (encM m), .val (.int .i64 here), .val (.int .i64 n)] (enc3m (commaD m here n)) := by
 have c1 := put_c n
 have c2 := lay_c m here (putB n) hl ho (by rw [putB_len]; omega) h0
 refine goF Tryz.func18 (closedL_cons (closed_m m) (closedL_cons (.val _) (closedL_cons (.val _) closedL_nil))) (fun w0 st0 => ?_)
 dsimp only [frOf]
 by_cases h : here.tmod 8 = 0
 ·have d : (here.tmod 8 != 0) = false := by simp [h]
  rw [show commaD m here n = layD m here (putB n) from if_neg (by simp [h])]
  (repeat' (first | refine goA ?_ | refine cX c1 ?_ | refine cX c2 ?_ | refine goB ?_ | ((fail_if_success refine ARun.plain rfl ?_); refine ARun.fork rfl rfl rfl (fun h => ?_) (fun h => ?_)) | refine awp_cond rfl (fun h => ?_) (fun h => ?_)))
  exact awp_ret ⟨_, (ResL.cons (ResA.agg rfl rfl rfl rfl rfl rfl rfl (RL.cons (.closed _ (closed_bs _)) (RL.cons (.closed _ (closed_map encP_closed)) (RL.nil _)))) (ResL.cons (ResA.tmp (.val _)) (ResL.cons (ResA.tmp (.val _)) .nil))), rfl⟩
 ·have d : (here.tmod 8 != 0) = true := by simp [h]
  rw [show commaD m here n = (m, here, -23) from if_pos h]
  (repeat' (first | refine goA ?_ | refine goB ?_ | ((fail_if_success refine ARun.plain rfl ?_); refine ARun.fork rfl rfl rfl (fun h => ?_) (fun h => ?_)) | refine awp_cond rfl (fun h => ?_) (fun h => ?_)))
  exact awp_ret ⟨_, (ResL.cons (ResA.agg rfl rfl rfl rfl rfl rfl rfl (RL.cons (.closed _ (closed_bs _)) (RL.cons (.closed _ (closed_map encP_closed)) (RL.nil _)))) (ResL.cons (ResA.tmp (.val _)) (ResL.cons (ResA.tmp (.val _)) .nil))), rfl⟩
def padN (here : Int) : Nat := ((8 - here % 8) % 8).toNat
def alignD (m : Mm) (here : Int) : Mm × Int × Int := layD m here (List.replicate (padN here) 0)
theorem clo_rep {n : Nat} : ∀ el x, el ∈ List.replicate n ([Value.int .u8 0].map zv) → x ∈ el → Closed x := fun el x hel hx => by
 rw [(List.mem_replicate.1 hel).2] at hx
 rw [List.mem_singleton.1 hx]
 exact .val _
theorem align_c (m : Mm) (here : Int) (hl : m.b.length ≤ 1000000) (ho : m.old.length ≤ 1000000) (h0 : 0 ≤ here ∧ here ≤ m.b.length) : FnC Tryz.prog 23 [.agg (encM m), .val (.int .i64 here)] (enc3m (alignD m here)) := by
 have hp : padN here ≤ 7 := by unfold padN; omega
 have c2 := lay_c m here (List.replicate (padN here) 0) hl ho (by simp; omega) h0
 have e1 : here.tmod 8 = here % 8 := Int.tmod_eq_emod_of_nonneg h0.1
 have e2 : (8 - here.tmod 8).tmod 8 = ((padN here : Nat) : Int) := by
  rw [e1, Int.tmod_eq_emod_of_nonneg (by omega)]
  unfold padN
  omega
 have e3 : encBs (List.replicate (padN here) 0) = .sl 1 false (List.replicate (padN here) ([Value.int .u8 0].map zv)) := by
  unfold encBs
  rw [List.map_replicate]
  rfl
 rw [e3] at c2
 unfold alignD
 refine goF Tryz.func23 (closedL_cons (closed_m m) (closedL_cons (.val _) closedL_nil)) (fun w0 st0 => ?_)
 dsimp only [frOf]
 generalize hq : padN here = q at *
 (repeat' (first | refine goA ?_ | refine ARun.makeSliceN (n := q) rfl e2 rfl e2 rfl rfl rfl rfl rfl rfl lensT rfl (guardF_spec rfl) lensT ?_ | refine callGX [(13, _)] (c2) (BsOk.cons rfl (by first | exact own_closed_map encB_closed | exact clo_rep) (BsOk.nil _)) rfl fzT rfl rfl ?_ | refine goB ?_ | ((fail_if_success refine ARun.plain rfl ?_); refine ARun.fork rfl rfl rfl (fun h => ?_) (fun h => ?_)) | refine awp_cond rfl (fun h => ?_) (fun h => ?_)))
 exact awp_ret ⟨_, (ResL.cons (ResA.agg rfl rfl rfl rfl rfl rfl rfl (RL.cons (.closed _ (closed_bs _)) (RL.cons (.closed _ (closed_map encP_closed)) (RL.nil _)))) (ResL.cons (ResA.tmp (.val _)) (ResL.cons (ResA.tmp (.val _)) .nil))), rfl⟩
end Go.Proofs.YtpkkplojpjakiaaGreat.Mem
namespace Go.Proofs.YtpkkplojpjakiaaGreat.Dict
open Go Go.RowKit
set_option maxRecDepth 100000
attribute [local irreducible] Decidable.decide awp ARun regK toK
abbrev St (l : List UInt8) : AV := .val (.string ⟨l.toArray⟩)
abbrev Bs := List UInt8
theorem bs_eq (l l' : List UInt8) : ((ByteArray.mk l.toArray).toList == (ByteArray.mk l'.toArray).toList) = decide (l = l') := by
 rw [ByteArray.toList_eq, ByteArray.toList_eq]
 show (l == l') = _
 rw [Bool.eq_iff_iff, beq_iff_eq, decide_eq_true_eq]
def up1 (c : UInt8) : UInt8 := if 97 ≤ c.toNat ∧ c.toNat ≤ 122 then c - 32 else c
def upL (l : Bs) : Bs := l.map up1
end Go.Proofs.YtpkkplojpjakiaaGreat.Dict
namespace Go.Proofs.YtpkkplojpjakiaaGreat.Dict
open Go Go.RowKit
set_option maxRecDepth 100000
attribute [local irreducible] Decidable.decide awp ARun regK toK
def alikeD (a b : Bs) : Bool := decide (upL a = upL b)
end Go.Proofs.YtpkkplojpjakiaaGreat.Dict
namespace Go.Proofs.YtpkkplojpjakiaaGreat.Dict
open Go Go.RowKit
set_option maxRecDepth 100000
structure Wd where
 name : Bs
 xt : Int
 fl : Int
def encW (w : Wd) : List AV := [St w.name, .val (.int .i64 w.xt), .val (.int .i64 w.fl)]
theorem encW_closed (w : Wd) : ∀ x, x ∈ encW w → Closed x := closedL_cons (.val _) (closedL_cons (.val _) (closedL_cons (.val _) closedL_nil))
abbrev encWs (l : List Wd) : AV := .sl 3 false (l.map encW)
theorem closed_ws (l : List Wd) : Closed (encWs l) := closed_map encW_closed
def okName (l : Bs) : Bool := l.all fun c => decide (32 < c.toNat)
def namedD (l : Bs) : Int := if l = [] then -16 else if 31 < l.length then -19 else if okName l = true then 0 else -32
attribute [local irreducible] Decidable.decide awp ARun regK toK
def hidD (w : Wd) : Bool := (w.fl.tdiv 2).tmod 2 == 1
theorem take_all {l : Bs} {i : Nat} {c : UInt8} (h : l[i]? = some c) : okName (l.take (i + 1)) = (okName (l.take i) && decide (32 < c.toNat)) := by
 unfold okName
 rw [take_succ' h, List.all_append]
 simp
end Go.Proofs.YtpkkplojpjakiaaGreat.Dict
namespace Go.Proofs.YtpkkplojpjakiaaGreat.Dict
open Go Go.RowKit
set_option maxRecDepth 100000
attribute [local irreducible] Decidable.decide awp ARun regK toK
def FewW (l : List Wd) (most : Int) : Prop := (l.length : Int) ≤ most ∧ ∀ w, w ∈ l → w.name.length ≤ 60
def OkW (w : Wd) : Prop := namedD w.name = 0 ∧ 0 ≤ w.fl ∧ w.fl ≤ 7
def RightW (l : List Wd) : Prop := (∀ w, w ∈ l → OkW w) ∧ l.length ≤ 1024
def InW (l : List Wd) : Prop := ∀ w, w ∈ l → w.name.length ≤ 1000000 ∧ -9223372036854775808 ≤ w.fl ∧ w.fl ≤ 9223372036854775807
end Go.Proofs.YtpkkplojpjakiaaGreat.Dict
