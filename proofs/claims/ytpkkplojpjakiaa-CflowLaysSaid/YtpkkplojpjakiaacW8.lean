/- cN1, cK1, cK2, cK3, cK4. -/
import Derived.Test.YtpkkplojpjakiaaW1
import Derived.Test.YtpkkplojpjakiaaW2
import Derived.Test.YtpkkplojpjakiaaW3
import Derived.Test.YtpkkplojpjakiaaW4
import Derived.Test.YtpkkplojpjakiaacW5
import Derived.Test.YtpkkplojpjakiaacW6
import Derived.Test.YtpkkplojpjakiaacW7
import Derived.Laws.Strings
/- spc: ends that are moved, and what is laid. -/
namespace Go.Proofs.Ytpkkplojpjakiaa.Mem
set_option linter.unusedVariables false
set_option linter.unusedSimpArgs false
open Go Go.RowKit
set_option maxRecDepth 100000
attribute [local irreducible] Decidable.decide awp ARun regK toK

theorem left_c (m : Mm) (here : Int) (hl : m.b.length ≤ 1000000) (h0 : 0 ≤ here ∧ here ≤ m.b.length) : FnC Try.prog 73 [.agg [encBs m.b, .sl 2 false (m.old.map encP), .val (.int .i64 here)]] (.val (.int .i64 ((((m.b.map encB).length : Nat) : Int) - here))) := by
  refine FnC.of_awp (T := tt) (ok := tok) Try.func73 (by kernel_rfl) rfl (by kernel_rfl) (closedL_cons (.agg (closedL_cons (closed_bs _) (closedL_cons (closed_map encP_closed) (closedL_cons (.val _) closedL_nil)))) closedL_nil) (fun w0 st0 => ?_)
  dsimp only [frOf]
  (repeat' (first | refine awp_seq ?_ | refine awp_block ?_ | refine awp_rg hmix ?_ | refine ARun.o rfl ?_ | ((first | refine ARun.f ?_ | refine awp_skip ?_ | refine awp_exit ?_); dsimp only [thenA, blockA, AS.bump, List.length_cons, List.length_nil, reduceIte, Nat.reduceEqDiff]) | refine awp_cT rfl ?_ | refine awp_cF rfl ?_ | ((fail_if_success refine ARun.plain rfl ?_); first | refine ARun.kT rfl rfl rfl ?_ | refine ARun.kF rfl rfl rfl ?_ | refine ARun.fork rfl rfl rfl (fun h => ?_) (fun h => ?_)) | refine awp_cond rfl (fun h => ?_) (fun h => ?_)))
  refine awp_ret ⟨_, ResL.cons (ResA.tmp (.val _)) .nil, rfl⟩
/-- What is laid. -/
def layD (m : Mm) (here : Int) (b : List UInt8) : Mm × Int × Int := if (m.b.length : Int) - here < b.length then (m, here, -8) else ((writeD m here b).1, here + b.length, 0)
def enc3m (r : Mm × Int × Int) : AV := .tup [.agg (encM r.1), .val (.int .i64 r.2.1), .val (.int .i64 r.2.2)]
theorem lay_c (m : Mm) (here : Int) (b : List UInt8) (hl : m.b.length ≤ 1000000) (ho : m.old.length ≤ 1000000) (hb : b.length ≤ 1000000) (h0 : 0 ≤ here ∧ here ≤ m.b.length) : FnC Try.prog 42 [.agg (encM m), .val (.int .i64 here), encBs b] (enc3m (layD m here b)) := by
  have c1 := left_c m here hl h0
  have c2 := write_c m here b hl ho hb
  refine FnC.of_awp (T := tt) (ok := tok) Try.func42 (by kernel_rfl) rfl (by kernel_rfl) (closedL_cons (closed_m m) (closedL_cons (.val _) (closedL_cons (closed_bs b) closedL_nil))) (fun w0 st0 => ?_)
  dsimp only [frOf]
  (repeat' (first | refine awp_seq ?_ | refine awp_block ?_ | refine awp_rg hmix ?_ | refine ARun.o rfl ?_ | refine ARun.makeFunc rfl rfl rfl (guardF_spec rfl) ?_ | refine callCX (c1) rfl rfl rfl rfl ?_ | refine callX (c2) rfl rfl rfl rfl ?_ | ((first | refine ARun.f ?_ | refine awp_skip ?_ | refine awp_exit ?_); dsimp only [thenA, blockA, AS.bump, List.length_cons, List.length_nil, reduceIte, Nat.reduceEqDiff]) | refine awp_cT rfl ?_ | refine awp_cF rfl ?_ | ((fail_if_success refine ARun.plain rfl ?_); first | refine ARun.kT rfl rfl rfl ?_ | refine ARun.kF rfl rfl rfl ?_ | refine ARun.fork rfl rfl rfl (fun h => ?_) (fun h => ?_)) | refine awp_cond rfl (fun h => ?_) (fun h => ?_)))
  all_goals (simp only [decide_eq_true_eq, decide_eq_false_iff_not, List.length_map] at *)
  · rw [show layD m here b = (m, here, -8) from if_pos (by omega)]
    exact awp_ret ⟨_, (ResL.cons (ResA.agg rfl rfl rfl rfl rfl rfl rfl (RL.cons (.closed _ (closed_bs _)) (RL.cons (.closed _ (closed_map encP_closed)) (RL.nil _)))) (ResL.cons (ResA.tmp (.val _)) (ResL.cons (ResA.tmp (.val _)) .nil))), rfl⟩
  · rw [show layD m here b = ((writeD m here b).1, here + b.length, 0) from if_neg (by omega)]
    refine awp_ret ⟨_, (ResL.cons (ResA.agg rfl rfl rfl rfl rfl rfl rfl (RL.cons (.closed _ (closed_bs _)) (RL.cons (.closed _ (closed_map encP_closed)) (RL.nil _)))) (ResL.cons (ResA.tmp (.val _)) (ResL.cons (ResA.tmp (.val _)) .nil))), ?_⟩
    simp [retAV, enc3m, lkA, encM, encBs]
theorem ref_lay_c (m : Mm) (here : Int) (b : List UInt8) (hl : m.b.length ≤ 1000000) (ho : m.old.length ≤ 1000000) (hb : b.length ≤ 1000000) (h0 : 0 ≤ here ∧ here ≤ m.b.length) : FnC Try.prog 45 [.agg (encM m), .val (.int .i64 here), encBs b] (enc3m (layD m here b)) := by
  have c2 := ref_write_c m here b hl ho hb
  refine FnC.of_awp (T := tt) (ok := tok) Try.func45 (by kernel_rfl) rfl (by kernel_rfl) (closedL_cons (closed_m m) (closedL_cons (.val _) (closedL_cons (closed_bs b) closedL_nil))) (fun w0 st0 => ?_)
  dsimp only [frOf]
  (repeat' (first | refine awp_seq ?_ | refine awp_block ?_ | refine awp_rg hmix ?_ | refine ARun.o rfl ?_ | refine callX (c2) rfl rfl rfl rfl ?_ | ((first | refine ARun.f ?_ | refine awp_skip ?_ | refine awp_exit ?_); dsimp only [thenA, blockA, AS.bump, List.length_cons, List.length_nil, reduceIte, Nat.reduceEqDiff]) | refine awp_cT rfl ?_ | refine awp_cF rfl ?_ | ((fail_if_success refine ARun.plain rfl ?_); first | refine ARun.kT rfl rfl rfl ?_ | refine ARun.kF rfl rfl rfl ?_ | refine ARun.fork rfl rfl rfl (fun h => ?_) (fun h => ?_)) | refine awp_cond rfl (fun h => ?_) (fun h => ?_)))
  all_goals (simp only [decide_eq_true_eq, decide_eq_false_iff_not, List.length_map] at *)
  · rw [show layD m here b = (m, here, -8) from if_pos (by omega)]
    exact awp_ret ⟨_, (ResL.cons (ResA.agg rfl rfl rfl rfl rfl rfl rfl (RL.cons (.closed _ (closed_bs _)) (RL.cons (.closed _ (closed_map encP_closed)) (RL.nil _)))) (ResL.cons (ResA.tmp (.val _)) (ResL.cons (ResA.tmp (.val _)) .nil))), rfl⟩
  · rw [show layD m here b = ((writeD m here b).1, here + b.length, 0) from if_neg (by omega)]
    refine awp_ret ⟨_, (ResL.cons (ResA.agg rfl rfl rfl rfl rfl rfl rfl (RL.cons (.closed _ (closed_bs _)) (RL.cons (.closed _ (closed_map encP_closed)) (RL.nil _)))) (ResL.cons (ResA.tmp (.val _)) (ResL.cons (ResA.tmp (.val _)) .nil))), ?_⟩
    simp [retAV, enc3m, lkA, encM, encBs]
/-- A cell that is laid. -/
def commaD (m : Mm) (here n : Int) : Mm × Int × Int := if here.tmod 8 ≠ 0 then (m, here, -23) else layD m here (putB n)
theorem comma_c (m : Mm) (here n : Int) (hl : m.b.length ≤ 1000000) (ho : m.old.length ≤ 1000000) (h0 : 0 ≤ here ∧ here ≤ m.b.length) : FnC Try.prog 36 [.agg (encM m), .val (.int .i64 here), .val (.int .i64 n)] (enc3m (commaD m here n)) := by
  have c1 := put_c n
  have c2 := lay_c m here (putB n) hl ho (by rw [putB_len]; omega) h0
  refine FnC.of_awp (T := tt) (ok := tok) Try.func36 (by kernel_rfl) rfl (by kernel_rfl) (closedL_cons (closed_m m) (closedL_cons (.val _) (closedL_cons (.val _) closedL_nil))) (fun w0 st0 => ?_)
  dsimp only [frOf]
  by_cases h : here.tmod 8 = 0
  · have d : (here.tmod 8 != 0) = false := by simp [h]
    rw [show commaD m here n = layD m here (putB n) from if_neg (by simp [h])]
    (repeat' (first | refine awp_seq ?_ | refine awp_block ?_ | refine awp_rg hmix ?_ | refine ARun.o rfl ?_ | refine callX (c1) rfl rfl rfl rfl ?_ | refine callX (c2) rfl rfl rfl rfl ?_ | ((first | refine ARun.f ?_ | refine awp_skip ?_ | refine awp_exit ?_); dsimp only [thenA, blockA, AS.bump, List.length_cons, List.length_nil, reduceIte, Nat.reduceEqDiff]) | refine awp_cT rfl ?_ | refine awp_cF rfl ?_ | ((fail_if_success refine ARun.plain rfl ?_); first | refine ARun.kT rfl rfl rfl ?_ | refine ARun.kF rfl rfl rfl ?_ | refine ARun.fork rfl rfl rfl (fun h => ?_) (fun h => ?_)) | refine awp_cond rfl (fun h => ?_) (fun h => ?_)))
    exact awp_ret ⟨_, (ResL.cons (ResA.agg rfl rfl rfl rfl rfl rfl rfl (RL.cons (.closed _ (closed_bs _)) (RL.cons (.closed _ (closed_map encP_closed)) (RL.nil _)))) (ResL.cons (ResA.tmp (.val _)) (ResL.cons (ResA.tmp (.val _)) .nil))), rfl⟩
  · have d : (here.tmod 8 != 0) = true := by simp [h]
    rw [show commaD m here n = (m, here, -23) from if_pos h]
    (repeat' (first | refine awp_seq ?_ | refine awp_block ?_ | refine awp_rg hmix ?_ | refine ARun.o rfl ?_ | ((first | refine ARun.f ?_ | refine awp_skip ?_ | refine awp_exit ?_); dsimp only [thenA, blockA, AS.bump, List.length_cons, List.length_nil, reduceIte, Nat.reduceEqDiff]) | refine awp_cT rfl ?_ | refine awp_cF rfl ?_ | ((fail_if_success refine ARun.plain rfl ?_); first | refine ARun.kT rfl rfl rfl ?_ | refine ARun.kF rfl rfl rfl ?_ | refine ARun.fork rfl rfl rfl (fun h => ?_) (fun h => ?_)) | refine awp_cond rfl (fun h => ?_) (fun h => ?_)))
    exact awp_ret ⟨_, (ResL.cons (ResA.agg rfl rfl rfl rfl rfl rfl rfl (RL.cons (.closed _ (closed_bs _)) (RL.cons (.closed _ (closed_map encP_closed)) (RL.nil _)))) (ResL.cons (ResA.tmp (.val _)) (ResL.cons (ResA.tmp (.val _)) .nil))), rfl⟩
theorem ref_comma_c (m : Mm) (here n : Int) (hl : m.b.length ≤ 1000000) (ho : m.old.length ≤ 1000000) (h0 : 0 ≤ here ∧ here ≤ m.b.length) : FnC Try.prog 37 [.agg (encM m), .val (.int .i64 here), .val (.int .i64 n)] (enc3m (commaD m here n)) := by
  have c1 := ref_put_c n
  have c2 := ref_lay_c m here (putB n) hl ho (by rw [putB_len]; omega) h0
  refine FnC.of_awp (T := tt) (ok := tok) Try.func37 (by kernel_rfl) rfl (by kernel_rfl) (closedL_cons (closed_m m) (closedL_cons (.val _) (closedL_cons (.val _) closedL_nil))) (fun w0 st0 => ?_)
  dsimp only [frOf]
  by_cases h : here.tmod 8 = 0
  · have d : (here.tmod 8 != 0) = false := by simp [h]
    rw [show commaD m here n = layD m here (putB n) from if_neg (by simp [h])]
    (repeat' (first | refine awp_seq ?_ | refine awp_block ?_ | refine awp_rg hmix ?_ | refine ARun.o rfl ?_ | refine callX (c1) rfl rfl rfl rfl ?_ | refine callX (c2) rfl rfl rfl rfl ?_ | ((first | refine ARun.f ?_ | refine awp_skip ?_ | refine awp_exit ?_); dsimp only [thenA, blockA, AS.bump, List.length_cons, List.length_nil, reduceIte, Nat.reduceEqDiff]) | refine awp_cT rfl ?_ | refine awp_cF rfl ?_ | ((fail_if_success refine ARun.plain rfl ?_); first | refine ARun.kT rfl rfl rfl ?_ | refine ARun.kF rfl rfl rfl ?_ | refine ARun.fork rfl rfl rfl (fun h => ?_) (fun h => ?_)) | refine awp_cond rfl (fun h => ?_) (fun h => ?_)))
    exact awp_ret ⟨_, (ResL.cons (ResA.agg rfl rfl rfl rfl rfl rfl rfl (RL.cons (.closed _ (closed_bs _)) (RL.cons (.closed _ (closed_map encP_closed)) (RL.nil _)))) (ResL.cons (ResA.tmp (.val _)) (ResL.cons (ResA.tmp (.val _)) .nil))), rfl⟩
  · have d : (here.tmod 8 != 0) = true := by simp [h]
    rw [show commaD m here n = (m, here, -23) from if_pos h]
    (repeat' (first | refine awp_seq ?_ | refine awp_block ?_ | refine awp_rg hmix ?_ | refine ARun.o rfl ?_ | ((first | refine ARun.f ?_ | refine awp_skip ?_ | refine awp_exit ?_); dsimp only [thenA, blockA, AS.bump, List.length_cons, List.length_nil, reduceIte, Nat.reduceEqDiff]) | refine awp_cT rfl ?_ | refine awp_cF rfl ?_ | ((fail_if_success refine ARun.plain rfl ?_); first | refine ARun.kT rfl rfl rfl ?_ | refine ARun.kF rfl rfl rfl ?_ | refine ARun.fork rfl rfl rfl (fun h => ?_) (fun h => ?_)) | refine awp_cond rfl (fun h => ?_) (fun h => ?_)))
    exact awp_ret ⟨_, (ResL.cons (ResA.agg rfl rfl rfl rfl rfl rfl rfl (RL.cons (.closed _ (closed_bs _)) (RL.cons (.closed _ (closed_map encP_closed)) (RL.nil _)))) (ResL.cons (ResA.tmp (.val _)) (ResL.cons (ResA.tmp (.val _)) .nil))), rfl⟩
/-- An end that is aligned. -/
def padN (here : Int) : Nat := ((8 - here % 8) % 8).toNat
def alignD (m : Mm) (here : Int) : Mm × Int × Int := layD m here (List.replicate (padN here) 0)
theorem clo_rep {n : Nat} : ∀ el x, el ∈ List.replicate n ([Value.int .u8 0].map zv) → x ∈ el → Closed x := fun el x hel hx => by
  rw [(List.mem_replicate.1 hel).2] at hx
  rw [List.mem_singleton.1 hx]
  exact .val _
theorem align_c (m : Mm) (here : Int) (hl : m.b.length ≤ 1000000) (ho : m.old.length ≤ 1000000) (h0 : 0 ≤ here ∧ here ≤ m.b.length) : FnC Try.prog 44 [.agg (encM m), .val (.int .i64 here)] (enc3m (alignD m here)) := by
  have hp : padN here ≤ 7 := by unfold padN; omega
  have c2 := lay_c m here (List.replicate (padN here) 0) hl ho (by simp; omega) h0
  have e1 : here.tmod 8 = here % 8 := Int.tmod_eq_emod_of_nonneg h0.1
  have e2 : (8 - here.tmod 8).tmod 8 = ((padN here : Nat) : Int) := by
    rw [e1, Int.tmod_eq_emod_of_nonneg (by omega)]
    unfold padN
    omega
  have e3 : encBs (List.replicate (padN here) 0) = .sl 1 false (List.replicate (padN here) ([Value.int .u8 0].map zv)) := by
    unfold encBs
    rw [List.map_replicate]
    rfl
  rw [e3] at c2
  unfold alignD
  refine FnC.of_awp (T := tt) (ok := tok) Try.func44 (by kernel_rfl) rfl (by kernel_rfl) (closedL_cons (closed_m m) (closedL_cons (.val _) closedL_nil)) (fun w0 st0 => ?_)
  dsimp only [frOf]
  generalize hq : padN here = q at *
  (repeat' (first | refine awp_seq ?_ | refine awp_block ?_ | refine awp_rg hmix ?_ | refine ARun.o rfl ?_ | refine ARun.makeSliceN (n := q) rfl e2 rfl e2 rfl rfl rfl rfl rfl rfl (by first | omega | (dsimp only [maxLen]; done) | (dsimp only [maxLen]; omega) | (simp only [List.length_append, List.length_map, List.length_take, List.length_drop, List.length_replicate, List.length_cons, List.length_nil, maxLen]; done) | (simp only [List.length_append, List.length_map, List.length_take, List.length_drop, List.length_replicate, List.length_cons, List.length_nil, maxLen]; omega) | (simp only [List.length_append, List.length_map, List.length_take, List.length_drop, List.length_replicate, List.length_cons, List.length_nil, maxLen] at *; done) | (simp only [List.length_append, List.length_map, List.length_take, List.length_drop, List.length_replicate, List.length_cons, List.length_nil, maxLen] at *; omega)) rfl (guardF_spec rfl) (by first | omega | (dsimp only [maxLen]; done) | (dsimp only [maxLen]; omega) | (simp only [List.length_append, List.length_map, List.length_take, List.length_drop, List.length_replicate, List.length_cons, List.length_nil, maxLen]; done) | (simp only [List.length_append, List.length_map, List.length_take, List.length_drop, List.length_replicate, List.length_cons, List.length_nil, maxLen]; omega) | (simp only [List.length_append, List.length_map, List.length_take, List.length_drop, List.length_replicate, List.length_cons, List.length_nil, maxLen] at *; done) | (simp only [List.length_append, List.length_map, List.length_take, List.length_drop, List.length_replicate, List.length_cons, List.length_nil, maxLen] at *; omega)) ?_ | refine callGX [(13, _)] (c2) (BsOk.cons rfl (by first | exact own_closed_map encB_closed | exact clo_rep) (BsOk.nil _)) rfl (by (repeat (refine FzL.cons (by first | exact Fz.same _ | exact Fz.wk Wk.nilSl | exact Fz.wk (Wk.weak _ _ _) | exact Fz.own1 (by first | (simp; done) | (simp; rfl)) rfl (by simp) | exact Fz.cloL (FzL.nil _) (by (repeat (refine FzL.cons (by first | exact Fz.ptr1 (by first | exact .head _ | exact .tail _ (.head _) | exact .tail _ (.tail _ (.head _))) rfl rfl | exact Fz.same _) ?_)); exact FzL.nil _) | exact Fz.aggL (by (repeat (refine FzL.cons (by first | exact Fz.same _ | exact Fz.wk Wk.nilSl | exact Fz.wk (Wk.weak _ _ _) | exact Fz.own1 (by first | (simp; done) | (simp; rfl)) rfl (by simp)) ?_)); exact FzL.nil _)) ?_)); exact FzL.nil _) rfl rfl ?_ | ((first | refine ARun.f ?_ | refine awp_skip ?_ | refine awp_exit ?_); dsimp only [thenA, blockA, AS.bump, List.length_cons, List.length_nil, reduceIte, Nat.reduceEqDiff]) | refine awp_cT rfl ?_ | refine awp_cF rfl ?_ | ((fail_if_success refine ARun.plain rfl ?_); first | refine ARun.kT rfl rfl rfl ?_ | refine ARun.kF rfl rfl rfl ?_ | refine ARun.fork rfl rfl rfl (fun h => ?_) (fun h => ?_)) | refine awp_cond rfl (fun h => ?_) (fun h => ?_)))
  exact awp_ret ⟨_, (ResL.cons (ResA.agg rfl rfl rfl rfl rfl rfl rfl (RL.cons (.closed _ (closed_bs _)) (RL.cons (.closed _ (closed_map encP_closed)) (RL.nil _)))) (ResL.cons (ResA.tmp (.val _)) (ResL.cons (ResA.tmp (.val _)) .nil))), rfl⟩
end Go.Proofs.Ytpkkplojpjakiaa.Mem
/- Texts, and their great letters. -/
namespace Go.Proofs.Ytpkkplojpjakiaa.Dict
set_option linter.unusedVariables false
set_option linter.unusedSimpArgs false
open Go Go.RowKit
set_option maxRecDepth 100000
attribute [local irreducible] Decidable.decide awp ARun regK toK

/-- A text, by its bytes. -/
abbrev St (l : List UInt8) : AV := .val (.string ⟨l.toArray⟩)
abbrev Bs := List UInt8
theorem bs_eq (l l' : List UInt8) : ((ByteArray.mk l.toArray).toList == (ByteArray.mk l'.toArray).toList) = decide (l = l') := by
  rw [ByteArray.toList_eq, ByteArray.toList_eq]
  show (l == l') = _
  rw [Bool.eq_iff_iff, beq_iff_eq, decide_eq_true_eq]
def up1 (c : UInt8) : UInt8 := if 97 ≤ c.toNat ∧ c.toNat ≤ 122 then c - 32 else c
def upL (l : Bs) : Bs := l.map up1
end Go.Proofs.Ytpkkplojpjakiaa.Dict
/- Texts that are alike; names that may be. -/
namespace Go.Proofs.Ytpkkplojpjakiaa.Dict
set_option linter.unusedVariables false
set_option linter.unusedSimpArgs false
open Go Go.RowKit
set_option maxRecDepth 100000
attribute [local irreducible] Decidable.decide awp ARun regK toK

def alikeD (a b : Bs) : Bool := decide (upL a = upL b)
end Go.Proofs.Ytpkkplojpjakiaa.Dict
/- Words; names, flags. -/
namespace Go.Proofs.Ytpkkplojpjakiaa.Dict
set_option linter.unusedVariables false
set_option linter.unusedSimpArgs false
open Go Go.RowKit
set_option maxRecDepth 100000
structure Wd where
  name : Bs
  xt : Int
  fl : Int
def encW (w : Wd) : List AV := [St w.name, .val (.int .i64 w.xt), .val (.int .i64 w.fl)]
theorem encW_closed (w : Wd) : ∀ x, x ∈ encW w → Closed x := closedL_cons (.val _) (closedL_cons (.val _) (closedL_cons (.val _) closedL_nil))
abbrev encWs (l : List Wd) : AV := .sl 3 false (l.map encW)
theorem closed_ws (l : List Wd) : Closed (encWs l) := closed_map encW_closed
def okName (l : Bs) : Bool := l.all fun c => decide (32 < c.toNat)
def namedD (l : Bs) : Int := if l = [] then -16 else if 31 < l.length then -19 else if okName l = true then 0 else -32
attribute [local irreducible] Decidable.decide awp ARun regK toK
/-- Hidden, by the document's answer. -/
def hidD (w : Wd) : Bool := (w.fl.tdiv 2).tmod 2 == 1
theorem take_all {l : Bs} {i : Nat} {c : UInt8} (h : l[i]? = some c) : okName (l.take (i + 1)) = (okName (l.take i) && decide (32 < c.toNat)) := by
  unfold okName
  rw [take_succ' h, List.all_append]
  simp
theorem all_no {l : Bs} {i : Nat} {c : UInt8} (h : l[i]? = some c) (hc : c.toNat ≤ 32) : okName l = false := by
  unfold okName
  rw [List.all_eq_false]
  exact ⟨c, List.mem_of_getElem? h, by simp; omega⟩
set_option maxHeartbeats 4000000 in
theorem ref_named_c (l : Bs) (hl : l.length ≤ 1000000) : FnC Try.prog 92 [St l] (.val (.int .i64 (namedD l))) := by
  have hz : (ByteArray.mk l.toArray).size = l.length := rfl
  refine FnC.of_awp (T := tt) (ok := tok) Try.func92 (by kernel_rfl) rfl (by kernel_rfl) (closedL_cons (.val _) closedL_nil) (fun w0 st0 => ?_)
  dsimp only [frOf]
  by_cases h0 : l = []
  · have d0 : ((((ByteArray.mk l.toArray).size : Nat) : Int) == 0) = true := by rw [hz, h0]; simp
    rw [show namedD l = -16 from if_pos h0]
    (repeat' (first | refine awp_seq ?_ | refine awp_block ?_ | refine awp_rg hmix ?_ | refine ARun.o rfl ?_ | ((first | refine ARun.f ?_ | refine awp_skip ?_ | refine awp_exit ?_); dsimp only [thenA, blockA, AS.bump, List.length_cons, List.length_nil, reduceIte, Nat.reduceEqDiff]) | refine awp_cT rfl ?_ | refine awp_cF rfl ?_ | ((fail_if_success refine ARun.plain rfl ?_); first | refine ARun.kT rfl rfl rfl ?_ | refine ARun.kF rfl rfl rfl ?_ | refine ARun.fork rfl rfl rfl (fun h => ?_) (fun h => ?_)) | refine awp_cond rfl (fun h => ?_) (fun h => ?_)))
    exact awp_ret ⟨_, ResL.cons (ResA.tmp (.val _)) .nil, rfl⟩
  have d0 : ((((ByteArray.mk l.toArray).size : Nat) : Int) == 0) = false := by rw [hz]; simpa using h0
  by_cases h1 : 31 < l.length
  · have d1 : decide ((31 : Int) < ((ByteArray.mk l.toArray).size : Nat)) = true := decide_eq_true (by omega)
    rw [show namedD l = -19 by unfold namedD; rw [if_neg h0, if_pos h1]]
    (repeat' (first | refine awp_seq ?_ | refine awp_block ?_ | refine awp_rg hmix ?_ | refine ARun.o rfl ?_ | ((first | refine ARun.f ?_ | refine awp_skip ?_ | refine awp_exit ?_); dsimp only [thenA, blockA, AS.bump, List.length_cons, List.length_nil, reduceIte, Nat.reduceEqDiff]) | refine awp_cT rfl ?_ | refine awp_cF rfl ?_ | ((fail_if_success refine ARun.plain rfl ?_); first | refine ARun.kT rfl rfl rfl ?_ | refine ARun.kF rfl rfl rfl ?_ | refine ARun.fork rfl rfl rfl (fun h => ?_) (fun h => ?_)) | refine awp_cond rfl (fun h => ?_) (fun h => ?_)))
    exact awp_ret ⟨_, ResL.cons (ResA.tmp (.val _)) .nil, rfl⟩
  have d1 : decide ((31 : Int) < ((ByteArray.mk l.toArray).size : Nat)) = false := decide_eq_false (by omega)
  (repeat' (first | refine awp_seq ?_ | refine awp_block ?_ | refine awp_rg hmix ?_ | refine ARun.o rfl ?_ | ((first | refine ARun.f ?_ | refine awp_skip ?_ | refine awp_exit ?_); dsimp only [thenA, blockA, AS.bump, List.length_cons, List.length_nil, reduceIte, Nat.reduceEqDiff]) | refine awp_cT rfl ?_ | refine awp_cF rfl ?_ | ((fail_if_success refine ARun.plain rfl ?_); first | refine ARun.kT rfl rfl rfl ?_ | refine ARun.kF rfl rfl rfl ?_ | refine ARun.fork rfl rfl rfl (fun h => ?_) (fun h => ?_)) | refine awp_cond rfl (fun h => ?_) (fun h => ?_)))
  refine awp_loopT (T := Nat × Nat) (fun t => ⟨[(3, .val (.int .i64 (t.1 : Nat))), (0, St l)], [], t.2⟩)
    (fun t => t.1 ≤ l.length ∧ okName (l.take t.1) = true) (fun t => l.length - t.1) (0, _) ⟨Nat.zero_le _, rfl⟩ ⟨⟨rfl, rfl, trivial⟩, trivial, Nat.le_refl _⟩ (fun t ht => ?_)
  obtain ⟨i, gc⟩ := t
  obtain ⟨hi, hA⟩ := ht
  dsimp only at hi hA ⊢
  clear d0 d1
  by_cases hlt : i < l.length
  · have hc : decide (((i : Nat) : Int) < ((ByteArray.mk l.toArray).size : Nat)) = true := decide_eq_true (by omega)
    have hp : l[i]? = some l[i] := List.getElem?_eq_getElem hlt
    generalize l[i] = ch at hp
    have hs : (ByteArray.mk l.toArray).data[((i : Nat) : Int).toNat]? = some ch := by rw [Int.toNat_natCast]; simpa using hp
    by_cases h2 : ch.toNat ≤ 32
    · have d2 : decide ((ch.toNat : Int) ≤ 32) = true := decide_eq_true (by omega)
      rw [show namedD l = -32 by unfold namedD; rw [if_neg h0, if_neg h1, if_neg (by rw [all_no hp h2]; simp)]]
      (repeat' (first | refine awp_seq ?_ | refine awp_block ?_ | refine awp_rg hmix ?_ | refine ARun.o rfl ?_ | refine ARun.index_str rfl rfl (by omega) hs rfl rfl rfl (guardF_spec rfl) ?_ | ((first | refine ARun.f ?_ | refine awp_skip ?_ | refine awp_exit ?_); dsimp only [thenA, blockA, AS.bump, List.length_cons, List.length_nil, reduceIte, Nat.reduceEqDiff]) | refine awp_cT rfl ?_ | refine awp_cF rfl ?_ | ((fail_if_success refine ARun.plain rfl ?_); first | refine ARun.kT rfl rfl rfl ?_ | refine ARun.kF rfl rfl rfl ?_ | refine ARun.fork rfl rfl rfl (fun h => ?_) (fun h => ?_)) | refine awp_cond rfl (fun h => ?_) (fun h => ?_)))
      exact awp_ret ⟨_, ResL.cons (ResA.tmp (.val _)) .nil, rfl⟩
    · have d2 : decide ((ch.toNat : Int) ≤ 32) = false := decide_eq_false (by omega)
      (repeat' (first | refine awp_seq ?_ | refine awp_block ?_ | refine awp_rg hmix ?_ | refine ARun.o rfl ?_ | refine ARun.index_str rfl rfl (by omega) hs rfl rfl rfl (guardF_spec rfl) ?_ | ((first | refine ARun.f ?_ | refine awp_skip ?_ | refine awp_exit ?_); dsimp only [thenA, blockA, AS.bump, List.length_cons, List.length_nil, reduceIte, Nat.reduceEqDiff]) | refine awp_cT rfl ?_ | refine awp_cF rfl ?_ | ((fail_if_success refine ARun.plain rfl ?_); first | refine ARun.kT rfl rfl rfl ?_ | refine ARun.kF rfl rfl rfl ?_ | refine ARun.fork rfl rfl rfl (fun h => ?_) (fun h => ?_)) | refine awp_cond rfl (fun h => ?_) (fun h => ?_)))
      exact ⟨(i + 1, _), ⟨⟨succI i, rfl, trivial⟩, trivial, Nat.le_refl _⟩, ⟨hlt, by rw [take_all hp, hA, Bool.true_and, decide_eq_true (by omega)]⟩, (by dsimp only; omega)⟩
  · have hii : i = l.length := by omega
    subst hii
    have hc : decide (((l.length : Nat) : Int) < ((ByteArray.mk l.toArray).size : Nat)) = false := decide_eq_false (by omega)
    rw [List.take_length] at hA
    rw [show namedD l = 0 by unfold namedD; rw [if_neg h0, if_neg h1, if_pos hA]]
    (repeat' (first | refine awp_seq ?_ | refine awp_block ?_ | refine awp_rg hmix ?_ | refine ARun.o rfl ?_ | ((first | refine ARun.f ?_ | refine awp_skip ?_ | refine awp_exit ?_); dsimp only [thenA, blockA, AS.bump, List.length_cons, List.length_nil, reduceIte, Nat.reduceEqDiff]) | refine awp_cT rfl ?_ | refine awp_cF rfl ?_ | ((fail_if_success refine ARun.plain rfl ?_); first | refine ARun.kT rfl rfl rfl ?_ | refine ARun.kF rfl rfl rfl ?_ | refine ARun.fork rfl rfl rfl (fun h => ?_) (fun h => ?_)) | refine awp_cond rfl (fun h => ?_) (fun h => ?_)))
    exact awp_ret ⟨_, ResL.cons (ResA.tmp (.val _)) .nil, rfl⟩
end Go.Proofs.Ytpkkplojpjakiaa.Dict
/- Dictionaries: right, few, the same. -/
namespace Go.Proofs.Ytpkkplojpjakiaa.Dict
set_option linter.unusedVariables false
set_option linter.unusedSimpArgs false
open Go Go.RowKit
set_option maxRecDepth 100000
attribute [local irreducible] Decidable.decide awp ARun regK toK
def FewW (l : List Wd) (most : Int) : Prop := (l.length : Int) ≤ most ∧ ∀ w, w ∈ l → w.name.length ≤ 60
def OkW (w : Wd) : Prop := namedD w.name = 0 ∧ 0 ≤ w.fl ∧ w.fl ≤ 7
def RightW (l : List Wd) : Prop := (∀ w, w ∈ l → OkW w) ∧ l.length ≤ 1024
open Classical in
noncomputable def rightW (l : List Wd) : Bool := if RightW l then true else false
theorem rightW_yes {l : List Wd} (h : RightW l) : rightW l = true := by unfold rightW; exact if_pos h
theorem rightW_no {l : List Wd} (h : ¬ RightW l) : rightW l = false := by unfold rightW; exact if_neg h
open Classical in
noncomputable def fewW (l : List Wd) (most : Int) : Bool := if FewW l most then true else false
theorem fewW_yes {l : List Wd} {n : Int} (h : FewW l n) : fewW l n = true := by unfold fewW; exact if_pos h
theorem fewW_no {l : List Wd} {n : Int} (h : ¬ FewW l n) : fewW l n = false := by unfold fewW; exact if_neg h
open Classical in
noncomputable def sameW (a b : List Wd) : Bool := if a = b then true else false
theorem sameW_iff {a b : List Wd} : sameW a b = true ↔ a = b := by
  unfold sameW
  split <;> simp_all
theorem sameW_no {a b : List Wd} (h : a ≠ b) : sameW a b = false := Bool.eq_false_iff.2 (fun e => h (sameW_iff.1 e))
theorem mem_snoc {l : List Wd} {k : Nat} {w : Wd} {R : Wd → Prop} (h : l[k]? = some w) (h1 : ∀ v, v ∈ l.take k → R v) (h2 : R w) : ∀ v, v ∈ l.take (k + 1) → R v := fun v hv => by
  rw [take_succ' h] at hv
  rcases List.mem_append.1 hv with hv | hv
  · exact h1 v hv
  · rw [List.mem_singleton.1 hv]; exact h2
set_option maxHeartbeats 4000000 in
theorem few_c (l : List Wd) (most : Int) (hm : most ≤ 1000000) : FnC Try.prog 68 [encWs l, .val (.int .i64 most)] (.val (.bool (fewW l most))) := by
  refine FnC.of_awp (T := tt) (ok := tok) Try.func68 (by kernel_rfl) rfl (by kernel_rfl) (closedL_cons (closed_ws l) (closedL_cons (.val _) closedL_nil)) (fun w0 st0 => ?_)
  dsimp only [frOf]
  by_cases h0 : most < (((l.map encW).length : Nat) : Int)
  · have d0 : decide (most < (((l.map encW).length : Nat) : Int)) = true := decide_eq_true h0
    rw [fewW_no (fun h => by have := h.1; rw [List.length_map] at h0; omega)]
    (repeat' (first | refine awp_seq ?_ | refine awp_block ?_ | refine awp_rg hmix ?_ | refine ARun.o rfl ?_ | ((first | refine ARun.f ?_ | refine awp_skip ?_ | refine awp_exit ?_); dsimp only [thenA, blockA, AS.bump, List.length_cons, List.length_nil, reduceIte, Nat.reduceEqDiff]) | refine awp_cT rfl ?_ | refine awp_cF rfl ?_ | ((fail_if_success refine ARun.plain rfl ?_); first | refine ARun.kT rfl rfl rfl ?_ | refine ARun.kF rfl rfl rfl ?_ | refine ARun.fork rfl rfl rfl (fun h => ?_) (fun h => ?_)) | refine awp_cond rfl (fun h => ?_) (fun h => ?_)))
    exact awp_ret ⟨_, ResL.cons (ResA.tmp (.val _)) .nil, rfl⟩
  have d0 : decide (most < (((l.map encW).length : Nat) : Int)) = false := decide_eq_false h0
  rw [List.length_map] at h0
  (repeat' (first | refine awp_seq ?_ | refine awp_block ?_ | refine awp_rg hmix ?_ | refine ARun.o rfl ?_ | ((first | refine ARun.f ?_ | refine awp_skip ?_ | refine awp_exit ?_); dsimp only [thenA, blockA, AS.bump, List.length_cons, List.length_nil, reduceIte, Nat.reduceEqDiff]) | refine awp_cT rfl ?_ | refine awp_cF rfl ?_ | ((fail_if_success refine ARun.plain rfl ?_); first | refine ARun.kT rfl rfl rfl ?_ | refine ARun.kF rfl rfl rfl ?_ | refine ARun.fork rfl rfl rfl (fun h => ?_) (fun h => ?_)) | refine awp_cond rfl (fun h => ?_) (fun h => ?_)))
  refine awp_loopT (T := Nat × Nat) (fun t => ⟨[(5, .val (.int .i64 (t.1 : Nat))), (0, encWs l)], [], t.2⟩)
    (fun t => t.1 ≤ l.length ∧ ∀ w, w ∈ l.take t.1 → w.name.length ≤ 60) (fun t => l.length - t.1) (0, _) ⟨Nat.zero_le _, fun w h => by cases h⟩ ⟨⟨rfl, rfl, trivial⟩, trivial, Nat.le_refl _⟩ (fun t ht => ?_)
  obtain ⟨i, gc⟩ := t
  obtain ⟨hi, hA⟩ := ht
  dsimp only at hi hA ⊢
  clear d0
  by_cases hlt : i < l.length
  · have hc : decide (((i : Nat) : Int) < ((l.map encW).length : Nat)) = true := by simp; omega
    have hp : l[i]? = some l[i] := List.getElem?_eq_getElem hlt
    generalize l[i] = w at hp
    have hz : (ByteArray.mk w.name.toArray).size = w.name.length := rfl
    by_cases h2 : 60 < w.name.length
    · have d2 : decide ((60 : Int) < ((ByteArray.mk w.name.toArray).size : Nat)) = true := decide_eq_true (by omega)
      rw [fewW_no (fun h => by have := h.2 w (List.mem_of_getElem? hp); omega)]
      (repeat' (first | refine awp_seq ?_ | refine awp_block ?_ | refine awp_rg hmix ?_ | refine ARun.o rfl ?_ | refine ARun.indexAddr rfl rfl (by omega) (by first | with_reducible exact get_map hp | with_reducible exact get_map hp) rfl rfl rfl rfl rfl (guardF_spec rfl) ?_ | ((first | refine ARun.f ?_ | refine awp_skip ?_ | refine awp_exit ?_); dsimp only [thenA, blockA, AS.bump, List.length_cons, List.length_nil, reduceIte, Nat.reduceEqDiff]) | refine awp_cT rfl ?_ | refine awp_cF rfl ?_ | ((fail_if_success refine ARun.plain rfl ?_); first | refine ARun.kT rfl rfl rfl ?_ | refine ARun.kF rfl rfl rfl ?_ | refine ARun.fork rfl rfl rfl (fun h => ?_) (fun h => ?_)) | refine awp_cond rfl (fun h => ?_) (fun h => ?_)))
      exact awp_ret ⟨_, ResL.cons (ResA.tmp (.val _)) .nil, rfl⟩
    · have d2 : decide ((60 : Int) < ((ByteArray.mk w.name.toArray).size : Nat)) = false := decide_eq_false (by omega)
      (repeat' (first | refine awp_seq ?_ | refine awp_block ?_ | refine awp_rg hmix ?_ | refine ARun.o rfl ?_ | refine ARun.indexAddr rfl rfl (by omega) (by first | with_reducible exact get_map hp | with_reducible exact get_map hp) rfl rfl rfl rfl rfl (guardF_spec rfl) ?_ | ((first | refine ARun.f ?_ | refine awp_skip ?_ | refine awp_exit ?_); dsimp only [thenA, blockA, AS.bump, List.length_cons, List.length_nil, reduceIte, Nat.reduceEqDiff]) | refine awp_cT rfl ?_ | refine awp_cF rfl ?_ | ((fail_if_success refine ARun.plain rfl ?_); first | refine ARun.kT rfl rfl rfl ?_ | refine ARun.kF rfl rfl rfl ?_ | refine ARun.fork rfl rfl rfl (fun h => ?_) (fun h => ?_)) | refine awp_cond rfl (fun h => ?_) (fun h => ?_)))
      exact ⟨(i + 1, _), ⟨⟨succI i, rfl, trivial⟩, trivial, Nat.le_refl _⟩, ⟨hlt, mem_snoc hp hA (by omega)⟩, (by dsimp only; omega)⟩
  · have hii : i = l.length := by omega
    subst hii
    have hc : decide (((l.length : Nat) : Int) < ((l.map encW).length : Nat)) = false := by simp
    rw [List.take_length] at hA
    rw [fewW_yes ⟨by omega, hA⟩]
    (repeat' (first | refine awp_seq ?_ | refine awp_block ?_ | refine awp_rg hmix ?_ | refine ARun.o rfl ?_ | ((first | refine ARun.f ?_ | refine awp_skip ?_ | refine awp_exit ?_); dsimp only [thenA, blockA, AS.bump, List.length_cons, List.length_nil, reduceIte, Nat.reduceEqDiff]) | refine awp_cT rfl ?_ | refine awp_cF rfl ?_ | ((fail_if_success refine ARun.plain rfl ?_); first | refine ARun.kT rfl rfl rfl ?_ | refine ARun.kF rfl rfl rfl ?_ | refine ARun.fork rfl rfl rfl (fun h => ?_) (fun h => ?_)) | refine awp_cond rfl (fun h => ?_) (fun h => ?_)))
    exact awp_ret ⟨_, ResL.cons (ResA.tmp (.val _)) .nil, rfl⟩
/-- Words whose names and flags a machine can hold. -/
def InW (l : List Wd) : Prop := ∀ w, w ∈ l → w.name.length ≤ 1000000 ∧ -9223372036854775808 ≤ w.fl ∧ w.fl ≤ 9223372036854775807
set_option maxHeartbeats 4000000 in
theorem ref_right_c (l : List Wd) (hl : l.length ≤ 1000000) (hin : InW l) : FnC Try.prog 61 [encWs l] (.val (.bool (rightW l))) := by
  refine FnC.of_awp (T := tt) (ok := tok) Try.func61 (by kernel_rfl) rfl (by kernel_rfl) (closedL_cons (closed_ws l) closedL_nil) (fun w0 st0 => ?_)
  dsimp only [frOf]
  (repeat' (first | refine awp_seq ?_ | refine awp_block ?_ | refine awp_rg hmix ?_ | refine ARun.o rfl ?_ | ((first | refine ARun.f ?_ | refine awp_skip ?_ | refine awp_exit ?_); dsimp only [thenA, blockA, AS.bump, List.length_cons, List.length_nil, reduceIte, Nat.reduceEqDiff]) | refine awp_cT rfl ?_ | refine awp_cF rfl ?_ | ((fail_if_success refine ARun.plain rfl ?_); first | refine ARun.kT rfl rfl rfl ?_ | refine ARun.kF rfl rfl rfl ?_ | refine ARun.fork rfl rfl rfl (fun h => ?_) (fun h => ?_)) | refine awp_cond rfl (fun h => ?_) (fun h => ?_)))
  refine awp_loopT (T := Nat × Nat) (fun t => ⟨[(3, .val (.int .i64 (t.1 : Nat))), (0, encWs l)], [], t.2⟩)
    (fun t => t.1 ≤ l.length ∧ ∀ w, w ∈ l.take t.1 → OkW w) (fun t => l.length - t.1) (0, _) ⟨Nat.zero_le _, fun w h => by cases h⟩ ⟨⟨rfl, rfl, trivial⟩, trivial, Nat.le_refl _⟩ (fun t ht => ?_)
  obtain ⟨i, gc⟩ := t
  obtain ⟨hi, hA⟩ := ht
  dsimp only at hi hA ⊢
  by_cases hlt : i < l.length
  · have hc : decide (((i : Nat) : Int) < ((l.map encW).length : Nat)) = true := by simp; omega
    have hp : l[i]? = some l[i] := List.getElem?_eq_getElem hlt
    have hm : l[i] ∈ l := List.getElem_mem hlt
    generalize l[i] = w at hp hm
    obtain ⟨k1, k2⟩ := hin w hm
    have c1 := ref_named_c w.name k1
    by_cases h2 : namedD w.name = 0
    · have d2 : (namedD w.name != 0) = false := by simp [h2]
      by_cases h3 : w.fl < 0
      · have d3 : decide (w.fl < 0) = true := decide_eq_true h3
        rw [rightW_no (fun h => by have := (h.1 w hm).2; omega)]
        (repeat' (first | refine awp_seq ?_ | refine awp_block ?_ | refine awp_rg hmix ?_ | refine ARun.o rfl ?_ | refine ARun.indexAddr rfl rfl (by omega) (by first | with_reducible exact get_map hp | with_reducible exact get_map hp) rfl rfl rfl rfl rfl (guardF_spec rfl) ?_ | refine callX (c1) rfl rfl rfl rfl ?_ | ((first | refine ARun.f ?_ | refine awp_skip ?_ | refine awp_exit ?_); dsimp only [thenA, blockA, AS.bump, List.length_cons, List.length_nil, reduceIte, Nat.reduceEqDiff]) | refine awp_cT rfl ?_ | refine awp_cF rfl ?_ | ((fail_if_success refine ARun.plain rfl ?_); first | refine ARun.kT rfl rfl rfl ?_ | refine ARun.kF rfl rfl rfl ?_ | refine ARun.fork rfl rfl rfl (fun h => ?_) (fun h => ?_)) | refine awp_cond rfl (fun h => ?_) (fun h => ?_)))
        exact awp_ret ⟨_, ResL.cons (ResA.tmp (.val _)) .nil, rfl⟩
      · have d3 : decide (w.fl < 0) = false := decide_eq_false h3
        by_cases h4 : 7 < w.fl
        · have d4 : decide (7 < w.fl) = true := decide_eq_true h4
          rw [rightW_no (fun h => by have := (h.1 w hm).2; omega)]
          (repeat' (first | refine awp_seq ?_ | refine awp_block ?_ | refine awp_rg hmix ?_ | refine ARun.o rfl ?_ | refine ARun.indexAddr rfl rfl (by omega) (by first | with_reducible exact get_map hp | with_reducible exact get_map hp) rfl rfl rfl rfl rfl (guardF_spec rfl) ?_ | refine callX (c1) rfl rfl rfl rfl ?_ | ((first | refine ARun.f ?_ | refine awp_skip ?_ | refine awp_exit ?_); dsimp only [thenA, blockA, AS.bump, List.length_cons, List.length_nil, reduceIte, Nat.reduceEqDiff]) | refine awp_cT rfl ?_ | refine awp_cF rfl ?_ | ((fail_if_success refine ARun.plain rfl ?_); first | refine ARun.kT rfl rfl rfl ?_ | refine ARun.kF rfl rfl rfl ?_ | refine ARun.fork rfl rfl rfl (fun h => ?_) (fun h => ?_)) | refine awp_cond rfl (fun h => ?_) (fun h => ?_)))
          exact awp_ret ⟨_, ResL.cons (ResA.tmp (.val _)) .nil, rfl⟩
        · have d4 : decide (7 < w.fl) = false := decide_eq_false h4
          (repeat' (first | refine awp_seq ?_ | refine awp_block ?_ | refine awp_rg hmix ?_ | refine ARun.o rfl ?_ | refine ARun.indexAddr rfl rfl (by omega) (by first | with_reducible exact get_map hp | with_reducible exact get_map hp) rfl rfl rfl rfl rfl (guardF_spec rfl) ?_ | refine callX (c1) rfl rfl rfl rfl ?_ | ((first | refine ARun.f ?_ | refine awp_skip ?_ | refine awp_exit ?_); dsimp only [thenA, blockA, AS.bump, List.length_cons, List.length_nil, reduceIte, Nat.reduceEqDiff]) | refine awp_cT rfl ?_ | refine awp_cF rfl ?_ | ((fail_if_success refine ARun.plain rfl ?_); first | refine ARun.kT rfl rfl rfl ?_ | refine ARun.kF rfl rfl rfl ?_ | refine ARun.fork rfl rfl rfl (fun h => ?_) (fun h => ?_)) | refine awp_cond rfl (fun h => ?_) (fun h => ?_)))
          exact ⟨(i + 1, _), ⟨⟨succI i, rfl, trivial⟩, trivial, Nat.le_refl _⟩, ⟨hlt, mem_snoc hp hA ⟨h2, by omega, by omega⟩⟩, (by dsimp only; omega)⟩
    · have d2 : (namedD w.name != 0) = true := by simp [h2]
      rw [rightW_no (fun h => h2 (h.1 w hm).1)]
      (repeat' (first | refine awp_seq ?_ | refine awp_block ?_ | refine awp_rg hmix ?_ | refine ARun.o rfl ?_ | refine ARun.indexAddr rfl rfl (by omega) (by first | with_reducible exact get_map hp | with_reducible exact get_map hp) rfl rfl rfl rfl rfl (guardF_spec rfl) ?_ | refine callX (c1) rfl rfl rfl rfl ?_ | ((first | refine ARun.f ?_ | refine awp_skip ?_ | refine awp_exit ?_); dsimp only [thenA, blockA, AS.bump, List.length_cons, List.length_nil, reduceIte, Nat.reduceEqDiff]) | refine awp_cT rfl ?_ | refine awp_cF rfl ?_ | ((fail_if_success refine ARun.plain rfl ?_); first | refine ARun.kT rfl rfl rfl ?_ | refine ARun.kF rfl rfl rfl ?_ | refine ARun.fork rfl rfl rfl (fun h => ?_) (fun h => ?_)) | refine awp_cond rfl (fun h => ?_) (fun h => ?_)))
      exact awp_ret ⟨_, ResL.cons (ResA.tmp (.val _)) .nil, rfl⟩
  · have hii : i = l.length := by omega
    subst hii
    have hc : decide (((l.length : Nat) : Int) < ((l.map encW).length : Nat)) = false := by simp
    rw [List.take_length] at hA
    (repeat' (first | refine awp_seq ?_ | refine awp_block ?_ | refine awp_rg hmix ?_ | refine ARun.o rfl ?_ | ((first | refine ARun.f ?_ | refine awp_skip ?_ | refine awp_exit ?_); dsimp only [thenA, blockA, AS.bump, List.length_cons, List.length_nil, reduceIte, Nat.reduceEqDiff]) | refine awp_cT rfl ?_ | refine awp_cF rfl ?_ | ((fail_if_success refine ARun.plain rfl ?_); first | refine ARun.kT rfl rfl rfl ?_ | refine ARun.kF rfl rfl rfl ?_ | refine ARun.fork rfl rfl rfl (fun h => ?_) (fun h => ?_)) | refine awp_cond rfl (fun h => ?_) (fun h => ?_)))
    refine awp_ret ⟨_, ResL.cons (ResA.tmp (.val _)) .nil, congrArg (fun b => AV.val (.bool b)) ?_⟩
    by_cases h4 : l.length ≤ 1024
    · rw [rightW_yes ⟨hA, h4⟩, decide_eq_true (by rw [List.length_map]; omega)]
    · rw [rightW_no (fun h => h4 h.2), decide_eq_false (by rw [List.length_map]; omega)]
set_option maxHeartbeats 4000000 in
theorem ref_same_c (a b : List Wd) (hla : a.length ≤ 1000000) : FnC Try.prog 49 [encWs a, encWs b] (.val (.bool (sameW a b))) := by
  refine FnC.of_awp (T := tt) (ok := tok) Try.func49 (by kernel_rfl) rfl (by kernel_rfl) (closedL_cons (closed_ws a) (closedL_cons (closed_ws b) closedL_nil)) (fun w0 st0 => ?_)
  dsimp only [frOf]
  by_cases hl : a.length = b.length
  · have d1 : ((((a.map encW).length : Nat) : Int) != (((b.map encW).length : Nat) : Int)) = false := by simp [hl]
    (repeat' (first | refine awp_seq ?_ | refine awp_block ?_ | refine awp_rg hmix ?_ | refine ARun.o rfl ?_ | ((first | refine ARun.f ?_ | refine awp_skip ?_ | refine awp_exit ?_); dsimp only [thenA, blockA, AS.bump, List.length_cons, List.length_nil, reduceIte, Nat.reduceEqDiff]) | refine awp_cT rfl ?_ | refine awp_cF rfl ?_ | ((fail_if_success refine ARun.plain rfl ?_); first | refine ARun.kT rfl rfl rfl ?_ | refine ARun.kF rfl rfl rfl ?_ | refine ARun.fork rfl rfl rfl (fun h => ?_) (fun h => ?_)) | refine awp_cond rfl (fun h => ?_) (fun h => ?_)))
    refine awp_loopT (T := Nat × Nat) (fun t => ⟨[(5, .val (.int .i64 (t.1 : Nat))), (0, encWs a), (1, encWs b)], [], t.2⟩) (fun t => t.1 ≤ a.length ∧ a.take t.1 = b.take t.1) (fun t => a.length - t.1) (0, _) ⟨Nat.zero_le _, rfl⟩ ⟨⟨rfl, rfl, rfl, trivial⟩, trivial, Nat.le_refl _⟩ (fun t ht => ?_)
    obtain ⟨k, gc⟩ := t
    obtain ⟨hk, hA⟩ := ht
    dsimp only at hk hA ⊢
    clear d1
    by_cases hlt : k < a.length
    · have hp : a[k]? = some a[k] := List.getElem?_eq_getElem hlt
      have hq : b[k]? = some b[k] := List.getElem?_eq_getElem (by omega)
      have hc : decide (((k : Nat) : Int) < (((a.map encW).length : Nat) : Int)) = true := by simp; omega
      have e1 := take_succ' hp
      have e2 := take_succ' hq
      have hne : ∀ x y, a[k]? = some x → b[k]? = some y → x ≠ y → sameW a b = false := fun x y hx hy hxy => sameW_no (fun h => hxy (by rw [h, hy] at hx; exact (Option.some.inj hx).symm))
      generalize a[k] = p at hp e1
      generalize b[k] = q at hq e2
      obtain ⟨pn, px, pf⟩ := p
      obtain ⟨qn, qx, qf⟩ := q
      by_cases h3 : pn = qn
      · have d3 : (!((ByteArray.mk pn.toArray).toList == (ByteArray.mk qn.toArray).toList)) = false := by rw [bs_eq, decide_eq_true h3]; rfl
        by_cases h4 : px = qx
        · have d4 : (px != qx) = false := by simp [h4]
          by_cases h5 : pf = qf
          · have d5 : (pf != qf) = false := by simp [h5]
            (repeat' (first | refine awp_seq ?_ | refine awp_block ?_ | refine awp_rg hmix ?_ | refine ARun.o rfl ?_ | refine ARun.indexAddr rfl rfl (by omega) (by first | with_reducible exact get_map hp | with_reducible exact get_map hq) rfl rfl rfl rfl rfl (guardF_spec rfl) ?_ | ((first | refine ARun.f ?_ | refine awp_skip ?_ | refine awp_exit ?_); dsimp only [thenA, blockA, AS.bump, List.length_cons, List.length_nil, reduceIte, Nat.reduceEqDiff]) | refine awp_cT rfl ?_ | refine awp_cF rfl ?_ | ((fail_if_success refine ARun.plain rfl ?_); first | refine ARun.kT rfl rfl rfl ?_ | refine ARun.kF rfl rfl rfl ?_ | refine ARun.fork rfl rfl rfl (fun h => ?_) (fun h => ?_)) | refine awp_cond rfl (fun h => ?_) (fun h => ?_)))
            refine ⟨(k + 1, _), ⟨⟨succI k, rfl, rfl, trivial⟩, trivial, Nat.le_refl _⟩, ⟨hlt, ?_⟩, (by dsimp only; omega)⟩
            dsimp only
            rw [e1, e2, hA, h3, h4, h5]
          · have d5 : (pf != qf) = true := by simp [h5]
            rw [hne _ _ hp hq (by simp [h5])]
            (repeat' (first | refine awp_seq ?_ | refine awp_block ?_ | refine awp_rg hmix ?_ | refine ARun.o rfl ?_ | refine ARun.indexAddr rfl rfl (by omega) (by first | with_reducible exact get_map hp | with_reducible exact get_map hq) rfl rfl rfl rfl rfl (guardF_spec rfl) ?_ | ((first | refine ARun.f ?_ | refine awp_skip ?_ | refine awp_exit ?_); dsimp only [thenA, blockA, AS.bump, List.length_cons, List.length_nil, reduceIte, Nat.reduceEqDiff]) | refine awp_cT rfl ?_ | refine awp_cF rfl ?_ | ((fail_if_success refine ARun.plain rfl ?_); first | refine ARun.kT rfl rfl rfl ?_ | refine ARun.kF rfl rfl rfl ?_ | refine ARun.fork rfl rfl rfl (fun h => ?_) (fun h => ?_)) | refine awp_cond rfl (fun h => ?_) (fun h => ?_)))
            exact awp_ret ⟨_, ResL.cons (ResA.tmp (.val _)) .nil, rfl⟩
        · have d4 : (px != qx) = true := by simp [h4]
          rw [hne _ _ hp hq (by simp [h4])]
          (repeat' (first | refine awp_seq ?_ | refine awp_block ?_ | refine awp_rg hmix ?_ | refine ARun.o rfl ?_ | refine ARun.indexAddr rfl rfl (by omega) (by first | with_reducible exact get_map hp | with_reducible exact get_map hq) rfl rfl rfl rfl rfl (guardF_spec rfl) ?_ | ((first | refine ARun.f ?_ | refine awp_skip ?_ | refine awp_exit ?_); dsimp only [thenA, blockA, AS.bump, List.length_cons, List.length_nil, reduceIte, Nat.reduceEqDiff]) | refine awp_cT rfl ?_ | refine awp_cF rfl ?_ | ((fail_if_success refine ARun.plain rfl ?_); first | refine ARun.kT rfl rfl rfl ?_ | refine ARun.kF rfl rfl rfl ?_ | refine ARun.fork rfl rfl rfl (fun h => ?_) (fun h => ?_)) | refine awp_cond rfl (fun h => ?_) (fun h => ?_)))
          exact awp_ret ⟨_, ResL.cons (ResA.tmp (.val _)) .nil, rfl⟩
      · have d3 : (!((ByteArray.mk pn.toArray).toList == (ByteArray.mk qn.toArray).toList)) = true := by rw [bs_eq, decide_eq_false h3]; rfl
        rw [hne _ _ hp hq (by simp [h3])]
        (repeat' (first | refine awp_seq ?_ | refine awp_block ?_ | refine awp_rg hmix ?_ | refine ARun.o rfl ?_ | refine ARun.indexAddr rfl rfl (by omega) (by first | with_reducible exact get_map hp | with_reducible exact get_map hq) rfl rfl rfl rfl rfl (guardF_spec rfl) ?_ | ((first | refine ARun.f ?_ | refine awp_skip ?_ | refine awp_exit ?_); dsimp only [thenA, blockA, AS.bump, List.length_cons, List.length_nil, reduceIte, Nat.reduceEqDiff]) | refine awp_cT rfl ?_ | refine awp_cF rfl ?_ | ((fail_if_success refine ARun.plain rfl ?_); first | refine ARun.kT rfl rfl rfl ?_ | refine ARun.kF rfl rfl rfl ?_ | refine ARun.fork rfl rfl rfl (fun h => ?_) (fun h => ?_)) | refine awp_cond rfl (fun h => ?_) (fun h => ?_)))
        exact awp_ret ⟨_, ResL.cons (ResA.tmp (.val _)) .nil, rfl⟩
    · have hkk : k = a.length := by omega
      subst hkk
      have hc : decide (((a.length : Nat) : Int) < (((a.map encW).length : Nat) : Int)) = false := by simp
      rw [List.take_length, hl, List.take_length] at hA
      rw [sameW_iff.2 hA]
      (repeat' (first | refine awp_seq ?_ | refine awp_block ?_ | refine awp_rg hmix ?_ | refine ARun.o rfl ?_ | ((first | refine ARun.f ?_ | refine awp_skip ?_ | refine awp_exit ?_); dsimp only [thenA, blockA, AS.bump, List.length_cons, List.length_nil, reduceIte, Nat.reduceEqDiff]) | refine awp_cT rfl ?_ | refine awp_cF rfl ?_ | ((fail_if_success refine ARun.plain rfl ?_); first | refine ARun.kT rfl rfl rfl ?_ | refine ARun.kF rfl rfl rfl ?_ | refine ARun.fork rfl rfl rfl (fun h => ?_) (fun h => ?_)) | refine awp_cond rfl (fun h => ?_) (fun h => ?_)))
      exact awp_ret ⟨_, ResL.cons (ResA.tmp (.val _)) .nil, rfl⟩
  · have d1 : ((((a.map encW).length : Nat) : Int) != (((b.map encW).length : Nat) : Int)) = true := by simp; omega
    rw [sameW_no (fun h => hl (by rw [h]))]
    (repeat' (first | refine awp_seq ?_ | refine awp_block ?_ | refine awp_rg hmix ?_ | refine ARun.o rfl ?_ | ((first | refine ARun.f ?_ | refine awp_skip ?_ | refine awp_exit ?_); dsimp only [thenA, blockA, AS.bump, List.length_cons, List.length_nil, reduceIte, Nat.reduceEqDiff]) | refine awp_cT rfl ?_ | refine awp_cF rfl ?_ | ((fail_if_success refine ARun.plain rfl ?_); first | refine ARun.kT rfl rfl rfl ?_ | refine ARun.kF rfl rfl rfl ?_ | refine ARun.fork rfl rfl rfl (fun h => ?_) (fun h => ?_)) | refine awp_cond rfl (fun h => ?_) (fun h => ?_)))
    exact awp_ret ⟨_, ResL.cons (ResA.tmp (.val _)) .nil, rfl⟩
end Go.Proofs.Ytpkkplojpjakiaa.Dict
