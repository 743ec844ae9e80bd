/- kN1, kK1, kK2, kK3, kK4. -/
import Derived.Test.YthlbcakjngcjbaaGreatW1
import Derived.Test.YthlbcakjngcjbaaGreatW2
import Derived.Test.YthlbcakjngcjbaaGreatW3
import Derived.Test.YthlbcakjngcjbaaGreatW4
import Derived.Test.YthlbcakjngcjbaaGreatkW5
import Derived.Test.YthlbcakjngcjbaaGreatkW6
import Derived.Test.YthlbcakjngcjbaaGreatkW7
import Derived.Laws.Strings
set_option linter.unusedVariables false
set_option linter.unusedSimpArgs false
namespace Go.Proofs.YthlbcakjngcjbaaGreat.Mem
open Go Go.RowKit
set_option maxRecDepth 100000
attribute [local irreducible] Decidable.decide awp ARun regK toK
theorem left_c (m : Mm) (here : Int) (hl : m.b.length ≤ 1000000) (h0 : 0 ≤ here ∧ here ≤ m.b.length) : FnC Tryz.prog 159 [.agg [encBs m.b, .sl 2 false (m.old.map encP), .val (.int .i64 here)]] (.val (.int .i64 ((((m.b.map encB).length : Nat) : Int) - here))) := by
 refine goF Tryz.func159 (closedL_cons (.agg (closedL_cons (closed_bs _) (closedL_cons (closed_map encP_closed) (closedL_cons (.val _) closedL_nil)))) closedL_nil) (fun w0 st0 => ?_)
 dsimp only [frOf]
 (repeat' (first | refine goA ?_ | refine goB ?_ | ((fail_if_success refine ARun.plain rfl ?_); refine ARun.fork rfl rfl rfl (fun h => ?_) (fun h => ?_)) | refine awp_cond rfl (fun h => ?_) (fun h => ?_)))
 refine awp_ret ⟨_, ResL.cons (ResA.tmp (.val _)) .nil, rfl⟩
def layD (m : Mm) (here : Int) (b : List UInt8) : Mm × Int × Int := if (m.b.length : Int) - here < b.length then (m, here, -8) else ((writeD m here b).1, here + b.length, 0)
def enc3m (r : Mm × Int × Int) : AV := .tup [.agg (encM r.1), .val (.int .i64 r.2.1), .val (.int .i64 r.2.2)]
theorem lay_c (m : Mm) (here : Int) (b : List UInt8) (hl : m.b.length ≤ 1000000) (ho : m.old.length ≤ 1000000) (hb : b.length ≤ 1000000) (h0 : 0 ≤ here ∧ here ≤ m.b.length) : FnC Tryz.prog 137 [.agg (encM m), .val (.int .i64 here), encBs b] (enc3m (layD m here b)) := by
 have c1 := left_c m here hl h0
 have c2 := write_c m here b hl ho hb
 refine goF Tryz.func137 (closedL_cons (closed_m m) (closedL_cons (.val _) (closedL_cons (closed_bs b) closedL_nil))) (fun w0 st0 => ?_)
 dsimp only [frOf]
 (repeat' (first | refine goA ?_ | refine ARun.makeFunc rfl rfl rfl (guardF_spec rfl) ?_ | refine callCX (c1) rfl rfl rfl rfl ?_ | refine cX c2 ?_ | refine goB ?_ | ((fail_if_success refine ARun.plain rfl ?_); refine ARun.fork rfl rfl rfl (fun h => ?_) (fun h => ?_)) | refine awp_cond rfl (fun h => ?_) (fun h => ?_)))
 all_goals (simp only [decide_eq_true_eq, decide_eq_false_iff_not, List.length_map] at *)
 ·rw [show layD m here b = (m, here, -8) from if_pos (by omega)]
  exact awp_ret ⟨_, (ResL.cons (ResA.agg rfl rfl rfl rfl rfl rfl rfl (RL.cons (.closed _ (closed_bs _)) (RL.cons (.closed _ (closed_map encP_closed)) (RL.nil _)))) (ResL.cons (ResA.tmp (.val _)) (ResL.cons (ResA.tmp (.val _)) .nil))), rfl⟩
 ·rw [show layD m here b = ((writeD m here b).1, here + b.length, 0) from if_neg (by omega)]
  refine awp_ret ⟨_, (ResL.cons (ResA.agg rfl rfl rfl rfl rfl rfl rfl (RL.cons (.closed _ (closed_bs _)) (RL.cons (.closed _ (closed_map encP_closed)) (RL.nil _)))) (ResL.cons (ResA.tmp (.val _)) (ResL.cons (ResA.tmp (.val _)) .nil))), ?_⟩
  simp [retAV, enc3m, lkA, encM, encBs]
theorem ref_lay_c (m : Mm) (here : Int) (b : List UInt8) (hl : m.b.length ≤ 1000000) (ho : m.old.length ≤ 1000000) (hb : b.length ≤ 1000000) (h0 : 0 ≤ here ∧ here ≤ m.b.length) : FnC Tryz.prog 141 [.agg (encM m), .val (.int .i64 here), encBs b] (enc3m (layD m here b)) := by
 have c2 := ref_write_c m here b hl ho hb
 refine goF Tryz.func141 (closedL_cons (closed_m m) (closedL_cons (.val _) (closedL_cons (closed_bs b) closedL_nil))) (fun w0 st0 => ?_)
 dsimp only [frOf]
 (repeat' (first | refine goA ?_ | refine cX c2 ?_ | refine goB ?_ | ((fail_if_success refine ARun.plain rfl ?_); refine ARun.fork rfl rfl rfl (fun h => ?_) (fun h => ?_)) | refine awp_cond rfl (fun h => ?_) (fun h => ?_)))
 all_goals (simp only [decide_eq_true_eq, decide_eq_false_iff_not, List.length_map] at *)
 ·rw [show layD m here b = (m, here, -8) from if_pos (by omega)]
  exact awp_ret ⟨_, (ResL.cons (ResA.agg rfl rfl rfl rfl rfl rfl rfl (RL.cons (.closed _ (closed_bs _)) (RL.cons (.closed _ (closed_map encP_closed)) (RL.nil _)))) (ResL.cons (ResA.tmp (.val _)) (ResL.cons (ResA.tmp (.val _)) .nil))), rfl⟩
 ·rw [show layD m here b = ((writeD m here b).1, here + b.length, 0) from if_neg (by omega)]
  refine awp_ret ⟨_, (ResL.cons (ResA.agg rfl rfl rfl rfl rfl rfl rfl (RL.cons (.closed _ (closed_bs _)) (RL.cons (.closed _ (closed_map encP_closed)) (RL.nil _)))) (ResL.cons (ResA.tmp (.val _)) (ResL.cons (ResA.tmp (.val _)) .nil))), ?_⟩
  simp [retAV, enc3m, lkA, encM, encBs]
def commaD (m : Mm) (here n : Int) : Mm × Int × Int := if here.tmod 8 ≠ 0 then (m, here, -23) else layD m here (putB n)
theorem comma_c (m : Mm) (here n : Int) (hl : m.b.length ≤ 1000000) (ho : m.old.length ≤ 1000000) (h0 : 0 ≤ here ∧ here ≤ m.b.length) : FnC Tryz.prog 145 [.agg (encM m), .val (.int .i64 here), .val (.int .i64 n)] (enc3m (commaD m here n)) := by
 have c1 := put_c n
 have c2 := lay_c m here (putB n) hl ho (by rw [putB_len]; omega) h0
 refine goF Tryz.func145 (closedL_cons (closed_m m) (closedL_cons (.val _) (closedL_cons (.val _) closedL_nil))) (fun w0 st0 => ?_)
 dsimp only [frOf]
 by_cases h : here.tmod 8 = 0
 ·have d : (here.tmod 8 != 0) = false := by simp [h]
  rw [show commaD m here n = layD m here (putB n) from if_neg (by simp [h])]
  (repeat' (first | refine goA ?_ | refine cX c1 ?_ | refine cX c2 ?_ | refine goB ?_ | ((fail_if_success refine ARun.plain rfl ?_); refine ARun.fork rfl rfl rfl (fun h => ?_) (fun h => ?_)) | refine awp_cond rfl (fun h => ?_) (fun h => ?_)))
  exact awp_ret ⟨_, (ResL.cons (ResA.agg rfl rfl rfl rfl rfl rfl rfl (RL.cons (.closed _ (closed_bs _)) (RL.cons (.closed _ (closed_map encP_closed)) (RL.nil _)))) (ResL.cons (ResA.tmp (.val _)) (ResL.cons (ResA.tmp (.val _)) .nil))), rfl⟩
 ·have d : (here.tmod 8 != 0) = true := by simp [h]
  rw [show commaD m here n = (m, here, -23) from if_pos h]
  (repeat' (first | refine goA ?_ | refine goB ?_ | ((fail_if_success refine ARun.plain rfl ?_); refine ARun.fork rfl rfl rfl (fun h => ?_) (fun h => ?_)) | refine awp_cond rfl (fun h => ?_) (fun h => ?_)))
  exact awp_ret ⟨_, (ResL.cons (ResA.agg rfl rfl rfl rfl rfl rfl rfl (RL.cons (.closed _ (closed_bs _)) (RL.cons (.closed _ (closed_map encP_closed)) (RL.nil _)))) (ResL.cons (ResA.tmp (.val _)) (ResL.cons (ResA.tmp (.val _)) .nil))), rfl⟩
theorem ref_comma_c (m : Mm) (here n : Int) (hl : m.b.length ≤ 1000000) (ho : m.old.length ≤ 1000000) (h0 : 0 ≤ here ∧ here ≤ m.b.length) : FnC Tryz.prog 124 [.agg (encM m), .val (.int .i64 here), .val (.int .i64 n)] (enc3m (commaD m here n)) := by
 have c1 := ref_put_c n
 have c2 := ref_lay_c m here (putB n) hl ho (by rw [putB_len]; omega) h0
 refine goF Tryz.func124 (closedL_cons (closed_m m) (closedL_cons (.val _) (closedL_cons (.val _) closedL_nil))) (fun w0 st0 => ?_)
 dsimp only [frOf]
 by_cases h : here.tmod 8 = 0
 ·have d : (here.tmod 8 != 0) = false := by simp [h]
  rw [show commaD m here n = layD m here (putB n) from if_neg (by simp [h])]
  (repeat' (first | refine goA ?_ | refine cX c1 ?_ | refine cX c2 ?_ | refine goB ?_ | ((fail_if_success refine ARun.plain rfl ?_); refine ARun.fork rfl rfl rfl (fun h => ?_) (fun h => ?_)) | refine awp_cond rfl (fun h => ?_) (fun h => ?_)))
  exact awp_ret ⟨_, (ResL.cons (ResA.agg rfl rfl rfl rfl rfl rfl rfl (RL.cons (.closed _ (closed_bs _)) (RL.cons (.closed _ (closed_map encP_closed)) (RL.nil _)))) (ResL.cons (ResA.tmp (.val _)) (ResL.cons (ResA.tmp (.val _)) .nil))), rfl⟩
 ·have d : (here.tmod 8 != 0) = true := by simp [h]
  rw [show commaD m here n = (m, here, -23) from if_pos h]
  (repeat' (first | refine goA ?_ | refine goB ?_ | ((fail_if_success refine ARun.plain rfl ?_); refine ARun.fork rfl rfl rfl (fun h => ?_) (fun h => ?_)) | refine awp_cond rfl (fun h => ?_) (fun h => ?_)))
  exact awp_ret ⟨_, (ResL.cons (ResA.agg rfl rfl rfl rfl rfl rfl rfl (RL.cons (.closed _ (closed_bs _)) (RL.cons (.closed _ (closed_map encP_closed)) (RL.nil _)))) (ResL.cons (ResA.tmp (.val _)) (ResL.cons (ResA.tmp (.val _)) .nil))), rfl⟩
def padN (here : Int) : Nat := ((8 - here % 8) % 8).toNat
def alignD (m : Mm) (here : Int) : Mm × Int × Int := layD m here (List.replicate (padN here) 0)
theorem clo_rep {n : Nat} : ∀ el x, el ∈ List.replicate n ([Value.int .u8 0].map zv) → x ∈ el → Closed x := fun el x hel hx => by
 rw [(List.mem_replicate.1 hel).2] at hx
 rw [List.mem_singleton.1 hx]
 exact .val _
theorem align_c (m : Mm) (here : Int) (hl : m.b.length ≤ 1000000) (ho : m.old.length ≤ 1000000) (h0 : 0 ≤ here ∧ here ≤ m.b.length) : FnC Tryz.prog 111 [.agg (encM m), .val (.int .i64 here)] (enc3m (alignD m here)) := by
 have hp : padN here ≤ 7 := by unfold padN; omega
 have c2 := lay_c m here (List.replicate (padN here) 0) hl ho (by simp; omega) h0
 have e1 : here.tmod 8 = here % 8 := Int.tmod_eq_emod_of_nonneg h0.1
 have e2 : (8 - here.tmod 8).tmod 8 = ((padN here : Nat) : Int) := by
  rw [e1, Int.tmod_eq_emod_of_nonneg (by omega)]
  unfold padN
  omega
 have e3 : encBs (List.replicate (padN here) 0) = .sl 1 false (List.replicate (padN here) ([Value.int .u8 0].map zv)) := by
  unfold encBs
  rw [List.map_replicate]
  rfl
 rw [e3] at c2
 unfold alignD
 refine goF Tryz.func111 (closedL_cons (closed_m m) (closedL_cons (.val _) closedL_nil)) (fun w0 st0 => ?_)
 dsimp only [frOf]
 generalize hq : padN here = q at *
 (repeat' (first | refine goA ?_ | refine ARun.makeSliceN (n := q) rfl e2 rfl e2 rfl rfl rfl rfl rfl rfl lensT rfl (guardF_spec rfl) lensT ?_ | refine callGX [(13, _)] (c2) (BsOk.cons rfl (by first | exact own_closed_map encB_closed | exact clo_rep) (BsOk.nil _)) rfl fzT rfl rfl ?_ | refine goB ?_ | ((fail_if_success refine ARun.plain rfl ?_); refine ARun.fork rfl rfl rfl (fun h => ?_) (fun h => ?_)) | refine awp_cond rfl (fun h => ?_) (fun h => ?_)))
 exact awp_ret ⟨_, (ResL.cons (ResA.agg rfl rfl rfl rfl rfl rfl rfl (RL.cons (.closed _ (closed_bs _)) (RL.cons (.closed _ (closed_map encP_closed)) (RL.nil _)))) (ResL.cons (ResA.tmp (.val _)) (ResL.cons (ResA.tmp (.val _)) .nil))), rfl⟩
theorem ref_align_c (m : Mm) (here : Int) (hl : m.b.length ≤ 1000000) (ho : m.old.length ≤ 1000000) (h0 : 0 ≤ here ∧ here ≤ m.b.length) : FnC Tryz.prog 114 [.agg (encM m), .val (.int .i64 here)] (enc3m (alignD m here)) := by
 have hp : padN here ≤ 7 := by unfold padN; omega
 have c2 := ref_lay_c m here (List.replicate (padN here) 0) hl ho (by simp; omega) h0
 unfold alignD
 refine goF Tryz.func114 (closedL_cons (closed_m m) (closedL_cons (.val _) closedL_nil)) (fun w0 st0 => ?_)
 dsimp only [frOf]
 (repeat' (first | refine goA ?_ | refine goB ?_ | ((fail_if_success refine ARun.plain rfl ?_); refine ARun.fork rfl rfl rfl (fun h => ?_) (fun h => ?_)) | refine awp_cond rfl (fun h => ?_) (fun h => ?_)))
 refine awp_ownNil 7 1 rfl rfl rfl ?_
 refine awp_loopT (T := Nat × Nat × Nat) (fun t => ⟨[(1, .val (.int .i64 here)), (2, .ptr 2 0 0 0), (4, .ptr 4 1 0 0), (7, .own 7 t.2.1 0 ((List.replicate t.1 (0 : UInt8)).map encB).length)], [(7, some ⟨t.2.1, 1, (List.replicate t.1 (0 : UInt8)).map encB⟩), (2, some ⟨0, 2, [encM m]⟩), (4, some ⟨1, 2, [[.sl 0 true [], .sl 0 true []]]⟩)], t.2.2⟩)
  (fun t => t.1 ≤ padN here) (fun t => padN here - t.1) (0, _, _) (Nat.zero_le _) ⟨⟨rfl, rfl, rfl, rfl, trivial⟩, ⟨rfl, rfl, rfl, trivial⟩, Nat.le_refl _⟩ (fun t ht => ?_)
 obtain ⟨k, g, gc⟩ := t
 dsimp only at ht ⊢
 have hlr : ((List.replicate k (0 : UInt8)).map encB).length = k := by simp
 have e1 : (here + ((((List.replicate k (0 : UInt8)).map encB).length : Nat) : Int)).tmod 8 = (here + k) % 8 := by
  rw [List.length_map, List.length_replicate, Int.tmod_eq_emod_of_nonneg (by omega)]
 by_cases hlt : k < padN here
 ·have hc : ((here + ((((List.replicate k (0 : UInt8)).map encB).length : Nat) : Int)).tmod 8 != 0) = true := by
   rw [e1, bne_iff_ne]
   unfold padN at hlt
   omega
  have hs : (List.replicate (k + 1) (0 : UInt8)).map encB = (List.replicate k (0 : UInt8)).map encB ++ [encB 0] := by
   rw [List.replicate_succ', List.map_append]
   rfl
  have hll : k ≤ 8 := by omega
  (repeat' (first | refine goA ?_ | refine appO rfl ?_ | refine goB ?_ | ((fail_if_success refine ARun.plain rfl ?_); refine ARun.fork rfl rfl rfl (fun h => ?_) (fun h => ?_)) | refine awp_cond rfl (fun h => ?_) (fun h => ?_)))
  exact ⟨(k + 1, _, _), ⟨⟨rfl, rfl, rfl, (by dsimp only; rw [hs]; rfl), trivial⟩, ⟨(by dsimp only; rw [hs]; rfl), rfl, rfl, trivial⟩, Nat.le_refl _⟩, hlt, (by dsimp only; omega)⟩
 ·have hk : k = padN here := by omega
  subst hk
  have hc : ((here + ((((List.replicate (padN here) (0 : UInt8)).map encB).length : Nat) : Int)).tmod 8 != 0) = false := by
   rw [e1, bne_eq_false_iff_eq]
   unfold padN
   omega
  (repeat' (first | refine goA ?_ | refine callGX [(7, _)] (c2) (BsOk.cons rfl (by first | exact own_closed_map encB_closed | exact clo_rep) (BsOk.nil _)) rfl fzT rfl rfl ?_ | refine goB ?_ | ((fail_if_success refine ARun.plain rfl ?_); refine ARun.fork rfl rfl rfl (fun h => ?_) (fun h => ?_)) | refine awp_cond rfl (fun h => ?_) (fun h => ?_)))
  exact awp_ret ⟨_, (ResL.cons (ResA.agg rfl rfl rfl rfl rfl rfl rfl (RL.cons (.closed _ (closed_bs _)) (RL.cons (.closed _ (closed_map encP_closed)) (RL.nil _)))) (ResL.cons (ResA.tmp (.val _)) (ResL.cons (ResA.tmp (.val _)) .nil))), rfl⟩
end Go.Proofs.YthlbcakjngcjbaaGreat.Mem
namespace Go.Proofs.YthlbcakjngcjbaaGreat.Dict
open Go Go.RowKit
set_option maxRecDepth 100000
attribute [local irreducible] Decidable.decide awp ARun regK toK
abbrev St (l : List UInt8) : AV := .val (.string ⟨l.toArray⟩)
abbrev Bs := List UInt8
theorem bs_eq (l l' : List UInt8) : ((ByteArray.mk l.toArray).toList == (ByteArray.mk l'.toArray).toList) = decide (l = l') := by
 rw [ByteArray.toList_eq, ByteArray.toList_eq]
 show (l == l') = _
 rw [Bool.eq_iff_iff, beq_iff_eq, decide_eq_true_eq]
theorem st_app (l l' : List UInt8) : (ByteArray.mk l.toArray) ++ (ByteArray.mk l'.toArray) = ByteArray.mk (l ++ l').toArray := by
 apply ByteArray.ext
 simp
theorem st_size (l : List UInt8) : (ByteArray.mk l.toArray).size = l.length := rfl
def up1 (c : UInt8) : UInt8 := if 97 ≤ c.toNat ∧ c.toNat ≤ 122 then c - 32 else c
def upL (l : Bs) : Bs := l.map up1
theorem up1_yes {c : UInt8} (h : 97 ≤ c.toNat) (h' : c.toNat ≤ 122) : ((up1 c).toNat : Int) = (c.toNat : Int) - 32 := by
 unfold up1
 rw [if_pos ⟨h, h'⟩, UInt8.toNat_sub]
 have e : (32 : UInt8).toNat = 32 := rfl
 rw [e]
 omega
theorem up1_no {c : UInt8} (h : ¬(97 ≤ c.toNat ∧ c.toNat ≤ 122)) : up1 c = c := if_neg h
theorem encB_up {c : UInt8} (h : 97 ≤ c.toNat) (h' : c.toNat ≤ 122) : encB (up1 c) = [.val (.int .u8 ((c.toNat : Int) - 32))] := by
 unfold encB
 rw [up1_yes h h']
theorem wrapU (n : Int) (h : 0 ≤ n) (h' : n ≤ 255) : IntKind.u8.wrap n = n := by rw [IntKind.wrap_u8]; omega
theorem up_l (l : Bs) (i : Nat) (c : UInt8) (hc : l[i]? = some c) : FnL Tryz.prog 165 [.ptr 1000 0 i 0] [(1, l.map encB)] (.tup []) [(l.set i (up1 c)).map encB] := by
 refine FnL.of_awp (T := tt) (ok := tok) Tryz.func165 (by kernel_rfl) rfl (by kernel_rfl) (by kernel_rfl) (fun w0 st0 lent c0 => ?_)
 dsimp only [frOf, hpFrom, List.length_cons, List.length_nil]
 have he : (l.map encB)[i]? = some (encB c) := get_map hc
 have hl : (l.map encB).length = l.length := List.length_map _
 have hi := (List.getElem?_eq_some_iff.1 hc).1
 have hc8 := c.toNat_lt
 by_cases h1 : 97 ≤ c.toNat
 ·have d1 : decide ((97 : Int) ≤ (c.toNat : Int)) = true := decide_eq_true (by omega)
  by_cases h2 : c.toNat ≤ 122
  ·have d2 : decide ((c.toNat : Int) ≤ 122) = true := decide_eq_true (by omega)
   have hs : (l.map encB).set i [.val (.int .u8 ((c.toNat : Int) - 32))] = (l.set i (up1 c)).map encB := by rw [← encB_up h1 h2, List.map_set]
   have hw := wrapU ((c.toNat : Int) - 32) (by omega) (by omega)
   rw [← hw] at hs
   (repeat' (first | refine goA ?_ | refine ARun.nilCheckP rfl rfl (guardF_spec rfl) ?_ | refine ARun.loadOne rfl rfl rfl he rfl rfl rfl rfl (guardF_spec rfl) ?_ | refine ARun.storeEl rfl rfl rfl (by omega) (map_len (fun _ => rfl)) rfl rfl rfl rfl rfl hs (guardF_spec rfl) ?_ | refine goB ?_ | ((fail_if_success refine ARun.plain rfl ?_); refine ARun.fork rfl rfl rfl (fun h => ?_) (fun h => ?_)) | refine awp_cond rfl (fun h => ?_) (fun h => ?_)))
   first | exact ⟨_, ResL.nil, rfl, ⟨_, rfl, RlR.closed (own_closed_map encB_closed)⟩, trivial⟩ | exact awp_skip ⟨_, ResL.nil, rfl, ⟨_, rfl, RlR.closed (own_closed_map encB_closed)⟩, trivial⟩
  ·have d2 : decide ((c.toNat : Int) ≤ 122) = false := decide_eq_false (by omega)
   rw [up1_no (by omega), show l.set i c = l by rw [← (List.getElem?_eq_some_iff.1 hc).2]; exact List.set_getElem_self hi]
   (repeat' (first | refine goA ?_ | refine ARun.nilCheckP rfl rfl (guardF_spec rfl) ?_ | refine ARun.loadOne rfl rfl rfl he rfl rfl rfl rfl (guardF_spec rfl) ?_ | refine goB ?_ | ((fail_if_success refine ARun.plain rfl ?_); refine ARun.fork rfl rfl rfl (fun h => ?_) (fun h => ?_)) | refine awp_cond rfl (fun h => ?_) (fun h => ?_)))
   first | exact ⟨_, ResL.nil, rfl, ⟨_, rfl, RlR.closed (own_closed_map encB_closed)⟩, trivial⟩ | exact awp_skip ⟨_, ResL.nil, rfl, ⟨_, rfl, RlR.closed (own_closed_map encB_closed)⟩, trivial⟩
 ·have d1 : decide ((97 : Int) ≤ (c.toNat : Int)) = false := decide_eq_false (by omega)
  rw [up1_no (by omega), show l.set i c = l by rw [← (List.getElem?_eq_some_iff.1 hc).2]; exact List.set_getElem_self hi]
  (repeat' (first | refine goA ?_ | refine ARun.nilCheckP rfl rfl (guardF_spec rfl) ?_ | refine ARun.loadOne rfl rfl rfl he rfl rfl rfl rfl (guardF_spec rfl) ?_ | refine goB ?_ | ((fail_if_success refine ARun.plain rfl ?_); refine ARun.fork rfl rfl rfl (fun h => ?_) (fun h => ?_)) | refine awp_cond rfl (fun h => ?_) (fun h => ?_)))
  first | exact ⟨_, ResL.nil, rfl, ⟨_, rfl, RlR.closed (own_closed_map encB_closed)⟩, trivial⟩ | exact awp_skip ⟨_, ResL.nil, rfl, ⟨_, rfl, RlR.closed (own_closed_map encB_closed)⟩, trivial⟩
theorem map_upd {α : Type} (f : α → α) (l : List α) (i : Nat) (c : α) (h : l[i]? = some c) : ((l.take i).map f ++ l.drop i).set i (f c) = (l.take (i + 1)).map f ++ l.drop (i + 1) := by
 have hi := (List.getElem?_eq_some_iff.1 h).1
 have hl : ((l.take i).map f).length = i := by rw [List.length_map, List.length_take]; omega
 rw [List.set_append_right _ _ (by omega), hl, Nat.sub_self, List.drop_eq_getElem_cons hi, (List.getElem?_eq_some_iff.1 h).2, List.set_cons_zero, take_succ' h, List.map_append, List.append_assoc]
 rfl
theorem upd_get {α : Type} (f : α → α) (l : List α) (i : Nat) (c : α) (h : l[i]? = some c) : ((l.take i).map f ++ l.drop i)[i]? = some c := by
 have hi := (List.getElem?_eq_some_iff.1 h).1
 have hl : ((l.take i).map f).length = i := by rw [List.length_map, List.length_take]; omega
 rw [List.getElem?_append_right (by omega), hl, Nat.sub_self, List.getElem?_drop, Nat.add_zero, h]
set_option maxHeartbeats 4000000 in
theorem upper_c (l : Bs) (hl : l.length ≤ 1000000) : FnC Tryz.prog 147 [St l] (St (upL l)) := by
 refine goF Tryz.func147 (closedL_cons (.val _) closedL_nil) (fun w0 st0 => ?_)
 dsimp only [frOf]
 (repeat' (first | refine goA ?_ | refine ARun.strBytesO rfl (by rw [st_size]; simp only [maxLen]; omega) rfl rfl rfl rfl rfl rfl rfl (guardF_spec rfl) ?_ | refine goB ?_ | ((fail_if_success refine ARun.plain rfl ?_); refine ARun.fork rfl rfl rfl (fun h => ?_) (fun h => ?_)) | refine awp_cond rfl (fun h => ?_) (fun h => ?_)))
 refine awp_loopT (T := Nat × Nat) (fun t => ⟨[(10, .val (.int .i64 (t.1 : Nat))), (9, .val (.int .i64 (l.length : Nat))), (4, .val (.func (.func 165) #[] #[])), (3, .own 7 2 0 l.length)], [(7, some ⟨2, 1, ((l.take t.1).map up1 ++ l.drop t.1).map encB⟩)], t.2⟩)
  (fun t => t.1 ≤ l.length) (fun t => l.length - t.1) (0, _) (Nat.zero_le _) ⟨⟨rfl, rfl, rfl, rfl, trivial⟩, ⟨rfl, trivial⟩, Nat.le_refl _⟩ (fun t ht => ?_)
 obtain ⟨i, gc⟩ := t
 dsimp only at ht ⊢
 by_cases hlt : i < l.length
 ·have hc : decide (((i : Nat) : Int) < (l.length : Nat)) = true := decide_eq_true (by omega)
  have h1 : l[i]? = some l[i] := List.getElem?_eq_getElem hlt
  generalize l[i] = ch at h1
  have hu := up_l ((l.take i).map up1 ++ l.drop i) i ch (upd_get up1 l i ch h1)
  rw [map_upd up1 l i ch h1] at hu
  have hln : (((l.take i).map up1 ++ l.drop i).map encB).length = l.length := by simp; omega
  have hi0 : ((i : Nat) : Int).toNat = i := Int.toNat_natCast i
  have q1 : RelL (Ln ([(7, (⟨2, 1, ((l.take i).map up1 ++ l.drop i).map encB⟩ : Blk))].map fun p => (p.1, p.2.gen))) [.ptr 7 2 (0 + ((i : Nat) : Int).toNat) 0] [.ptr 1000 0 i 0] := by
   rw [hi0, Nat.zero_add]
   exact RelL.cons (.ptr (j := 0) i 0 rfl) (RelL.nil _)
  (repeat' (first | refine goA ?_ | refine ARun.indexAddr_own rfl rfl rfl rfl (by omega) (by omega) rfl rfl rfl rfl rfl (guardF_spec rfl) ?_ | refine callLX [(7, ⟨2, 1, ((l.take i).map up1 ++ l.drop i).map encB⟩)] [(7, ⟨2, 1, ((l.take (i + 1)).map up1 ++ l.drop (i + 1)).map encB⟩)] hu (.inl ⟨rfl, rfl, rfl⟩) ⟨rfl, trivial⟩ q1 ⟨⟨rfl, rfl, RelR.id (fun el x h1 h2 => .wk (.same _) (own_closed_map encB_closed el x h1 h2))⟩, trivial⟩ ⟨⟨rfl, rfl, rfl, RelR.id (fun el x h1 h2 => .same _ (own_closed_map encB_closed el x h1 h2))⟩, trivial⟩ (.same _ (.tup closedL_nil)) rfl rfl rfl ?_ | refine goB ?_ | ((fail_if_success refine ARun.plain rfl ?_); refine ARun.fork rfl rfl rfl (fun h => ?_) (fun h => ?_)) | refine awp_cond rfl (fun h => ?_) (fun h => ?_)))
  exact ⟨(i + 1, _), ⟨⟨succI i, rfl, rfl, rfl, trivial⟩, ⟨rfl, trivial⟩, Nat.le_refl _⟩, hlt, (by dsimp only; omega)⟩
 ·have hii : i = l.length := by omega
  subst hii
  have hc : decide (((l.length : Nat) : Int) < (l.length : Nat)) = false := decide_eq_false (by omega)
  rw [List.take_length, List.drop_length, List.append_nil]
  (repeat' (first | refine goA ?_ | refine ARun.bytesStr (SrcA.ownW rfl rfl rfl (by simp)) rfl rfl rfl rfl rfl rfl rfl rfl (guardF_spec rfl) ?_ | refine goB ?_ | ((fail_if_success refine ARun.plain rfl ?_); refine ARun.fork rfl rfl rfl (fun h => ?_) (fun h => ?_)) | refine awp_cond rfl (fun h => ?_) (fun h => ?_)))
  exact awp_ret ⟨_, ResL.cons (ResA.tmp (.val _)) .nil, rfl⟩
end Go.Proofs.YthlbcakjngcjbaaGreat.Dict
namespace Go.Proofs.YthlbcakjngcjbaaGreat.Dict
open Go Go.RowKit
set_option maxRecDepth 100000
attribute [local irreducible] Decidable.decide awp ARun regK toK
theorem upL_len (l : Bs) : (upL l).length = l.length := List.length_map _
set_option maxHeartbeats 4000000 in
theorem ref_upper_c (l : Bs) (hl : l.length ≤ 1000000) : FnC Tryz.prog 125 [St l] (St (upL l)) := by
 refine goF Tryz.func125 (closedL_cons (.val _) closedL_nil) (fun w0 st0 => ?_)
 dsimp only [frOf]
 (repeat' (first | refine goA ?_ | refine goB ?_ | ((fail_if_success refine ARun.plain rfl ?_); refine ARun.fork rfl rfl rfl (fun h => ?_) (fun h => ?_)) | refine awp_cond rfl (fun h => ?_) (fun h => ?_)))
 refine awp_loopT (T := Nat × Nat) (fun t => ⟨[(4, .val (.int .i64 (t.1 : Nat))), (3, St (upL (l.take t.1))), (0, St l)], [], t.2⟩)
  (fun t => t.1 ≤ l.length) (fun t => l.length - t.1) (0, _) (Nat.zero_le _) ⟨⟨rfl, rfl, rfl, trivial⟩, trivial, Nat.le_refl _⟩ (fun t ht => ?_)
 obtain ⟨i, gc⟩ := t
 dsimp only at ht ⊢
 have hz : (ByteArray.mk l.toArray).size = l.length := rfl
 have hz2 : (ByteArray.mk (upL (l.take i)).toArray).size ≤ 1000000 := by rw [st_size, upL_len, List.length_take]; omega
 by_cases hlt : i < l.length
 ·have hc : decide (((i : Nat) : Int) < ((ByteArray.mk l.toArray).size : Nat)) = true := decide_eq_true (by omega)
  have h1 : l[i]? = some l[i] := List.getElem?_eq_getElem hlt
  generalize l[i] = ch at h1
  have hs : (ByteArray.mk l.toArray).data[((i : Nat) : Int).toNat]? = some ch := by rw [Int.toNat_natCast]; simpa using h1
  have hc8 := ch.toNat_lt
  have hz3 : (ByteArray.mk [up1 ch].toArray).size = 1 := rfl
  have hz4 : (ByteArray.mk [ch].toArray).size = 1 := rfl
  have hnext : ∀ b : UInt8, b = up1 ch → (ByteArray.mk (upL (l.take i)).toArray) ++ (ByteArray.mk [b].toArray) = ByteArray.mk (upL (l.take (i + 1))).toArray := fun b hb => by
   rw [st_app, take_succ' h1, hb]
   unfold upL
   rw [List.map_append]
   rfl
  by_cases h2 : 97 ≤ ch.toNat
  ·have d1 : decide ((97 : Int) ≤ (ch.toNat : Int)) = true := decide_eq_true (by omega)
   by_cases h3 : ch.toNat ≤ 122
   ·have d2 : decide ((ch.toNat : Int) ≤ 122) = true := decide_eq_true (by omega)
    have hw := wrapU ((ch.toNat : Int) - 32) (by omega) (by omega)
    have hel : [[AV.val (.int .u8 (IntKind.u8.wrap ((ch.toNat : Int) - 32)))]] = [up1 ch].map encB := by rw [hw, List.map_cons, encB_up h2 h3]; rfl
    have hnx := hnext _ rfl
    (repeat' (first | refine goA ?_ | refine ARun.index_str rfl rfl (by omega) hs rfl rfl rfl (guardF_spec rfl) ?_ | refine ARun.bytesStr (SrcA.sl rfl (.inr rfl)) hel rfl rfl rfl rfl rfl rfl rfl (guardF_spec rfl) ?_ | refine goB ?_ | ((fail_if_success refine ARun.plain rfl ?_); refine ARun.fork rfl rfl rfl (fun h => ?_) (fun h => ?_)) | refine awp_cond rfl (fun h => ?_) (fun h => ?_)))
    exact ⟨(i + 1, _), ⟨⟨succI i, congrArg (fun s => AV.val (Value.string s)) hnx, rfl, trivial⟩, trivial, Nat.le_refl _⟩, hlt, (by dsimp only; omega)⟩
   ·have d2 : decide ((ch.toNat : Int) ≤ 122) = false := decide_eq_false (by omega)
    have hel : [[AV.val (.int .u8 (ch.toNat : Int))]] = [ch].map encB := rfl
    have hnx := hnext ch (up1_no (by omega)).symm
    (repeat' (first | refine goA ?_ | refine ARun.index_str rfl rfl (by omega) hs rfl rfl rfl (guardF_spec rfl) ?_ | refine ARun.bytesStr (SrcA.sl rfl (.inr rfl)) hel rfl rfl rfl rfl rfl rfl rfl (guardF_spec rfl) ?_ | refine goB ?_ | ((fail_if_success refine ARun.plain rfl ?_); refine ARun.fork rfl rfl rfl (fun h => ?_) (fun h => ?_)) | refine awp_cond rfl (fun h => ?_) (fun h => ?_)))
    exact ⟨(i + 1, _), ⟨⟨succI i, congrArg (fun s => AV.val (Value.string s)) hnx, rfl, trivial⟩, trivial, Nat.le_refl _⟩, hlt, (by dsimp only; omega)⟩
  ·have d1 : decide ((97 : Int) ≤ (ch.toNat : Int)) = false := decide_eq_false (by omega)
   have hel : [[AV.val (.int .u8 (ch.toNat : Int))]] = [ch].map encB := rfl
   have hnx := hnext ch (up1_no (by omega)).symm
   (repeat' (first | refine goA ?_ | refine ARun.index_str rfl rfl (by omega) hs rfl rfl rfl (guardF_spec rfl) ?_ | refine ARun.bytesStr (SrcA.sl rfl (.inr rfl)) hel rfl rfl rfl rfl rfl rfl rfl (guardF_spec rfl) ?_ | refine goB ?_ | ((fail_if_success refine ARun.plain rfl ?_); refine ARun.fork rfl rfl rfl (fun h => ?_) (fun h => ?_)) | refine awp_cond rfl (fun h => ?_) (fun h => ?_)))
   exact ⟨(i + 1, _), ⟨⟨succI i, congrArg (fun s => AV.val (Value.string s)) hnx, rfl, trivial⟩, trivial, Nat.le_refl _⟩, hlt, (by dsimp only; omega)⟩
 ·have hii : i = l.length := by omega
  subst hii
  have hc : decide (((l.length : Nat) : Int) < ((ByteArray.mk l.toArray).size : Nat)) = false := decide_eq_false (by omega)
  rw [List.take_length]
  (repeat' (first | refine goA ?_ | refine goB ?_ | ((fail_if_success refine ARun.plain rfl ?_); refine ARun.fork rfl rfl rfl (fun h => ?_) (fun h => ?_)) | refine awp_cond rfl (fun h => ?_) (fun h => ?_)))
  exact awp_ret ⟨_, ResL.cons (ResA.tmp (.val _)) .nil, rfl⟩
def alikeD (a b : Bs) : Bool := decide (upL a = upL b)
theorem alike_c (a b : Bs) (ha : a.length ≤ 1000000) (hb : b.length ≤ 1000000) : FnC Tryz.prog 123 [St a, St b] (.val (.bool (alikeD a b))) := by
 have c1 := upper_c a ha
 have c2 := upper_c b hb
 refine goF Tryz.func123 (closedL_cons (.val _) (closedL_cons (.val _) closedL_nil)) (fun w0 st0 => ?_)
 dsimp only [frOf]
 (repeat' (first | refine goA ?_ | refine cX c1 ?_ | refine cX c2 ?_ | refine goB ?_ | ((fail_if_success refine ARun.plain rfl ?_); refine ARun.fork rfl rfl rfl (fun h => ?_) (fun h => ?_)) | refine awp_cond rfl (fun h => ?_) (fun h => ?_)))
 exact awp_ret ⟨_, ResL.cons (ResA.tmp (.val _)) .nil, congrArg (fun b => AV.val (.bool b)) (bs_eq _ _).symm⟩
theorem ref_alike_c (a b : Bs) (ha : a.length ≤ 1000000) (hb : b.length ≤ 1000000) : FnC Tryz.prog 73 [St a, St b] (.val (.bool (alikeD a b))) := by
 have c1 := ref_upper_c a ha
 have c2 := ref_upper_c b hb
 refine goF Tryz.func73 (closedL_cons (.val _) (closedL_cons (.val _) closedL_nil)) (fun w0 st0 => ?_)
 dsimp only [frOf]
 (repeat' (first | refine goA ?_ | refine cX c1 ?_ | refine cX c2 ?_ | refine goB ?_ | ((fail_if_success refine ARun.plain rfl ?_); refine ARun.fork rfl rfl rfl (fun h => ?_) (fun h => ?_)) | refine awp_cond rfl (fun h => ?_) (fun h => ?_)))
 exact awp_ret ⟨_, ResL.cons (ResA.tmp (.val _)) .nil, congrArg (fun b => AV.val (.bool b)) (bs_eq _ _).symm⟩
end Go.Proofs.YthlbcakjngcjbaaGreat.Dict
namespace Go.Proofs.YthlbcakjngcjbaaGreat.Dict
open Go Go.RowKit
set_option maxRecDepth 100000
structure Wd where
 name : Bs
 xt : Int
 fl : Int
def encW (w : Wd) : List AV := [St w.name, .val (.int .i64 w.xt), .val (.int .i64 w.fl)]
theorem encW_closed (w : Wd) : ∀ x, x ∈ encW w → Closed x := closedL_cons (.val _) (closedL_cons (.val _) (closedL_cons (.val _) closedL_nil))
theorem closed_w (w : Wd) : Closed (.agg (encW w)) := .agg (encW_closed w)
abbrev encWs (l : List Wd) : AV := .sl 3 false (l.map encW)
theorem closed_ws (l : List Wd) : Closed (encWs l) := closed_map encW_closed
def okName (l : Bs) : Bool := l.all fun c => decide (32 < c.toNat)
def namedD (l : Bs) : Int := if l = [] then -16 else if 31 < l.length then -19 else if okName l = true then 0 else -32
theorem and_not7 (x : BitVec 64) : x &&& ~~~(7#64) = 0#64 ↔ x.toNat < 8 := by
 constructor
 ·intro h
  have e : x = (x &&& ~~~(7#64)) ||| (x &&& 7#64) := by
   ext i hi
   simp only [BitVec.getElem_or, BitVec.getElem_and, BitVec.getElem_not]
   cases x[i] <;> cases (7#64)[i] <;> rfl
  rw [h, BitVec.zero_or] at e
  have h2 := congrArg BitVec.toNat e
  rw [BitVec.toNat_and, show (7#64).toNat = 2 ^ 3 - 1 from rfl, Nat.and_two_pow_sub_one_eq_mod] at h2
  omega
 ·intro h
  have e : x = x &&& 7#64 := by
   apply BitVec.eq_of_toNat_eq
   rw [BitVec.toNat_and, show (7#64).toNat = 2 ^ 3 - 1 from rfl, Nat.and_two_pow_sub_one_eq_mod]
   omega
  rw [e]
  ext i hi
  simp only [BitVec.getElem_and, BitVec.getElem_not, BitVec.getElem_zero]
  cases x[i] <;> cases (7#64)[i] <;> rfl
theorem flag_iff (n : Int) (hn : -9223372036854775808 ≤ n ∧ n ≤ 9223372036854775807) : bitsV .andNot .i64 n 7 = 0 ↔ 0 ≤ n ∧ n ≤ 7 := by
 unfold bitsV
 simp only
 rw [show IntKind.i64.bits = 64 from rfl, show BitVec.ofInt 64 7 = 7#64 from rfl]
 have h1 := and_not7 (BitVec.ofInt 64 n)
 have h2 : (BitVec.ofInt 64 n).toNat = (n % 18446744073709551616).toNat := BitVec.toNat_ofInt n
 rw [h2] at h1
 generalize BitVec.ofInt 64 n &&& ~~~(7#64) = y at h1 ⊢
 have h3 := y.isLt
 have h4 : y = 0#64 ↔ y.toNat = 0 := ⟨fun h => by rw [h]; rfl, fun h => BitVec.eq_of_toNat_eq h⟩
 rw [IntKind.wrap_i64]
 constructor
 ·intro h
  have : y.toNat = 0 := by omega
  have := h1.1 (h4.2 this)
  omega
 ·intro h
  have := h4.1 (h1.2 (by omega))
  omega
theorem hid_eq (n : Int) (h : 0 ≤ n ∧ n ≤ 7) : (bitsV .and .i64 n 2 == 0) = !((n.tdiv 2).tmod 2 == 1) := by
 have : n = 0 ∨ n = 1 ∨ n = 2 ∨ n = 3 ∨ n = 4 ∨ n = 5 ∨ n = 6 ∨ n = 7 := by omega
 rcases this with rfl | rfl | rfl | rfl | rfl | rfl | rfl | rfl <;> rfl
attribute [local irreducible] Decidable.decide awp ARun regK toK
theorem flagged_c (n : Int) (hn : -9223372036854775808 ≤ n ∧ n ≤ 9223372036854775807) : FnC Tryz.prog 118 [.val (.int .i64 n)] (.val (.bool (decide (0 ≤ n ∧ n ≤ 7)))) := by
 refine goF Tryz.func118 (closedL_cons (.val _) closedL_nil) (fun w0 st0 => ?_)
 dsimp only [frOf]
 (repeat' (first | refine goA ?_ | refine goB ?_ | ((fail_if_success refine ARun.plain rfl ?_); refine ARun.fork rfl rfl rfl (fun h => ?_) (fun h => ?_)) | refine awp_cond rfl (fun h => ?_) (fun h => ?_)))
 exact awp_ret ⟨_, ResL.cons (ResA.tmp (.val _)) .nil, congrArg (fun b => AV.val (.bool b)) (by rw [Bool.eq_iff_iff, decide_eq_true_eq, beq_iff_eq, flag_iff n hn])⟩
def hidD (w : Wd) : Bool := (w.fl.tdiv 2).tmod 2 == 1
theorem hidden_c (w : Wd) (h : 0 ≤ w.fl ∧ w.fl ≤ 7) : FnC Tryz.prog 74 [.agg (encW w)] (.val (.bool (hidD w))) := by
 have hw : IntKind.i64.wrap (w.fl.tdiv 2) = w.fl.tdiv 2 := by
  rw [Int.tdiv_eq_ediv_of_nonneg h.1]
  exact IntWalk.i64_in _ (by omega)
 refine goF Tryz.func74 (closedL_cons (closed_w w) closedL_nil) (fun w0 st0 => ?_)
 dsimp only [frOf]
 (repeat' (first | refine goA ?_ | refine goB ?_ | ((fail_if_success refine ARun.plain rfl ?_); refine ARun.fork rfl rfl rfl (fun h => ?_) (fun h => ?_)) | refine awp_cond rfl (fun h => ?_) (fun h => ?_)))
 exact awp_ret ⟨_, ResL.cons (ResA.tmp (.val _)) .nil, congrArg (fun b => AV.val (.bool b)) (by unfold hidD; rw [hw])⟩
theorem st_nil (l : Bs) : ((ByteArray.mk l.toArray).toList == (ByteArray.mk #[]).toList) = decide (l = []) := bs_eq l []
theorem take_all {l : Bs} {i : Nat} {c : UInt8} (h : l[i]? = some c) : okName (l.take (i + 1)) = (okName (l.take i) && decide (32 < c.toNat)) := by
 unfold okName
 rw [take_succ' h, List.all_append]
 simp
theorem all_no {l : Bs} {i : Nat} {c : UInt8} (h : l[i]? = some c) (hc : c.toNat ≤ 32) : okName l = false := by
 unfold okName
 rw [List.all_eq_false]
 exact ⟨c, List.mem_of_getElem? h, by simp; omega⟩
set_option maxHeartbeats 4000000 in
theorem named_c (l : Bs) (hl : l.length ≤ 1000000) : FnC Tryz.prog 131 [St l] (.val (.int .i64 (namedD l))) := by
 have hz : (ByteArray.mk l.toArray).size = l.length := rfl
 refine goF Tryz.func131 (closedL_cons (.val _) closedL_nil) (fun w0 st0 => ?_)
 dsimp only [frOf]
 by_cases h0 : l = []
 ·have d0 : ((ByteArray.mk l.toArray).toList == (ByteArray.mk #[]).toList) = true := by rw [st_nil]; exact decide_eq_true h0
  rw [show namedD l = -16 from if_pos h0]
  (repeat' (first | refine goA ?_ | refine goB ?_ | ((fail_if_success refine ARun.plain rfl ?_); refine ARun.fork rfl rfl rfl (fun h => ?_) (fun h => ?_)) | refine awp_cond rfl (fun h => ?_) (fun h => ?_)))
  exact awp_ret ⟨_, ResL.cons (ResA.tmp (.val _)) .nil, rfl⟩
 have d0 : ((ByteArray.mk l.toArray).toList == (ByteArray.mk #[]).toList) = false := by rw [st_nil]; exact decide_eq_false h0
 by_cases h1 : 31 < l.length
 ·have d1 : decide ((31 : Int) < ((ByteArray.mk l.toArray).size : Nat)) = true := decide_eq_true (by omega)
  rw [show namedD l = -19 by unfold namedD; rw [if_neg h0, if_pos h1]]
  (repeat' (first | refine goA ?_ | refine goB ?_ | ((fail_if_success refine ARun.plain rfl ?_); refine ARun.fork rfl rfl rfl (fun h => ?_) (fun h => ?_)) | refine awp_cond rfl (fun h => ?_) (fun h => ?_)))
  exact awp_ret ⟨_, ResL.cons (ResA.tmp (.val _)) .nil, rfl⟩
 have d1 : decide ((31 : Int) < ((ByteArray.mk l.toArray).size : Nat)) = false := decide_eq_false (by omega)
 (repeat' (first | refine goA ?_ | refine ARun.strBytes rfl (by rw [st_size]; simp only [maxLen]; omega) rfl rfl rfl rfl rfl rfl rfl (guardF_spec rfl) ?_ | refine goB ?_ | ((fail_if_success refine ARun.plain rfl ?_); refine ARun.fork rfl rfl rfl (fun h => ?_) (fun h => ?_)) | refine awp_cond rfl (fun h => ?_) (fun h => ?_)))
 refine awp_loopT (T := Nat × Nat) (fun t => ⟨[(15, .val (.int .i64 (t.1 : Nat))), (13, .sl 1 false (l.map encB)), (14, .val (.int .i64 ((l.map encB).length : Nat)))], [], t.2⟩)
  (fun t => t.1 ≤ l.length ∧ okName (l.take t.1) = true) (fun t => l.length - t.1) (0, _) ⟨Nat.zero_le _, rfl⟩ ⟨⟨rfl, rfl, rfl, trivial⟩, trivial, Nat.le_refl _⟩ (fun t ht => ?_)
 obtain ⟨i, gc⟩ := t
 obtain ⟨hi, hA⟩ := ht
 dsimp only at hi hA ⊢
 clear d0 d1
 by_cases hlt : i < l.length
 ·have hc : decide (((i : Nat) : Int) < ((l.map encB).length : Nat)) = true := by simp; omega
  have hp : l[i]? = some l[i] := List.getElem?_eq_getElem hlt
  generalize l[i] = ch at hp
  by_cases h2 : ch.toNat ≤ 32
  ·have d2 : decide ((ch.toNat : Int) ≤ 32) = true := decide_eq_true (by omega)
   rw [show namedD l = -32 by unfold namedD; rw [if_neg h0, if_neg h1, if_neg (by rw [all_no hp h2]; simp)]]
   (repeat' (first | refine goA ?_ | refine ARun.indexAddr rfl rfl (by omega) (by first | with_reducible exact get_map hp | with_reducible exact get_map hp) rfl rfl rfl rfl rfl (guardF_spec rfl) ?_ | refine goB ?_ | ((fail_if_success refine ARun.plain rfl ?_); refine ARun.fork rfl rfl rfl (fun h => ?_) (fun h => ?_)) | refine awp_cond rfl (fun h => ?_) (fun h => ?_)))
   exact awp_ret ⟨_, ResL.cons (ResA.tmp (.val _)) .nil, rfl⟩
  ·have d2 : decide ((ch.toNat : Int) ≤ 32) = false := decide_eq_false (by omega)
   (repeat' (first | refine goA ?_ | refine ARun.indexAddr rfl rfl (by omega) (by first | with_reducible exact get_map hp | with_reducible exact get_map hp) rfl rfl rfl rfl rfl (guardF_spec rfl) ?_ | refine goB ?_ | ((fail_if_success refine ARun.plain rfl ?_); refine ARun.fork rfl rfl rfl (fun h => ?_) (fun h => ?_)) | refine awp_cond rfl (fun h => ?_) (fun h => ?_)))
   exact ⟨(i + 1, _), ⟨⟨succI i, rfl, rfl, trivial⟩, trivial, Nat.le_refl _⟩, ⟨hlt, by rw [take_all hp, hA, Bool.true_and, decide_eq_true (by omega)]⟩, (by dsimp only; omega)⟩
 ·have hii : i = l.length := by omega
  subst hii
  have hc : decide (((l.length : Nat) : Int) < ((l.map encB).length : Nat)) = false := by simp
  rw [List.take_length] at hA
  rw [show namedD l = 0 by unfold namedD; rw [if_neg h0, if_neg h1, if_pos hA]]
  (repeat' (first | refine goA ?_ | refine goB ?_ | ((fail_if_success refine ARun.plain rfl ?_); refine ARun.fork rfl rfl rfl (fun h => ?_) (fun h => ?_)) | refine awp_cond rfl (fun h => ?_) (fun h => ?_)))
  exact awp_ret ⟨_, ResL.cons (ResA.tmp (.val _)) .nil, rfl⟩
set_option maxHeartbeats 4000000 in
theorem ref_named_c (l : Bs) (hl : l.length ≤ 1000000) : FnC Tryz.prog 133 [St l] (.val (.int .i64 (namedD l))) := by
 have hz : (ByteArray.mk l.toArray).size = l.length := rfl
 refine goF Tryz.func133 (closedL_cons (.val _) closedL_nil) (fun w0 st0 => ?_)
 dsimp only [frOf]
 by_cases h0 : l = []
 ·have d0 : ((((ByteArray.mk l.toArray).size : Nat) : Int) == 0) = true := by rw [hz, h0]; simp
  rw [show namedD l = -16 from if_pos h0]
  (repeat' (first | refine goA ?_ | refine goB ?_ | ((fail_if_success refine ARun.plain rfl ?_); refine ARun.fork rfl rfl rfl (fun h => ?_) (fun h => ?_)) | refine awp_cond rfl (fun h => ?_) (fun h => ?_)))
  exact awp_ret ⟨_, ResL.cons (ResA.tmp (.val _)) .nil, rfl⟩
 have d0 : ((((ByteArray.mk l.toArray).size : Nat) : Int) == 0) = false := by rw [hz]; simpa using h0
 by_cases h1 : 31 < l.length
 ·have d1 : decide ((31 : Int) < ((ByteArray.mk l.toArray).size : Nat)) = true := decide_eq_true (by omega)
  rw [show namedD l = -19 by unfold namedD; rw [if_neg h0, if_pos h1]]
  (repeat' (first | refine goA ?_ | refine goB ?_ | ((fail_if_success refine ARun.plain rfl ?_); refine ARun.fork rfl rfl rfl (fun h => ?_) (fun h => ?_)) | refine awp_cond rfl (fun h => ?_) (fun h => ?_)))
  exact awp_ret ⟨_, ResL.cons (ResA.tmp (.val _)) .nil, rfl⟩
 have d1 : decide ((31 : Int) < ((ByteArray.mk l.toArray).size : Nat)) = false := decide_eq_false (by omega)
 (repeat' (first | refine goA ?_ | refine goB ?_ | ((fail_if_success refine ARun.plain rfl ?_); refine ARun.fork rfl rfl rfl (fun h => ?_) (fun h => ?_)) | refine awp_cond rfl (fun h => ?_) (fun h => ?_)))
 refine awp_loopT (T := Nat × Nat) (fun t => ⟨[(3, .val (.int .i64 (t.1 : Nat))), (0, St l)], [], t.2⟩)
  (fun t => t.1 ≤ l.length ∧ okName (l.take t.1) = true) (fun t => l.length - t.1) (0, _) ⟨Nat.zero_le _, rfl⟩ ⟨⟨rfl, rfl, trivial⟩, trivial, Nat.le_refl _⟩ (fun t ht => ?_)
 obtain ⟨i, gc⟩ := t
 obtain ⟨hi, hA⟩ := ht
 dsimp only at hi hA ⊢
 clear d0 d1
 by_cases hlt : i < l.length
 ·have hc : decide (((i : Nat) : Int) < ((ByteArray.mk l.toArray).size : Nat)) = true := decide_eq_true (by omega)
  have hp : l[i]? = some l[i] := List.getElem?_eq_getElem hlt
  generalize l[i] = ch at hp
  have hs : (ByteArray.mk l.toArray).data[((i : Nat) : Int).toNat]? = some ch := by rw [Int.toNat_natCast]; simpa using hp
  by_cases h2 : ch.toNat ≤ 32
  ·have d2 : decide ((ch.toNat : Int) ≤ 32) = true := decide_eq_true (by omega)
   rw [show namedD l = -32 by unfold namedD; rw [if_neg h0, if_neg h1, if_neg (by rw [all_no hp h2]; simp)]]
   (repeat' (first | refine goA ?_ | refine ARun.index_str rfl rfl (by omega) hs rfl rfl rfl (guardF_spec rfl) ?_ | refine goB ?_ | ((fail_if_success refine ARun.plain rfl ?_); refine ARun.fork rfl rfl rfl (fun h => ?_) (fun h => ?_)) | refine awp_cond rfl (fun h => ?_) (fun h => ?_)))
   exact awp_ret ⟨_, ResL.cons (ResA.tmp (.val _)) .nil, rfl⟩
  ·have d2 : decide ((ch.toNat : Int) ≤ 32) = false := decide_eq_false (by omega)
   (repeat' (first | refine goA ?_ | refine ARun.index_str rfl rfl (by omega) hs rfl rfl rfl (guardF_spec rfl) ?_ | refine goB ?_ | ((fail_if_success refine ARun.plain rfl ?_); refine ARun.fork rfl rfl rfl (fun h => ?_) (fun h => ?_)) | refine awp_cond rfl (fun h => ?_) (fun h => ?_)))
   exact ⟨(i + 1, _), ⟨⟨succI i, rfl, trivial⟩, trivial, Nat.le_refl _⟩, ⟨hlt, by rw [take_all hp, hA, Bool.true_and, decide_eq_true (by omega)]⟩, (by dsimp only; omega)⟩
 ·have hii : i = l.length := by omega
  subst hii
  have hc : decide (((l.length : Nat) : Int) < ((ByteArray.mk l.toArray).size : Nat)) = false := decide_eq_false (by omega)
  rw [List.take_length] at hA
  rw [show namedD l = 0 by unfold namedD; rw [if_neg h0, if_neg h1, if_pos hA]]
  (repeat' (first | refine goA ?_ | refine goB ?_ | ((fail_if_success refine ARun.plain rfl ?_); refine ARun.fork rfl rfl rfl (fun h => ?_) (fun h => ?_)) | refine awp_cond rfl (fun h => ?_) (fun h => ?_)))
  exact awp_ret ⟨_, ResL.cons (ResA.tmp (.val _)) .nil, rfl⟩
end Go.Proofs.YthlbcakjngcjbaaGreat.Dict
namespace Go.Proofs.YthlbcakjngcjbaaGreat.Dict
open Go Go.RowKit
set_option maxRecDepth 100000
attribute [local irreducible] Decidable.decide awp ARun regK toK
def FewW (l : List Wd) (most : Int) : Prop := (l.length : Int) ≤ most ∧ ∀ w, w ∈ l → w.name.length ≤ 60
def OkW (w : Wd) : Prop := namedD w.name = 0 ∧ 0 ≤ w.fl ∧ w.fl ≤ 7
def RightW (l : List Wd) : Prop := (∀ w, w ∈ l → OkW w) ∧ l.length ≤ 1024
open Classical in
noncomputable def rightW (l : List Wd) : Bool := if RightW l then true else false
theorem rightW_yes {l : List Wd} (h : RightW l) : rightW l = true := by unfold rightW; exact if_pos h
theorem rightW_no {l : List Wd} (h : ¬ RightW l) : rightW l = false := by unfold rightW; exact if_neg h
open Classical in
noncomputable def fewW (l : List Wd) (most : Int) : Bool := if FewW l most then true else false
theorem fewW_yes {l : List Wd} {n : Int} (h : FewW l n) : fewW l n = true := by unfold fewW; exact if_pos h
theorem fewW_no {l : List Wd} {n : Int} (h : ¬ FewW l n) : fewW l n = false := by unfold fewW; exact if_neg h
open Classical in
noncomputable def sameW (a b : List Wd) : Bool := if a = b then true else false
theorem sameW_iff {a b : List Wd} : sameW a b = true ↔ a = b := by
 unfold sameW
 split <;> simp_all
theorem sameW_no {a b : List Wd} (h : a ≠ b) : sameW a b = false := Bool.eq_false_iff.2 (fun e => h (sameW_iff.1 e))
theorem mem_snoc {l : List Wd} {k : Nat} {w : Wd} {R : Wd → Prop} (h : l[k]? = some w) (h1 : ∀ v, v ∈ l.take k → R v) (h2 : R w) : ∀ v, v ∈ l.take (k + 1) → R v := fun v hv => by
 rw [take_succ' h] at hv
 rcases List.mem_append.1 hv with hv | hv
 ·exact h1 v hv
 ·rw [List.mem_singleton.1 hv]; exact h2
set_option maxHeartbeats 4000000 in
theorem few_c (l : List Wd) (most : Int) (hm : most ≤ 1000000) : FnC Tryz.prog 83 [encWs l, .val (.int .i64 most)] (.val (.bool (fewW l most))) := by
 refine goF Tryz.func83 (closedL_cons (closed_ws l) (closedL_cons (.val _) closedL_nil)) (fun w0 st0 => ?_)
 dsimp only [frOf]
 by_cases h0 : most < (((l.map encW).length : Nat) : Int)
 ·have d0 : decide (most < (((l.map encW).length : Nat) : Int)) = true := decide_eq_true h0
  rw [fewW_no (fun h => by have := h.1; rw [List.length_map] at h0; omega)]
  (repeat' (first | refine goA ?_ | refine goB ?_ | ((fail_if_success refine ARun.plain rfl ?_); refine ARun.fork rfl rfl rfl (fun h => ?_) (fun h => ?_)) | refine awp_cond rfl (fun h => ?_) (fun h => ?_)))
  exact awp_ret ⟨_, ResL.cons (ResA.tmp (.val _)) .nil, rfl⟩
 have d0 : decide (most < (((l.map encW).length : Nat) : Int)) = false := decide_eq_false h0
 rw [List.length_map] at h0
 (repeat' (first | refine goA ?_ | refine goB ?_ | ((fail_if_success refine ARun.plain rfl ?_); refine ARun.fork rfl rfl rfl (fun h => ?_) (fun h => ?_)) | refine awp_cond rfl (fun h => ?_) (fun h => ?_)))
 refine awp_loopT (T := Nat × Nat) (fun t => ⟨[(5, .val (.int .i64 (t.1 : Nat))), (0, encWs l)], [], t.2⟩)
  (fun t => t.1 ≤ l.length ∧ ∀ w, w ∈ l.take t.1 → w.name.length ≤ 60) (fun t => l.length - t.1) (0, _) ⟨Nat.zero_le _, fun w h => by cases h⟩ ⟨⟨rfl, rfl, trivial⟩, trivial, Nat.le_refl _⟩ (fun t ht => ?_)
 obtain ⟨i, gc⟩ := t
 obtain ⟨hi, hA⟩ := ht
 dsimp only at hi hA ⊢
 clear d0
 by_cases hlt : i < l.length
 ·have hc : decide (((i : Nat) : Int) < ((l.map encW).length : Nat)) = true := by simp; omega
  have hp : l[i]? = some l[i] := List.getElem?_eq_getElem hlt
  generalize l[i] = w at hp
  have hz : (ByteArray.mk w.name.toArray).size = w.name.length := rfl
  by_cases h2 : 60 < w.name.length
  ·have d2 : decide ((60 : Int) < ((ByteArray.mk w.name.toArray).size : Nat)) = true := decide_eq_true (by omega)
   rw [fewW_no (fun h => by have := h.2 w (List.mem_of_getElem? hp); omega)]
   (repeat' (first | refine goA ?_ | refine ARun.indexAddr rfl rfl (by omega) (by first | with_reducible exact get_map hp | with_reducible exact get_map hp) rfl rfl rfl rfl rfl (guardF_spec rfl) ?_ | refine goB ?_ | ((fail_if_success refine ARun.plain rfl ?_); refine ARun.fork rfl rfl rfl (fun h => ?_) (fun h => ?_)) | refine awp_cond rfl (fun h => ?_) (fun h => ?_)))
   exact awp_ret ⟨_, ResL.cons (ResA.tmp (.val _)) .nil, rfl⟩
  ·have d2 : decide ((60 : Int) < ((ByteArray.mk w.name.toArray).size : Nat)) = false := decide_eq_false (by omega)
   (repeat' (first | refine goA ?_ | refine ARun.indexAddr rfl rfl (by omega) (by first | with_reducible exact get_map hp | with_reducible exact get_map hp) rfl rfl rfl rfl rfl (guardF_spec rfl) ?_ | refine goB ?_ | ((fail_if_success refine ARun.plain rfl ?_); refine ARun.fork rfl rfl rfl (fun h => ?_) (fun h => ?_)) | refine awp_cond rfl (fun h => ?_) (fun h => ?_)))
   exact ⟨(i + 1, _), ⟨⟨succI i, rfl, trivial⟩, trivial, Nat.le_refl _⟩, ⟨hlt, mem_snoc hp hA (by omega)⟩, (by dsimp only; omega)⟩
 ·have hii : i = l.length := by omega
  subst hii
  have hc : decide (((l.length : Nat) : Int) < ((l.map encW).length : Nat)) = false := by simp
  rw [List.take_length] at hA
  rw [fewW_yes ⟨by omega, hA⟩]
  (repeat' (first | refine goA ?_ | refine goB ?_ | ((fail_if_success refine ARun.plain rfl ?_); refine ARun.fork rfl rfl rfl (fun h => ?_) (fun h => ?_)) | refine awp_cond rfl (fun h => ?_) (fun h => ?_)))
  exact awp_ret ⟨_, ResL.cons (ResA.tmp (.val _)) .nil, rfl⟩
def InW (l : List Wd) : Prop := ∀ w, w ∈ l → w.name.length ≤ 1000000 ∧ -9223372036854775808 ≤ w.fl ∧ w.fl ≤ 9223372036854775807
set_option maxHeartbeats 4000000 in
theorem right_c (l : List Wd) (hl : l.length ≤ 1000000) (hin : InW l) : FnC Tryz.prog 88 [encWs l] (.val (.bool (rightW l))) := by
 refine goF Tryz.func88 (closedL_cons (closed_ws l) closedL_nil) (fun w0 st0 => ?_)
 dsimp only [frOf]
 (repeat' (first | refine goA ?_ | refine goB ?_ | ((fail_if_success refine ARun.plain rfl ?_); refine ARun.fork rfl rfl rfl (fun h => ?_) (fun h => ?_)) | refine awp_cond rfl (fun h => ?_) (fun h => ?_)))
 refine awp_loopT (T := Nat × Nat) (fun t => ⟨[(7, .val (.int .i64 (t.1 : Nat))), (5, encWs l), (6, .val (.int .i64 ((l.map encW).length : Nat))), (0, encWs l)], [], t.2⟩)
  (fun t => t.1 ≤ l.length ∧ ∀ w, w ∈ l.take t.1 → OkW w) (fun t => l.length - t.1) (0, _) ⟨Nat.zero_le _, fun w h => by cases h⟩ ⟨⟨rfl, rfl, rfl, rfl, trivial⟩, trivial, Nat.le_refl _⟩ (fun t ht => ?_)
 obtain ⟨i, gc⟩ := t
 obtain ⟨hi, hA⟩ := ht
 dsimp only at hi hA ⊢
 by_cases hlt : i < l.length
 ·have hc : decide (((i : Nat) : Int) < ((l.map encW).length : Nat)) = true := by simp; omega
  have hp : l[i]? = some l[i] := List.getElem?_eq_getElem hlt
  have hm : l[i] ∈ l := List.getElem_mem hlt
  generalize l[i] = w at hp hm
  obtain ⟨k1, k2⟩ := hin w hm
  have c1 := named_c w.name k1
  have c2 := flagged_c w.fl k2
  by_cases h2 : namedD w.name = 0
  ·have d2 : (namedD w.name != 0) = false := by simp [h2]
   by_cases h3 : 0 ≤ w.fl ∧ w.fl ≤ 7
   ·rw [decide_eq_true h3] at c2
    (repeat' (first | refine goA ?_ | refine ARun.indexAddr rfl rfl (by omega) (by first | with_reducible exact get_map hp | with_reducible exact get_map hp) rfl rfl rfl rfl rfl (guardF_spec rfl) ?_ | refine cX c1 ?_ | refine cX c2 ?_ | refine goB ?_ | ((fail_if_success refine ARun.plain rfl ?_); refine ARun.fork rfl rfl rfl (fun h => ?_) (fun h => ?_)) | refine awp_cond rfl (fun h => ?_) (fun h => ?_)))
    exact ⟨(i + 1, _), ⟨⟨succI i, rfl, rfl, rfl, trivial⟩, trivial, Nat.le_refl _⟩, ⟨hlt, mem_snoc hp hA ⟨h2, h3⟩⟩, (by dsimp only; omega)⟩
   ·rw [decide_eq_false h3] at c2
    rw [rightW_no (fun h => h3 (h.1 w hm).2)]
    (repeat' (first | refine goA ?_ | refine ARun.indexAddr rfl rfl (by omega) (by first | with_reducible exact get_map hp | with_reducible exact get_map hp) rfl rfl rfl rfl rfl (guardF_spec rfl) ?_ | refine cX c1 ?_ | refine cX c2 ?_ | refine goB ?_ | ((fail_if_success refine ARun.plain rfl ?_); refine ARun.fork rfl rfl rfl (fun h => ?_) (fun h => ?_)) | refine awp_cond rfl (fun h => ?_) (fun h => ?_)))
    exact awp_ret ⟨_, ResL.cons (ResA.tmp (.val _)) .nil, rfl⟩
  ·have d2 : (namedD w.name != 0) = true := by simp [h2]
   rw [rightW_no (fun h => h2 (h.1 w hm).1)]
   (repeat' (first | refine goA ?_ | refine ARun.indexAddr rfl rfl (by omega) (by first | with_reducible exact get_map hp | with_reducible exact get_map hp) rfl rfl rfl rfl rfl (guardF_spec rfl) ?_ | refine cX c1 ?_ | refine cX c2 ?_ | refine goB ?_ | ((fail_if_success refine ARun.plain rfl ?_); refine ARun.fork rfl rfl rfl (fun h => ?_) (fun h => ?_)) | refine awp_cond rfl (fun h => ?_) (fun h => ?_)))
   exact awp_ret ⟨_, ResL.cons (ResA.tmp (.val _)) .nil, rfl⟩
 ·have hii : i = l.length := by omega
  subst hii
  have hc : decide (((l.length : Nat) : Int) < ((l.map encW).length : Nat)) = false := by simp
  rw [List.take_length] at hA
  (repeat' (first | refine goA ?_ | refine goB ?_ | ((fail_if_success refine ARun.plain rfl ?_); refine ARun.fork rfl rfl rfl (fun h => ?_) (fun h => ?_)) | refine awp_cond rfl (fun h => ?_) (fun h => ?_)))
  refine awp_ret ⟨_, ResL.cons (ResA.tmp (.val _)) .nil, congrArg (fun b => AV.val (.bool b)) ?_⟩
  by_cases h4 : l.length ≤ 1024
  ·rw [rightW_yes ⟨hA, h4⟩, decide_eq_true (by rw [List.length_map]; omega)]
  ·rw [rightW_no (fun h => h4 h.2), decide_eq_false (by rw [List.length_map]; omega)]
set_option maxHeartbeats 4000000 in
theorem ref_right_c (l : List Wd) (hl : l.length ≤ 1000000) (hin : InW l) : FnC Tryz.prog 94 [encWs l] (.val (.bool (rightW l))) := by
 refine goF Tryz.func94 (closedL_cons (closed_ws l) closedL_nil) (fun w0 st0 => ?_)
 dsimp only [frOf]
 (repeat' (first | refine goA ?_ | refine goB ?_ | ((fail_if_success refine ARun.plain rfl ?_); refine ARun.fork rfl rfl rfl (fun h => ?_) (fun h => ?_)) | refine awp_cond rfl (fun h => ?_) (fun h => ?_)))
 refine awp_loopT (T := Nat × Nat) (fun t => ⟨[(3, .val (.int .i64 (t.1 : Nat))), (0, encWs l)], [], t.2⟩)
  (fun t => t.1 ≤ l.length ∧ ∀ w, w ∈ l.take t.1 → OkW w) (fun t => l.length - t.1) (0, _) ⟨Nat.zero_le _, fun w h => by cases h⟩ ⟨⟨rfl, rfl, trivial⟩, trivial, Nat.le_refl _⟩ (fun t ht => ?_)
 obtain ⟨i, gc⟩ := t
 obtain ⟨hi, hA⟩ := ht
 dsimp only at hi hA ⊢
 by_cases hlt : i < l.length
 ·have hc : decide (((i : Nat) : Int) < ((l.map encW).length : Nat)) = true := by simp; omega
  have hp : l[i]? = some l[i] := List.getElem?_eq_getElem hlt
  have hm : l[i] ∈ l := List.getElem_mem hlt
  generalize l[i] = w at hp hm
  obtain ⟨k1, k2⟩ := hin w hm
  have c1 := ref_named_c w.name k1
  by_cases h2 : namedD w.name = 0
  ·have d2 : (namedD w.name != 0) = false := by simp [h2]
   by_cases h3 : w.fl < 0
   ·have d3 : decide (w.fl < 0) = true := decide_eq_true h3
    rw [rightW_no (fun h => by have := (h.1 w hm).2; omega)]
    (repeat' (first | refine goA ?_ | refine ARun.indexAddr rfl rfl (by omega) (by first | with_reducible exact get_map hp | with_reducible exact get_map hp) rfl rfl rfl rfl rfl (guardF_spec rfl) ?_ | refine cX c1 ?_ | refine goB ?_ | ((fail_if_success refine ARun.plain rfl ?_); refine ARun.fork rfl rfl rfl (fun h => ?_) (fun h => ?_)) | refine awp_cond rfl (fun h => ?_) (fun h => ?_)))
    exact awp_ret ⟨_, ResL.cons (ResA.tmp (.val _)) .nil, rfl⟩
   ·have d3 : decide (w.fl < 0) = false := decide_eq_false h3
    by_cases h4 : 7 < w.fl
    ·have d4 : decide (7 < w.fl) = true := decide_eq_true h4
     rw [rightW_no (fun h => by have := (h.1 w hm).2; omega)]
     (repeat' (first | refine goA ?_ | refine ARun.indexAddr rfl rfl (by omega) (by first | with_reducible exact get_map hp | with_reducible exact get_map hp) rfl rfl rfl rfl rfl (guardF_spec rfl) ?_ | refine cX c1 ?_ | refine goB ?_ | ((fail_if_success refine ARun.plain rfl ?_); refine ARun.fork rfl rfl rfl (fun h => ?_) (fun h => ?_)) | refine awp_cond rfl (fun h => ?_) (fun h => ?_)))
     exact awp_ret ⟨_, ResL.cons (ResA.tmp (.val _)) .nil, rfl⟩
    ·have d4 : decide (7 < w.fl) = false := decide_eq_false h4
     (repeat' (first | refine goA ?_ | refine ARun.indexAddr rfl rfl (by omega) (by first | with_reducible exact get_map hp | with_reducible exact get_map hp) rfl rfl rfl rfl rfl (guardF_spec rfl) ?_ | refine cX c1 ?_ | refine goB ?_ | ((fail_if_success refine ARun.plain rfl ?_); refine ARun.fork rfl rfl rfl (fun h => ?_) (fun h => ?_)) | refine awp_cond rfl (fun h => ?_) (fun h => ?_)))
     exact ⟨(i + 1, _), ⟨⟨succI i, rfl, trivial⟩, trivial, Nat.le_refl _⟩, ⟨hlt, mem_snoc hp hA ⟨h2, by omega, by omega⟩⟩, (by dsimp only; omega)⟩
  ·have d2 : (namedD w.name != 0) = true := by simp [h2]
   rw [rightW_no (fun h => h2 (h.1 w hm).1)]
   (repeat' (first | refine goA ?_ | refine ARun.indexAddr rfl rfl (by omega) (by first | with_reducible exact get_map hp | with_reducible exact get_map hp) rfl rfl rfl rfl rfl (guardF_spec rfl) ?_ | refine cX c1 ?_ | refine goB ?_ | ((fail_if_success refine ARun.plain rfl ?_); refine ARun.fork rfl rfl rfl (fun h => ?_) (fun h => ?_)) | refine awp_cond rfl (fun h => ?_) (fun h => ?_)))
   exact awp_ret ⟨_, ResL.cons (ResA.tmp (.val _)) .nil, rfl⟩
 ·have hii : i = l.length := by omega
  subst hii
  have hc : decide (((l.length : Nat) : Int) < ((l.map encW).length : Nat)) = false := by simp
  rw [List.take_length] at hA
  (repeat' (first | refine goA ?_ | refine goB ?_ | ((fail_if_success refine ARun.plain rfl ?_); refine ARun.fork rfl rfl rfl (fun h => ?_) (fun h => ?_)) | refine awp_cond rfl (fun h => ?_) (fun h => ?_)))
  refine awp_ret ⟨_, ResL.cons (ResA.tmp (.val _)) .nil, congrArg (fun b => AV.val (.bool b)) ?_⟩
  by_cases h4 : l.length ≤ 1024
  ·rw [rightW_yes ⟨hA, h4⟩, decide_eq_true (by rw [List.length_map]; omega)]
  ·rw [rightW_no (fun h => h4 h.2), decide_eq_false (by rw [List.length_map]; omega)]
theorem flatW : flatOf Tryz.prog 68 = some [2, 0, 0] := by kernel_rfl
set_option maxHeartbeats 4000000 in
theorem equal_c (a b : List Wd) (hla : a.length ≤ 1000000) : FnC Tryz.prog 136 [encWs a, encWs b] (.val (.bool (sameW a b))) := by
 refine goF Tryz.func136 (closedL_cons (closed_ws a) (closedL_cons (closed_ws b) closedL_nil)) (fun w0 st0 => ?_)
 dsimp only [frOf]
 by_cases hl : a.length = b.length
 ·have d1 : ((((a.map encW).length : Nat) : Int) != (((b.map encW).length : Nat) : Int)) = false := by simp [hl]
  (repeat' (first | refine goA ?_ | refine goB ?_ | ((fail_if_success refine ARun.plain rfl ?_); refine ARun.fork rfl rfl rfl (fun h => ?_) (fun h => ?_)) | refine awp_cond rfl (fun h => ?_) (fun h => ?_)))
  refine awp_loopT (T := Nat × Nat) (fun t => ⟨[(13, .val (.int .i64 (t.1 : Nat))), (12, .val (.int .i64 ((a.map encW).length : Nat))), (0, encWs a), (1, encWs b)], [], t.2⟩) (fun t => t.1 ≤ a.length ∧ a.take t.1 = b.take t.1) (fun t => a.length - t.1) (0, _) ⟨Nat.zero_le _, rfl⟩ ⟨⟨rfl, rfl, rfl, rfl, trivial⟩, trivial, Nat.le_refl _⟩ (fun t ht => ?_)
  obtain ⟨k, gc⟩ := t
  obtain ⟨hk, hA⟩ := ht
  dsimp only at hk hA ⊢
  clear d1
  by_cases hlt : k < a.length
  ·have hp : a[k]? = some a[k] := List.getElem?_eq_getElem hlt
   have hq : b[k]? = some b[k] := List.getElem?_eq_getElem (by omega)
   have hc : decide (((k : Nat) : Int) < (((a.map encW).length : Nat) : Int)) = true := by simp; omega
   have e1 := take_succ' hp
   have e2 := take_succ' hq
   have hne : ∀ x y, a[k]? = some x → b[k]? = some y → x ≠ y → sameW a b = false := fun x y hx hy hxy => sameW_no (fun h => hxy (by rw [h, hy] at hx; exact (Option.some.inj hx).symm))
   generalize a[k] = p at hp e1
   generalize b[k] = q at hq e2
   obtain ⟨pn, px, pf⟩ := p
   obtain ⟨qn, qx, qf⟩ := q
   have key : ((((ByteArray.mk pn.toArray).toList == (ByteArray.mk qn.toArray).toList) && ((px == qx) && ((pf == qf) && true))) = decide (pn = qn ∧ px = qx ∧ pf = qf)) := by
    rw [bs_eq, Bool.eq_iff_iff]
    simp only [Bool.and_eq_true, decide_eq_true_eq, beq_iff_eq, and_true]
   by_cases h3 : (⟨pn, px, pf⟩ : Wd) = ⟨qn, qx, qf⟩
   ·have d3 : (!(((ByteArray.mk pn.toArray).toList == (ByteArray.mk qn.toArray).toList) && ((px == qx) && ((pf == qf) && true)))) = false := by rw [key, decide_eq_true (Wd.mk.inj h3)]; rfl
    (repeat' (first | refine goA ?_ | refine ARun.indexAddr rfl rfl (by omega) (by first | with_reducible exact get_map hp | with_reducible exact get_map hq) rfl rfl rfl rfl rfl (guardF_spec rfl) ?_ | refine neX flatW rfl rfl rfl rfl rfl ?_ | refine goB ?_ | ((fail_if_success refine ARun.plain rfl ?_); refine ARun.fork rfl rfl rfl (fun h => ?_) (fun h => ?_)) | refine awp_cond rfl (fun h => ?_) (fun h => ?_)))
    refine ⟨(k + 1, _), ⟨⟨succI k, rfl, rfl, rfl, trivial⟩, trivial, Nat.le_refl _⟩, ⟨hlt, ?_⟩, (by dsimp only; omega)⟩
    dsimp only
    rw [e1, e2, hA, h3]
   ·have d3 : (!(((ByteArray.mk pn.toArray).toList == (ByteArray.mk qn.toArray).toList) && ((px == qx) && ((pf == qf) && true)))) = true := by rw [key, decide_eq_false (fun h => h3 (by rw [h.1, h.2.1, h.2.2]))]; rfl
    rw [hne _ _ hp hq h3]
    (repeat' (first | refine goA ?_ | refine ARun.indexAddr rfl rfl (by omega) (by first | with_reducible exact get_map hp | with_reducible exact get_map hq) rfl rfl rfl rfl rfl (guardF_spec rfl) ?_ | refine neX flatW rfl rfl rfl rfl rfl ?_ | refine goB ?_ | ((fail_if_success refine ARun.plain rfl ?_); refine ARun.fork rfl rfl rfl (fun h => ?_) (fun h => ?_)) | refine awp_cond rfl (fun h => ?_) (fun h => ?_)))
    exact awp_ret ⟨_, ResL.cons (ResA.tmp (.val _)) .nil, rfl⟩
  ·have hkk : k = a.length := by omega
   subst hkk
   have hc : decide (((a.length : Nat) : Int) < (((a.map encW).length : Nat) : Int)) = false := by simp
   rw [List.take_length, hl, List.take_length] at hA
   rw [sameW_iff.2 hA]
   (repeat' (first | refine goA ?_ | refine goB ?_ | ((fail_if_success refine ARun.plain rfl ?_); refine ARun.fork rfl rfl rfl (fun h => ?_) (fun h => ?_)) | refine awp_cond rfl (fun h => ?_) (fun h => ?_)))
   exact awp_ret ⟨_, ResL.cons (ResA.tmp (.val _)) .nil, rfl⟩
 ·have d1 : ((((a.map encW).length : Nat) : Int) != (((b.map encW).length : Nat) : Int)) = true := by simp; omega
  rw [sameW_no (fun h => hl (by rw [h]))]
  (repeat' (first | refine goA ?_ | refine goB ?_ | ((fail_if_success refine ARun.plain rfl ?_); refine ARun.fork rfl rfl rfl (fun h => ?_) (fun h => ?_)) | refine awp_cond rfl (fun h => ?_) (fun h => ?_)))
  exact awp_ret ⟨_, ResL.cons (ResA.tmp (.val _)) .nil, rfl⟩
theorem same_c (a b : List Wd) (hla : a.length ≤ 1000000) : FnC Tryz.prog 99 [encWs a, encWs b] (.val (.bool (sameW a b))) := by
 have c1 := equal_c a b hla
 refine goF Tryz.func99 (closedL_cons (closed_ws a) (closedL_cons (closed_ws b) closedL_nil)) (fun w0 st0 => ?_)
 dsimp only [frOf]
 (repeat' (first | refine goA ?_ | refine cX c1 ?_ | refine goB ?_ | ((fail_if_success refine ARun.plain rfl ?_); refine ARun.fork rfl rfl rfl (fun h => ?_) (fun h => ?_)) | refine awp_cond rfl (fun h => ?_) (fun h => ?_)))
 exact awp_ret ⟨_, ResL.cons (ResA.tmp (.val _)) .nil, rfl⟩
set_option maxHeartbeats 4000000 in
theorem ref_same_c (a b : List Wd) (hla : a.length ≤ 1000000) : FnC Tryz.prog 38 [encWs a, encWs b] (.val (.bool (sameW a b))) := by
 refine goF Tryz.func38 (closedL_cons (closed_ws a) (closedL_cons (closed_ws b) closedL_nil)) (fun w0 st0 => ?_)
 dsimp only [frOf]
 by_cases hl : a.length = b.length
 ·have d1 : ((((a.map encW).length : Nat) : Int) != (((b.map encW).length : Nat) : Int)) = false := by simp [hl]
  (repeat' (first | refine goA ?_ | refine goB ?_ | ((fail_if_success refine ARun.plain rfl ?_); refine ARun.fork rfl rfl rfl (fun h => ?_) (fun h => ?_)) | refine awp_cond rfl (fun h => ?_) (fun h => ?_)))
  refine awp_loopT (T := Nat × Nat) (fun t => ⟨[(5, .val (.int .i64 (t.1 : Nat))), (0, encWs a), (1, encWs b)], [], t.2⟩) (fun t => t.1 ≤ a.length ∧ a.take t.1 = b.take t.1) (fun t => a.length - t.1) (0, _) ⟨Nat.zero_le _, rfl⟩ ⟨⟨rfl, rfl, rfl, trivial⟩, trivial, Nat.le_refl _⟩ (fun t ht => ?_)
  obtain ⟨k, gc⟩ := t
  obtain ⟨hk, hA⟩ := ht
  dsimp only at hk hA ⊢
  clear d1
  by_cases hlt : k < a.length
  ·have hp : a[k]? = some a[k] := List.getElem?_eq_getElem hlt
   have hq : b[k]? = some b[k] := List.getElem?_eq_getElem (by omega)
   have hc : decide (((k : Nat) : Int) < (((a.map encW).length : Nat) : Int)) = true := by simp; omega
   have e1 := take_succ' hp
   have e2 := take_succ' hq
   have hne : ∀ x y, a[k]? = some x → b[k]? = some y → x ≠ y → sameW a b = false := fun x y hx hy hxy => sameW_no (fun h => hxy (by rw [h, hy] at hx; exact (Option.some.inj hx).symm))
   generalize a[k] = p at hp e1
   generalize b[k] = q at hq e2
   obtain ⟨pn, px, pf⟩ := p
   obtain ⟨qn, qx, qf⟩ := q
   by_cases h3 : pn = qn
   ·have d3 : (!((ByteArray.mk pn.toArray).toList == (ByteArray.mk qn.toArray).toList)) = false := by rw [bs_eq, decide_eq_true h3]; rfl
    by_cases h4 : px = qx
    ·have d4 : (px != qx) = false := by simp [h4]
     by_cases h5 : pf = qf
     ·have d5 : (pf != qf) = false := by simp [h5]
      (repeat' (first | refine goA ?_ | refine ARun.indexAddr rfl rfl (by omega) (by first | with_reducible exact get_map hp | with_reducible exact get_map hq) rfl rfl rfl rfl rfl (guardF_spec rfl) ?_ | refine goB ?_ | ((fail_if_success refine ARun.plain rfl ?_); refine ARun.fork rfl rfl rfl (fun h => ?_) (fun h => ?_)) | refine awp_cond rfl (fun h => ?_) (fun h => ?_)))
      refine ⟨(k + 1, _), ⟨⟨succI k, rfl, rfl, trivial⟩, trivial, Nat.le_refl _⟩, ⟨hlt, ?_⟩, (by dsimp only; omega)⟩
      dsimp only
      rw [e1, e2, hA, h3, h4, h5]
     ·have d5 : (pf != qf) = true := by simp [h5]
      rw [hne _ _ hp hq (by simp [h5])]
      (repeat' (first | refine goA ?_ | refine ARun.indexAddr rfl rfl (by omega) (by first | with_reducible exact get_map hp | with_reducible exact get_map hq) rfl rfl rfl rfl rfl (guardF_spec rfl) ?_ | refine goB ?_ | ((fail_if_success refine ARun.plain rfl ?_); refine ARun.fork rfl rfl rfl (fun h => ?_) (fun h => ?_)) | refine awp_cond rfl (fun h => ?_) (fun h => ?_)))
      exact awp_ret ⟨_, ResL.cons (ResA.tmp (.val _)) .nil, rfl⟩
    ·have d4 : (px != qx) = true := by simp [h4]
     rw [hne _ _ hp hq (by simp [h4])]
     (repeat' (first | refine goA ?_ | refine ARun.indexAddr rfl rfl (by omega) (by first | with_reducible exact get_map hp | with_reducible exact get_map hq) rfl rfl rfl rfl rfl (guardF_spec rfl) ?_ | refine goB ?_ | ((fail_if_success refine ARun.plain rfl ?_); refine ARun.fork rfl rfl rfl (fun h => ?_) (fun h => ?_)) | refine awp_cond rfl (fun h => ?_) (fun h => ?_)))
     exact awp_ret ⟨_, ResL.cons (ResA.tmp (.val _)) .nil, rfl⟩
   ·have d3 : (!((ByteArray.mk pn.toArray).toList == (ByteArray.mk qn.toArray).toList)) = true := by rw [bs_eq, decide_eq_false h3]; rfl
    rw [hne _ _ hp hq (by simp [h3])]
    (repeat' (first | refine goA ?_ | refine ARun.indexAddr rfl rfl (by omega) (by first | with_reducible exact get_map hp | with_reducible exact get_map hq) rfl rfl rfl rfl rfl (guardF_spec rfl) ?_ | refine goB ?_ | ((fail_if_success refine ARun.plain rfl ?_); refine ARun.fork rfl rfl rfl (fun h => ?_) (fun h => ?_)) | refine awp_cond rfl (fun h => ?_) (fun h => ?_)))
    exact awp_ret ⟨_, ResL.cons (ResA.tmp (.val _)) .nil, rfl⟩
  ·have hkk : k = a.length := by omega
   subst hkk
   have hc : decide (((a.length : Nat) : Int) < (((a.map encW).length : Nat) : Int)) = false := by simp
   rw [List.take_length, hl, List.take_length] at hA
   rw [sameW_iff.2 hA]
   (repeat' (first | refine goA ?_ | refine goB ?_ | ((fail_if_success refine ARun.plain rfl ?_); refine ARun.fork rfl rfl rfl (fun h => ?_) (fun h => ?_)) | refine awp_cond rfl (fun h => ?_) (fun h => ?_)))
   exact awp_ret ⟨_, ResL.cons (ResA.tmp (.val _)) .nil, rfl⟩
 ·have d1 : ((((a.map encW).length : Nat) : Int) != (((b.map encW).length : Nat) : Int)) = true := by simp; omega
  rw [sameW_no (fun h => hl (by rw [h]))]
  (repeat' (first | refine goA ?_ | refine goB ?_ | ((fail_if_success refine ARun.plain rfl ?_); refine ARun.fork rfl rfl rfl (fun h => ?_) (fun h => ?_)) | refine awp_cond rfl (fun h => ?_) (fun h => ?_)))
  exact awp_ret ⟨_, ResL.cons (ResA.tmp (.val _)) .nil, rfl⟩
end Go.Proofs.YthlbcakjngcjbaaGreat.Dict
