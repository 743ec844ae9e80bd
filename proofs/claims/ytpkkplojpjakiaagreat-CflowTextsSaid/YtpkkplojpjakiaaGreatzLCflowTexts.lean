/- CflowTexts returns true at every input, and leaves its arguments as they were. -/
import Derived.Test.YtpkkplojpjakiaaGreatW1
import Derived.Test.YtpkkplojpjakiaaGreatW2
import Derived.Test.YtpkkplojpjakiaaGreatW3
import Derived.Test.YtpkkplojpjakiaaGreatW4
import Derived.Test.YtpkkplojpjakiaaGreatzW5
import Derived.Test.YtpkkplojpjakiaaGreatzW6
import Derived.Test.YtpkkplojpjakiaaGreatzW7
import Derived.Test.YtpkkplojpjakiaaGreatzW8
import Derived.Test.YtpkkplojpjakiaaGreatzW9
import Derived.Test.YtpkkplojpjakiaaGreatzW10
import Derived.Test.YtpkkplojpjakiaaGreatzW11
import Derived.Test.YtpkkplojpjakiaaGreatzW12
import Derived.Test.YtpkkplojpjakiaaGreatzW13
import Derived.Test.YtpkkplojpjakiaaGreatzW14
import Derived.Test.YtpkkplojpjakiaaGreatzW15
import Derived.Test.YtpkkplojpjakiaaGreatzW16
import Derived.Test.YtpkkplojpjakiaaGreatzW17
import Derived.Test.YtpkkplojpjakiaaGreatzW18
import Derived.Test.YtpkkplojpjakiaaGreatzW19
set_option linter.unusedVariables false
set_option linter.unusedSimpArgs false
namespace Go.Proofs.YtpkkplojpjakiaaGreat
open Go Go.RowKit
open Go.Proofs.YtpkkplojpjakiaaGreat.Dict (St Bs bs_eq encWs closed_ws)
open Go.Proofs.YtpkkplojpjakiaaGreat.Mem (Mm encM encBs closed_bs encP encP_closed closed_m storeD fetchD)
open Go.Proofs.YtpkkplojpjakiaaGreat.Stk (encS closed_s encI_closed sameD)
set_option maxRecDepth 100000
attribute [local irreducible] Decidable.decide awp ARun regK toK
set_option maxHeartbeats 16000000 in
theorem texts13_c (s : Bs) (n : Int) (hl : s.length ≤ maxLen) (hn : In64 n) : FnC Tryz.prog 3 [St s, .val (.int .i64 n)] (.val (.bool true)) := by
 have hz : (ByteArray.mk s.toArray).size = s.length := rfl
 have c0 := shown13_c
 by_cases h1 : 100 < s.length
 ·have d1 : decide ((100 : Int) < ((ByteArray.mk s.toArray).size : Nat)) = true := decide_eq_true (by omega)
  refine goF Tryz.func3 (closedL_cons (.val _) (closedL_cons (.val _) closedL_nil)) (fun w0 st0 => ?_)
  dsimp only [frOf]
  (repeat' (first | refine goA ?_ | refine cX c0 ?_ | refine goB ?_ | fail))
  exact awp_ret ⟨_, ResL.cons (ResA.tmp (.val _)) .nil, rfl⟩
 have d1 : decide ((100 : Int) < ((ByteArray.mk s.toArray).size : Nat)) = false := decide_eq_false (by omega)
 obtain ⟨a, b, c, d, x, f, t⟩ := txt s n (by omega)
 obtain ⟨x1, x2, x3, x4⟩ := xt_all
 have e1 := fresh_c
 have e2 := vlay_c v0 256 (v0_okk _ (by decide))
 rw [t.ea] at e2
 have e3 := str_c a s t.oa (by omega)
 rw [t.eb] at e3
 have e4 := ref_xt_c nTy
 have e5 := vlay_c b (xtD nTy) (t.ob.le (by omega))
 rw [t.ec] at e5
 have e6 := lit_c c n (t.oc.le (by omega))
 rw [t.ed] at e6
 have e7 := ref_xt_c nEx
 have e8 := vlay_c d (xtD nEx) (t.od.le (by omega))
 rw [t.ex] at e8
 have ex : x = rT x.m x.here [] [] [] := t.up
 have e9 := run_txt (h := x.here) t.mb t.lo t.c1 (t.c2.trans x1) t.c3 t.tx (t.c4.trans x2) (t.c5.trans x3) t.c6 (t.c7.trans x4) (by omega) hn
 rw [← ex] at e9
 have yd : (rT x.m x.here [n] [] s).d = [n] := rfl
 have yo : (rT x.m x.here [n] [] s).out = s := rfl
 generalize rT x.m x.here [n] [] s = y at *
 have ea := Stk.ref_same_c y.d [n] (by rw [yd]; show 1 ≤ 1000000; omega) (by show 1 ≤ 1000000; omega)
 rw [show sameD y.d [n] = true by rw [yd]; unfold sameD; exact decide_eq_true rfl] at ea
 have q0 : ((ByteArray.mk y.out.toArray).toList == (ByteArray.mk s.toArray).toList) = true := by rw [bs_eq, yo]; exact decide_eq_true rfl
 have z0 : ((0 : Int) != 0) = false := by simp
 have z1 : ((0 : Int) == 0) = true := by simp
 have z2 : ((44 : Int) == 44) = true := by simp
 clear yd yo ex t
 generalize xtD nTy = xa at *
 generalize xtD nEx = xb at *
 generalize v0 = v at *
 unfold encVE at e2 e3 e5 e6 e8
 dsimp only at e2 e3 e5 e6 e8
 refine goF Tryz.func3 (closedL_cons (.val _) (closedL_cons (.val _) closedL_nil)) (fun w0 st0 => ?_)
 dsimp only [frOf]
 (repeat' (first | refine goA ?_ | refine cX c0 ?_ | refine cX e1 ?_ | refine cX e2 ?_ | refine cX e3 ?_ | refine cX e4 ?_ | refine cX e5 ?_ | refine cX e6 ?_ | refine cX e7 ?_ | refine cX e8 ?_ | refine cX e9 ?_ | refine callW (ea) rfl (by (repeat (refine WkL.cons (by first | exact Wk.same _ | exact Wk.nilSl | exact Wk.weak _ _ _ | exact Wk.aggL (by (repeat (refine WkL.cons (by first | exact Wk.same _ | exact Wk.nilSl | exact Wk.weak _ _ _) ?_)); exact WkL.nil)) ?_)); exact WkL.nil) rfl rfl ?_ | refine ARun.bytesStr (SrcA.sl rfl (.inr rfl)) rfl rfl rfl rfl rfl rfl rfl rfl (guardF_spec rfl) ?_ | refine goB ?_ | fail))
 exact awp_ret ⟨_, ResL.cons (ResA.tmp (.val _)) .nil, rfl⟩
end Go.Proofs.YtpkkplojpjakiaaGreat
namespace Go.Proofs.YtpkkplojpjakiaaGreat
open Go Go.RowKit Go.ChangeShapes Go.WideShapes Go.Deep Go.Proofs.YtpkkplojpjakiaaGreat
set_option maxRecDepth 100000
theorem cflowTexts_lifted (os : Os) (started : os.Started) (H : Type) (enc : TypeId × Value → H) :
  ReturnsInHanded {} Tryz.checked os 3 .any (Rows.cflowTextsSpec.pre6 enc Tryz.prog Tryz.f3 Rows.cflowTextsRow.domain false) (Rows.cflowTextsSpec.post enc Tryz.prog Tryz.f3 false true false false) := by
 refine returnsInHanded_of_change (C := Tryz.checked) own_knob started (by kernel_rfl) Tryz.func3
  (ChangeSpec.witness6 (enc := enc) (C := Tryz.checked) false ⟨#[], #[.string ⟨#[]⟩, .int .i64 0], []⟩ 12 (by kernel_rfl) (by kernel_rfl) (by kernel_rfl) (by kernel_rfl)) ?_
 intro W base args ds gs before hval0 hW hcnd _
 have hval : ∀ (j : Nat) t v, Tryz.f3.params[j]? = some t → args[j]? = some v → Value.okWide Tryz.prog W .any base t v := hval0
 have hW' := hW
 obtain ⟨p, q, hA0, hV, rfl, hfz, hnd⟩ := hW
 have hA : DataW.TrodAll enc Tryz.prog W 0 (fun _ => true) true Tryz.f3.params.toList args.toList ds p := hA0
 rw [Tryz.params3] at hA hval
 obtain ⟨v0, vs0, d0, ds0, p0, q0, hargs, rfl, rfl, h0, r0⟩ := trodAll_cons hA
 obtain ⟨v1, vs1, d1, ds1, p1, q1, rfl, rfl, rfl, h1, r1⟩ := trodAll_cons r0
 obtain ⟨rfl, rfl, rfl⟩ := trodAll_nil r1
 obtain rfl : args = #[v0, v1] := by cases args; simp_all
 obtain ⟨rfl, rfl⟩ := trodVars_none hV
 have k0 := h0
 have lt0 : ∀ x ∈ p0, x.block < W.heap.size := by obtain ⟨m, hm⟩ := k0; exact DataW.trod_lt m _ _ _ hm
 have k1 := h1
 have lt1 : ∀ x ∈ p1, x.block < W.heap.size := by obtain ⟨m, hm⟩ := k1; exact DataW.trod_lt m _ _ _ hm
 obtain ⟨y0, rep0, hy0⟩ := arg_str Tryz.underlying9 (hval 0 9 v0 rfl rfl) h0
 obtain ⟨y1, rep1, hy1⟩ := arg_int Tryz.underlying3 (hval 1 3 v1 rfl rfl) h1
 clear hA0 hval0
 refine ((texts13_c y0 y1 hy0 hy1).law (us := [v0, v1]) rfl (fun i x u hx hu => by
  cases i with
  | zero => simp only [List.getElem?_cons_zero, Option.some.injEq] at hx hu; rw [← hx, ← hu]; exact rep0
  | succ i =>
   simp only [List.getElem?_cons_succ] at hx hu
   cases i with
   | zero => simp only [List.getElem?_cons_zero, Option.some.injEq] at hx hu; rw [← hx, ← hu]; exact rep1
   | succ i =>
    simp only [List.getElem?_cons_succ] at hx hu
    simp at hx)).mono fun e W' ⟨he, bel⟩ => ?_
 subst he
 exact ⟨_, rfl, _, _, _, [], _, [], hW', trodAll_mk1 (shut_bool Tryz.underlying4 _), (trodAll_cons_mk (Below.trod laid_out (by kernel_rfl) (of_decide_eq_true (by kernel_rfl)) k0 bel lt0) (trodAll_cons_mk (Below.trod laid_out (by kernel_rfl) (of_decide_eq_true (by kernel_rfl)) k1 bel lt1) trodAll_mk0)), rfl, bel.frame _, fun h => by cases h⟩
theorem cflowTexts_holds : Rows.CflowTextsSaid :=
 OpenClaim.holds_of_wide 3 Tryz.f3 rfl rfl rfl rfl rfl rfl rfl ⟨rfl, rfl, rfl, rfl, rfl⟩ rfl rfl rfl rfl rfl (by kernel_rfl) Tryz.func3 (by kernel_rfl)
  (of_decide_eq_true (by kernel_rfl)) (by unfold Func.isWrapper; first | (rw [if_pos (by decide +kernel)]; kernel_rfl) | (rw [if_neg (by decide +kernel)]; exact ⟨rfl, rfl⟩))
  (fun os started H enc _ => cflowTexts_lifted os started H enc)
#print axioms cflowTexts_holds
end Go.Proofs.YtpkkplojpjakiaaGreat
