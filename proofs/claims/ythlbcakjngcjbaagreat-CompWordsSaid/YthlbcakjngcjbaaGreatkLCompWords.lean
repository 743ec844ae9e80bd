/- CompWords returns true at every input, and leaves its arguments as they were. -/
import Derived.Test.YthlbcakjngcjbaaGreatW1
import Derived.Test.YthlbcakjngcjbaaGreatW2
import Derived.Test.YthlbcakjngcjbaaGreatW3
import Derived.Test.YthlbcakjngcjbaaGreatW4
import Derived.Test.YthlbcakjngcjbaaGreatkW5
import Derived.Test.YthlbcakjngcjbaaGreatkW6
import Derived.Test.YthlbcakjngcjbaaGreatkW7
import Derived.Test.YthlbcakjngcjbaaGreatkW8
import Derived.Test.YthlbcakjngcjbaaGreatkW9
import Derived.Test.YthlbcakjngcjbaaGreatkW10
import Derived.Test.YthlbcakjngcjbaaGreatkW11
import Derived.Test.YthlbcakjngcjbaaGreatkW12
import Derived.Test.YthlbcakjngcjbaaGreatkW13
import Derived.Test.YthlbcakjngcjbaaGreatkW14
import Derived.Test.YthlbcakjngcjbaaGreatkW15
import Derived.Test.YthlbcakjngcjbaaGreatkW16
import Derived.Test.YthlbcakjngcjbaaGreatkW17
import Derived.Test.YthlbcakjngcjbaaGreatkW18
import Derived.Test.YthlbcakjngcjbaaGreatkW19
import Derived.Test.YthlbcakjngcjbaaGreatkW20
import Derived.Test.YthlbcakjngcjbaaGreatkW21
import Derived.Test.YthlbcakjngcjbaaGreatkW22
import Derived.Test.YthlbcakjngcjbaaGreatkW23
set_option linter.unusedVariables false
set_option linter.unusedSimpArgs false
namespace Go.Proofs.YthlbcakjngcjbaaGreat
open Go Go.RowKit
open Go.Proofs.YthlbcakjngcjbaaGreat.Dict (St Bs bs_eq Wd encW encWs closed_ws)
open Go.Proofs.YthlbcakjngcjbaaGreat.Mem (Mm encM encBs closed_bs encP encP_closed closed_m)
open Go.Proofs.YthlbcakjngcjbaaGreat.Stk (encS closed_s)
set_option maxRecDepth 100000
theorem sameF_self' {f x : Fo} (h : Keeps f x) (ho : f.v.m.old.length ≤ 1000) : FnC Tryz.prog 15 [.agg (encFo x), .agg (encFo x)] (.val (.bool true)) := by
 have := ref_sameF_c x x (h.held ho) (h.held ho) h.r.lv.2 h.r.lv.1 h.r.lv.1
 rw [pD_yes rfl] at this
 exact this
theorem bneI (x : Int) : (x != x) = false := by simp
theorem beqI (x : Int) : (x == x) = true := by simp
attribute [local irreducible] Decidable.decide awp ARun regK toK
set_option maxHeartbeats 16000000 in
theorem words14_c (f : Fo) (s : Bs) (n : Int) (hi : FlIn f.v.dict) : FnC Tryz.prog 5 [.agg (encFo f), St s, .val (.int .i64 n)] (.val (.bool true)) := by
 have c0 := shown14_c
 have cm := mayF_c f hi
 have nt : (!true) = false := rfl
 have nf : (!false) = true := rfl
 by_cases hm : FewF f ∧ RightF f
 case neg =>
  rw [pD_no hm] at cm
  refine goF Tryz.func5 (closedL_cons (.agg (encFo_closed f)) (closedL_cons (.val _) (closedL_cons (.val _) closedL_nil))) (fun w0 st0 => ?_)
  dsimp only [frOf]
  (repeat' (first | refine goA ?_ | refine cX c0 ?_ | refine cX cm ?_ | refine goB ?_ | fail))
  exact awp_ret ⟨_, ResL.cons (ResA.tmp (.val _)) .nil, rfl⟩
 rw [pD_yes hm] at cm
 have hz : (ByteArray.mk s.toArray).size = s.length := rfl
 by_cases hs : 60 < s.length
 ·have d : decide ((60 : Int) < ((ByteArray.mk s.toArray).size : Nat)) = true := decide_eq_true (by omega)
  refine goF Tryz.func5 (closedL_cons (.agg (encFo_closed f)) (closedL_cons (.val _) (closedL_cons (.val _) closedL_nil))) (fun w0 st0 => ?_)
  dsimp only [frOf]
  (repeat' (first | refine goA ?_ | refine cX c0 ?_ | refine cX cm ?_ | refine goB ?_ | fail))
  exact awp_ret ⟨_, ResL.cons (ResA.tmp (.val _)) .nil, rfl⟩
 have d : decide ((60 : Int) < ((ByteArray.mk s.toArray).size : Nat)) = false := decide_eq_false (by omega)
 have ho : f.v.m.old.length ≤ 1000 := by have := hm.1.1.f1.2.1; omega
 have hg : Gd f.v 900 := hm.2.1.gd ho _ (by omega)
 have a1 := create_c f s (hg.le (by omega)) (by omega)
 have a2 := ref_create_c f s (hg.le (by omega)) (by omega)
 have a3 := variable_c f s (hg.le (by omega)) (by omega)
 have a4 := ref_variable_c f s (hg.le (by omega)) (by omega)
 have a5 := constant_c f s n (hg.le (by omega)) (by omega)
 have a6 := ref_constant_c f s n (hg.le (by omega)) (by omega)
 have a7 := machine_c f s n (hg.le (by omega)) (by omega)
 have a8 := ref_machine_c f s n (hg.le (by omega)) (by omega)
 have a9 := imm_c f (hg.le (by omega))
 have b1 := ref_imm_c f (hg.le (by omega))
 have b2 := forget_c f s (hg.le (by omega)) (by omega)
 have b3 := ref_forget_c f s (hg.le (by omega)) (by omega)
 have s1 := sameF_self' (created_keeps hm.2 s true [257, 0] (by decide)) ho
 have s2 := sameF_self' (created_keeps hm.2 s true [257, 0, 0] (by decide)) ho
 have s3 := sameF_self' (created_keeps hm.2 s false [258, 0, n] (by show 3 ≤ 500; omega)) ho
 have s4 := sameF_self' (machine_keeps hm.2 s n) ho
 have s5 := sameF_self' (imm_keeps hm.2) ho
 have s6 := sameF_self' (forget_keeps hm.2 s) ho
 clear ho hg hm hz hi
 generalize createdD f s true [257, 0] = p1 at *
 generalize createdD f s true [257, 0, 0] = p2 at *
 generalize createdD f s false [258, 0, n] = p3 at *
 generalize machineD f s n = p4 at *
 generalize immD f = p5 at *
 generalize forgetD f s = p6 at *
 unfold encFE at a1 a2 a3 a4 a5 a6 a7 a8 a9 b1 b2 b3
 have e1 := bneI p1.2
 have e2 := bneI p2.2
 have e3 := bneI p3.2
 have e4 := beqI p4.2
 have e5 := beqI p5.2
 have e6 := beqI p6.2
 refine goF Tryz.func5 (closedL_cons (.agg (encFo_closed f)) (closedL_cons (.val _) (closedL_cons (.val _) closedL_nil))) (fun w0 st0 => ?_)
 dsimp only [frOf]
 (repeat' (first | refine goA ?_ | refine cX c0 ?_ | refine cX cm ?_ | refine cX a1 ?_ | refine cX a2 ?_ | refine cX a3 ?_ | refine cX a4 ?_ | refine cX a5 ?_ | refine cX a6 ?_ | refine cX a7 ?_ | refine cX a8 ?_ | refine cX a9 ?_ | refine cX b1 ?_ | refine cX b2 ?_ | refine cX b3 ?_ | refine cX s1 ?_ | refine cX s2 ?_ | refine cX s3 ?_ | refine cX s4 ?_ | refine cX s5 ?_ | refine cX s6 ?_ | refine goB ?_ | fail))
 (refine awp_ret ⟨_, ResL.cons (ResA.tmp (.val _)) .nil, congrArg (fun b => AV.val (.bool b)) ?_⟩; first | rfl | (symm; assumption) | assumption)
end Go.Proofs.YthlbcakjngcjbaaGreat
namespace Go.Proofs.YthlbcakjngcjbaaGreat
open Go Go.RowKit Go.ChangeShapes Go.WideShapes Go.Deep Go.Proofs.YthlbcakjngcjbaaGreat
set_option maxRecDepth 100000
theorem compWords_lifted (os : Os) (started : os.Started) (H : Type) (enc : TypeId × Value → H) :
  ReturnsInHanded {} Tryz.checked os 5 .any (Rows.compWordsSpec.pre6 enc Tryz.prog Tryz.f5 Rows.compWordsRow.domain false) (Rows.compWordsSpec.post enc Tryz.prog Tryz.f5 false true false false) := by
 refine returnsInHanded_of_change (C := Tryz.checked) own_knob started (by kernel_rfl) Tryz.func5
  (ChangeSpec.witness6 (enc := enc) (C := Tryz.checked) false ⟨#[], #[.agg #[.int .i64 0, .int .i64 0, .int .i64 0, .int .i64 0, .int .i64 0, .slice none 0 0, .slice none 0 0, .int .i64 0, .slice none 0 0, .slice none 0 0, .slice none 0 0, .slice none 0 0, .int .i64 0, .slice none 0 0, .slice none 0 0, .bool false, .slice none 0 0, .int .i64 0, .int .i64 0, .int .i64 0, .int .i64 0, .int .i64 0, .slice none 0 0, .int .i64 0, .slice none 0 0, .int .i64 0, .int .i64 0, .int .i64 0, .bool false, .int .i64 0], .string ⟨#[]⟩, .int .i64 0], []⟩ 12 (by kernel_rfl) (by kernel_rfl) (by kernel_rfl) (by kernel_rfl)) ?_
 intro W base args ds gs before hval0 hW hcnd _
 have hval : ∀ (j : Nat) t v, Tryz.f5.params[j]? = some t → args[j]? = some v → Value.okWide Tryz.prog W .any base t v := hval0
 have hW' := hW
 obtain ⟨p, q, hA0, hV, rfl, hfz, hnd⟩ := hW
 have hA : DataW.TrodAll enc Tryz.prog W 0 (fun _ => true) true Tryz.f5.params.toList args.toList ds p := hA0
 rw [Tryz.params5] at hA hval
 obtain ⟨v0, vs0, d0, ds0, p0, q0, hargs, rfl, rfl, h0, r0⟩ := trodAll_cons hA
 obtain ⟨v1, vs1, d1, ds1, p1, q1, rfl, rfl, rfl, h1, r1⟩ := trodAll_cons r0
 obtain ⟨v2, vs2, d2, ds2, p2, q2, rfl, rfl, rfl, h2, r2⟩ := trodAll_cons r1
 obtain ⟨rfl, rfl, rfl⟩ := trodAll_nil r2
 obtain rfl : args = #[v0, v1, v2] := by cases args; simp_all
 obtain ⟨rfl, rfl⟩ := trodVars_none hV
 have k0 := h0
 have lt0 : ∀ x ∈ p0, x.block < W.heap.size := by obtain ⟨m, hm⟩ := k0; exact DataW.trod_lt m _ _ _ hm
 have k1 := h1
 have lt1 : ∀ x ∈ p1, x.block < W.heap.size := by obtain ⟨m, hm⟩ := k1; exact DataW.trod_lt m _ _ _ hm
 have k2 := h2
 have lt2 : ∀ x ∈ p2, x.block < W.heap.size := by obtain ⟨m, hm⟩ := k2; exact DataW.trod_lt m _ _ _ hm
 obtain ⟨y0, rep0, hy0⟩ := arg_struct Tryz.underlying41 (hval 0 41 v0 rfl rfl) h0 opens_fo
 obtain ⟨y1, rep1, hy1⟩ := arg_str Tryz.underlying9 (hval 1 9 v1 rfl rfl) h1
 obtain ⟨y2, rep2, hy2⟩ := arg_int Tryz.underlying3 (hval 2 3 v2 rfl rfl) h2
 clear hA0 hval0
 refine ((words14_c y0 y1 y2 hy0).law (us := [v0, v1, v2]) rfl (fun i x u hx hu => by
  cases i with
  | zero => simp only [List.getElem?_cons_zero, Option.some.injEq] at hx hu; rw [← hx, ← hu]; exact rep0
  | succ i =>
   simp only [List.getElem?_cons_succ] at hx hu
   cases i with
   | zero => simp only [List.getElem?_cons_zero, Option.some.injEq] at hx hu; rw [← hx, ← hu]; exact rep1
   | succ i =>
    simp only [List.getElem?_cons_succ] at hx hu
    cases i with
    | zero => simp only [List.getElem?_cons_zero, Option.some.injEq] at hx hu; rw [← hx, ← hu]; exact rep2
    | succ i =>
     simp only [List.getElem?_cons_succ] at hx hu
     simp at hx)).mono fun e W' ⟨he, bel⟩ => ?_
 subst he
 exact ⟨_, rfl, _, _, _, [], _, [], hW', trodAll_mk1 (shut_bool Tryz.underlying4 _), (trodAll_cons_mk (Below.trod laid_out (by kernel_rfl) (of_decide_eq_true (by kernel_rfl)) k0 bel lt0) (trodAll_cons_mk (Below.trod laid_out (by kernel_rfl) (of_decide_eq_true (by kernel_rfl)) k1 bel lt1) (trodAll_cons_mk (Below.trod laid_out (by kernel_rfl) (of_decide_eq_true (by kernel_rfl)) k2 bel lt2) trodAll_mk0))), rfl, bel.frame _, fun h => by cases h⟩
theorem compWords_holds : Rows.CompWordsSaid :=
 OpenClaim.holds_of_wide 5 Tryz.f5 rfl rfl rfl rfl rfl rfl rfl ⟨rfl, rfl, rfl, rfl, rfl⟩ rfl rfl rfl rfl rfl (by kernel_rfl) Tryz.func5 (by kernel_rfl)
  (of_decide_eq_true (by kernel_rfl)) (by unfold Func.isWrapper; first | (rw [if_pos (by decide +kernel)]; kernel_rfl) | (rw [if_neg (by decide +kernel)]; exact ⟨rfl, rfl⟩))
  (fun os started H enc _ => compWords_lifted os started H enc)
#print axioms compWords_holds
end Go.Proofs.YthlbcakjngcjbaaGreat
