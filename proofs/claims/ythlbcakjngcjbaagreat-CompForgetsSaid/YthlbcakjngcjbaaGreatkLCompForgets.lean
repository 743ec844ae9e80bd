/- CompForgets returns true at every input, and leaves its arguments as they were. -/
import Derived.Test.YthlbcakjngcjbaaGreatW1
import Derived.Test.YthlbcakjngcjbaaGreatW2
import Derived.Test.YthlbcakjngcjbaaGreatW3
import Derived.Test.YthlbcakjngcjbaaGreatW4
import Derived.Test.YthlbcakjngcjbaaGreatkW5
import Derived.Test.YthlbcakjngcjbaaGreatkW6
import Derived.Test.YthlbcakjngcjbaaGreatkW7
import Derived.Test.YthlbcakjngcjbaaGreatkW8
import Derived.Test.YthlbcakjngcjbaaGreatkW9
import Derived.Test.YthlbcakjngcjbaaGreatkW10
import Derived.Test.YthlbcakjngcjbaaGreatkW11
import Derived.Test.YthlbcakjngcjbaaGreatkW12
import Derived.Test.YthlbcakjngcjbaaGreatkW13
import Derived.Test.YthlbcakjngcjbaaGreatkW14
import Derived.Test.YthlbcakjngcjbaaGreatkW15
import Derived.Test.YthlbcakjngcjbaaGreatkW16
import Derived.Test.YthlbcakjngcjbaaGreatkW17
import Derived.Test.YthlbcakjngcjbaaGreatkW18
import Derived.Test.YthlbcakjngcjbaaGreatkW19
import Derived.Test.YthlbcakjngcjbaaGreatkW20
import Derived.Test.YthlbcakjngcjbaaGreatkW21
import Derived.Test.YthlbcakjngcjbaaGreatkW22
import Derived.Test.YthlbcakjngcjbaaGreatkW23
set_option linter.unusedVariables false
set_option linter.unusedSimpArgs false
namespace Go.Proofs.YthlbcakjngcjbaaGreat
open Go Go.RowKit
open Go.Proofs.YthlbcakjngcjbaaGreat.Dict (St Bs bs_eq Wd encW encWs closed_ws sameW)
open Go.Proofs.YthlbcakjngcjbaaGreat.Mem (Mm encM encBs closed_bs encP encP_closed closed_m)
open Go.Proofs.YthlbcakjngcjbaaGreat.Stk (encS closed_s)
set_option maxRecDepth 100000
theorem made_code {f : Fo} {name : Bs} {last : Bool} {l : List Int} (h : (createdD f name last l).2 ≠ 0) : (createdD f name last l).1 = f := by
 unfold createdD at h ⊢
 split
 ·rfl
 ·split
  ·rfl
  ·rename_i h1 h2
   rw [if_neg h1, if_neg h2] at h
   exact absurd rfl h
theorem sameW_self (l : List Wd) : sameW l l = true := by unfold sameW; exact if_pos rfl
attribute [local irreducible] Decidable.decide awp ARun regK toK
set_option maxHeartbeats 16000000 in
theorem forgets14_c (f : Fo) (s : Bs) (n : Int) (hi : FlIn f.v.dict) : FnC Tryz.prog 8 [.agg (encFo f), St s, .val (.int .i64 n)] (.val (.bool true)) := by
 have c0 := shown14_c
 have cm := mayF_c f hi
 have nt : (!true) = false := rfl
 have nf : (!false) = true := rfl
 have z0' : ((0 : Int) == 0) = true := by simp
 have z1' : ((0 : Int) != 0) = false := by simp
 have z2' : ((1 : Int) == 1) = true := by simp
 by_cases hm : FewF f ∧ RightF f
 case neg =>
  rw [pD_no hm] at cm
  refine goF Tryz.func8 (closedL_cons (.agg (encFo_closed f)) (closedL_cons (.val _) (closedL_cons (.val _) closedL_nil))) (fun w0 st0 => ?_)
  dsimp only [frOf]
  (repeat' (first | refine goA ?_ | refine cX c0 ?_ | refine cX cm ?_ | refine goB ?_ | fail))
  exact awp_ret ⟨_, ResL.cons (ResA.tmp (.val _)) .nil, rfl⟩
 rw [pD_yes hm] at cm
 have hz : (ByteArray.mk s.toArray).size = s.length := rfl
 by_cases hs : 60 < s.length
 ·have d : decide ((60 : Int) < ((ByteArray.mk s.toArray).size : Nat)) = true := decide_eq_true (by omega)
  refine goF Tryz.func8 (closedL_cons (.agg (encFo_closed f)) (closedL_cons (.val _) (closedL_cons (.val _) closedL_nil))) (fun w0 st0 => ?_)
  dsimp only [frOf]
  (repeat' (first | refine goA ?_ | refine cX c0 ?_ | refine cX cm ?_ | refine goB ?_ | fail))
  exact awp_ret ⟨_, ResL.cons (ResA.tmp (.val _)) .nil, rfl⟩
 have d : decide ((60 : Int) < ((ByteArray.mk s.toArray).size : Nat)) = false := decide_eq_false (by omega)
 by_cases hx : f.c.xt = 0
 case neg =>
  have dx := closeC_one hx
  refine goF Tryz.func8 (closedL_cons (.agg (encFo_closed f)) (closedL_cons (.val _) (closedL_cons (.val _) closedL_nil))) (fun w0 st0 => ?_)
  dsimp only [frOf]
  (repeat' (first | refine goA ?_ | refine cX c0 ?_ | refine cX cm ?_ | refine goB ?_ | fail))
  exact awp_ret ⟨_, ResL.cons (ResA.tmp (.val _)) .nil, rfl⟩
 have dx := closeC_zero hx
 have ho : f.v.m.old.length ≤ 300 := by have := hm.1.1.f1.2.1; omega
 have hg : Gd f.v 900 := hm.2.1.gd (by omega) _ (by omega)
 have k1 := constant_c f s n (hg.le (by omega)) (by omega)
 have kk := created_keeps hm.2 s false [258, 0, n] (by show 3 ≤ 500; omega)
 by_cases hz1 : (createdD f s false [258, 0, n]).2 = 0
 case neg =>
  have hc := made_code hz1
  have hv := hm.1.1.held hi
  have s1 := ref_sameF_c f f hv hv hm.2.lv.2 hm.2.lv.1 hm.2.lv.1
  rw [pD_yes rfl] at s1
  generalize createdD f s false [258, 0, n] = p at *
  rw [show p = (f, p.2) from Prod.ext hc rfl] at k1
  have d1 : (p.2 != 0) = true := by simp [hz1]
  unfold encFE at k1
  clear ho hg hm hz hi kk
  refine goF Tryz.func8 (closedL_cons (.agg (encFo_closed f)) (closedL_cons (.val _) (closedL_cons (.val _) closedL_nil))) (fun w0 st0 => ?_)
  dsimp only [frOf]
  (repeat' (first | refine goA ?_ | refine cX c0 ?_ | refine cX cm ?_ | refine cX k1 ?_ | refine cX s1 ?_ | refine goB ?_ | fail))
  exact awp_ret ⟨_, ResL.cons (ResA.tmp (.val _)) .nil, rfl⟩
 obtain ⟨m, hh, xt, e1, g1, g2, g3⟩ := created_yes hm.2 hx hz1
 have e2 := imm_end (m := m) (hh := hh) (name := s) hm.2 hx g1
 have e3 := forget_end (m := m) (name := s) hm.2 hx g1 g3
 rw [e1] at k1 kk
 dsimp only at kk
 have ho2 : m.old.length ≤ f.v.m.old.length + 600 := kk.o
 have ga : Gd (upV f.v m hh (f.v.dict ++ [⟨s, xt, 0⟩]) f.v.last f.v.hand) 900 := kk.r.1.gd (by show m.old.length ≤ 1000; omega) _ (by omega)
 have kb := imm_keeps kk.r
 rw [e2] at kb
 have gb : Gd (upV f.v m hh (f.v.dict ++ [⟨s, xt, 1⟩]) f.v.last f.v.hand) 900 := kb.r.1.gd (by show m.old.length ≤ 1000; omega) _ (by omega)
 have k2 := imm_c ⟨upV f.v m hh (f.v.dict ++ [⟨s, xt, 0⟩]) f.v.last f.v.hand, f.c⟩ (ga.le (by omega))
 rw [e2] at k2
 have k3 := forget_c ⟨upV f.v m hh (f.v.dict ++ [⟨s, xt, 1⟩]) f.v.last f.v.hand, f.c⟩ s (gb.le (by omega)) (by omega)
 rw [e3] at k3
 have sw := Dict.ref_same_c f.v.dict f.v.dict hg.dl
 rw [sameW_self] at sw
 have hlen : ((((f.v.dict ++ [(⟨s, xt, 1⟩ : Wd)]).map encW).length : Nat) : Int) = f.v.dict.length + 1 := by simp
 have hp : ((f.v.dict ++ [(⟨s, xt, 1⟩ : Wd)]).map encW)[((((((f.v.dict ++ [(⟨s, xt, 1⟩ : Wd)]).map encW).length : Nat) : Int) - 1)).toNat]? = some (encW ⟨s, xt, 1⟩) := by
  rw [hlen, List.getElem?_map, show ((f.v.dict.length : Int) + 1 - 1).toNat = f.v.dict.length by omega]
  simp
 generalize hD : f.v.dict ++ [(⟨s, xt, 1⟩ : Wd)] = D at *
 have hlen2 : ((((upV f.v m hh D f.v.last f.v.hand).dict.map encW).length : Nat) : Int) = f.v.dict.length + 1 := hlen
 have hp2 : ((upV f.v m hh D f.v.last f.v.hand).dict.map encW)[((((((upV f.v m hh D f.v.last f.v.hand).dict.map encW).length : Nat) : Int) - 1)).toNat]? = some (encW ⟨s, xt, 1⟩) := hp
 have hdl := hg.dl
 have hb0 := hg.ok.h0
 have hb1 : f.v.here ≤ 1000000 := by have h1 := hg.ok.h1; have h2 := hg.ok.b; omega
 have t1 : decide ((((D.map encW).length : Nat) : Int) < 1) = false := decide_eq_false (by omega)
 have t2 : ((ByteArray.mk s.toArray).toList == (ByteArray.mk s.toArray).toList) = true := by simp
 have t3 : (xt == xt) = true := by simp
 have t4 : decide (f.v.here ≤ xt) = true := decide_eq_true g1
 have t5 : decide (xt < f.v.here + 8) = true := decide_eq_true g2
 unfold encFE at k1 k2 k3
 clear ho hg hm hz hi kk kb ga gb e1 e2 e3 hz1 ho2
 refine goF Tryz.func8 (closedL_cons (.agg (encFo_closed f)) (closedL_cons (.val _) (closedL_cons (.val _) closedL_nil))) (fun w0 st0 => ?_)
 dsimp only [frOf]
 (repeat' (first | refine goA ?_ | refine cX c0 ?_ | refine cX cm ?_ | refine cX k1 ?_ | refine cX k2 ?_ | refine cX k3 ?_ | refine cX sw ?_ | refine ARun.indexAddr rfl rfl (by omega) (by with_reducible exact hp2) rfl rfl rfl rfl rfl (guardF_spec rfl) ?_ | refine goB ?_ | fail))
 (refine awp_ret ⟨_, ResL.cons (ResA.tmp (.val _)) .nil, congrArg (fun b => AV.val (.bool b)) ?_⟩; first | rfl | (symm; assumption) | assumption)
end Go.Proofs.YthlbcakjngcjbaaGreat
namespace Go.Proofs.YthlbcakjngcjbaaGreat
open Go Go.RowKit Go.ChangeShapes Go.WideShapes Go.Deep Go.Proofs.YthlbcakjngcjbaaGreat
set_option maxRecDepth 100000
theorem compForgets_lifted (os : Os) (started : os.Started) (H : Type) (enc : TypeId × Value → H) :
  ReturnsInHanded {} Tryz.checked os 8 .any (Rows.compForgetsSpec.pre6 enc Tryz.prog Tryz.f8 Rows.compForgetsRow.domain false) (Rows.compForgetsSpec.post enc Tryz.prog Tryz.f8 false true false false) := by
 refine returnsInHanded_of_change (C := Tryz.checked) own_knob started (by kernel_rfl) Tryz.func8
  (ChangeSpec.witness6 (enc := enc) (C := Tryz.checked) false ⟨#[], #[.agg #[.int .i64 0, .int .i64 0, .int .i64 0, .int .i64 0, .int .i64 0, .slice none 0 0, .slice none 0 0, .int .i64 0, .slice none 0 0, .slice none 0 0, .slice none 0 0, .slice none 0 0, .int .i64 0, .slice none 0 0, .slice none 0 0, .bool false, .slice none 0 0, .int .i64 0, .int .i64 0, .int .i64 0, .int .i64 0, .int .i64 0, .slice none 0 0, .int .i64 0, .slice none 0 0, .int .i64 0, .int .i64 0, .int .i64 0, .bool false, .int .i64 0], .string ⟨#[]⟩, .int .i64 0], []⟩ 12 (by kernel_rfl) (by kernel_rfl) (by kernel_rfl) (by kernel_rfl)) ?_
 intro W base args ds gs before hval0 hW hcnd _
 have hval : ∀ (j : Nat) t v, Tryz.f8.params[j]? = some t → args[j]? = some v → Value.okWide Tryz.prog W .any base t v := hval0
 have hW' := hW
 obtain ⟨p, q, hA0, hV, rfl, hfz, hnd⟩ := hW
 have hA : DataW.TrodAll enc Tryz.prog W 0 (fun _ => true) true Tryz.f8.params.toList args.toList ds p := hA0
 rw [Tryz.params8] at hA hval
 obtain ⟨v0, vs0, d0, ds0, p0, q0, hargs, rfl, rfl, h0, r0⟩ := trodAll_cons hA
 obtain ⟨v1, vs1, d1, ds1, p1, q1, rfl, rfl, rfl, h1, r1⟩ := trodAll_cons r0
 obtain ⟨v2, vs2, d2, ds2, p2, q2, rfl, rfl, rfl, h2, r2⟩ := trodAll_cons r1
 obtain ⟨rfl, rfl, rfl⟩ := trodAll_nil r2
 obtain rfl : args = #[v0, v1, v2] := by cases args; simp_all
 obtain ⟨rfl, rfl⟩ := trodVars_none hV
 have k0 := h0
 have lt0 : ∀ x ∈ p0, x.block < W.heap.size := by obtain ⟨m, hm⟩ := k0; exact DataW.trod_lt m _ _ _ hm
 have k1 := h1
 have lt1 : ∀ x ∈ p1, x.block < W.heap.size := by obtain ⟨m, hm⟩ := k1; exact DataW.trod_lt m _ _ _ hm
 have k2 := h2
 have lt2 : ∀ x ∈ p2, x.block < W.heap.size := by obtain ⟨m, hm⟩ := k2; exact DataW.trod_lt m _ _ _ hm
 obtain ⟨y0, rep0, hy0⟩ := arg_struct Tryz.underlying41 (hval 0 41 v0 rfl rfl) h0 opens_fo
 obtain ⟨y1, rep1, hy1⟩ := arg_str Tryz.underlying9 (hval 1 9 v1 rfl rfl) h1
 obtain ⟨y2, rep2, hy2⟩ := arg_int Tryz.underlying3 (hval 2 3 v2 rfl rfl) h2
 clear hA0 hval0
 refine ((forgets14_c y0 y1 y2 hy0).law (us := [v0, v1, v2]) rfl (fun i x u hx hu => by
  cases i with
  | zero => simp only [List.getElem?_cons_zero, Option.some.injEq] at hx hu; rw [← hx, ← hu]; exact rep0
  | succ i =>
   simp only [List.getElem?_cons_succ] at hx hu
   cases i with
   | zero => simp only [List.getElem?_cons_zero, Option.some.injEq] at hx hu; rw [← hx, ← hu]; exact rep1
   | succ i =>
    simp only [List.getElem?_cons_succ] at hx hu
    cases i with
    | zero => simp only [List.getElem?_cons_zero, Option.some.injEq] at hx hu; rw [← hx, ← hu]; exact rep2
    | succ i =>
     simp only [List.getElem?_cons_succ] at hx hu
     simp at hx)).mono fun e W' ⟨he, bel⟩ => ?_
 subst he
 exact ⟨_, rfl, _, _, _, [], _, [], hW', trodAll_mk1 (shut_bool Tryz.underlying4 _), (trodAll_cons_mk (Below.trod laid_out (by kernel_rfl) (of_decide_eq_true (by kernel_rfl)) k0 bel lt0) (trodAll_cons_mk (Below.trod laid_out (by kernel_rfl) (of_decide_eq_true (by kernel_rfl)) k1 bel lt1) (trodAll_cons_mk (Below.trod laid_out (by kernel_rfl) (of_decide_eq_true (by kernel_rfl)) k2 bel lt2) trodAll_mk0))), rfl, bel.frame _, fun h => by cases h⟩
theorem compForgets_holds : Rows.CompForgetsSaid :=
 OpenClaim.holds_of_wide 8 Tryz.f8 rfl rfl rfl rfl rfl rfl rfl ⟨rfl, rfl, rfl, rfl, rfl⟩ rfl rfl rfl rfl rfl (by kernel_rfl) Tryz.func8 (by kernel_rfl)
  (of_decide_eq_true (by kernel_rfl)) (by unfold Func.isWrapper; first | (rw [if_pos (by decide +kernel)]; kernel_rfl) | (rw [if_neg (by decide +kernel)]; exact ⟨rfl, rfl⟩))
  (fun os started H enc _ => compForgets_lifted os started H enc)
#print axioms compForgets_holds
end Go.Proofs.YthlbcakjngcjbaaGreat
