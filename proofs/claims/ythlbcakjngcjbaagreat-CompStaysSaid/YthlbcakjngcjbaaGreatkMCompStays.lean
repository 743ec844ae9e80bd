/- comp: CompStays' walk. -/
import Derived.Test.YthlbcakjngcjbaaGreatW1
import Derived.Test.YthlbcakjngcjbaaGreatW2
import Derived.Test.YthlbcakjngcjbaaGreatW3
import Derived.Test.YthlbcakjngcjbaaGreatW4
import Derived.Test.YthlbcakjngcjbaaGreatkW5
import Derived.Test.YthlbcakjngcjbaaGreatkW6
import Derived.Test.YthlbcakjngcjbaaGreatkW7
import Derived.Test.YthlbcakjngcjbaaGreatkW8
import Derived.Test.YthlbcakjngcjbaaGreatkW9
import Derived.Test.YthlbcakjngcjbaaGreatkW10
import Derived.Test.YthlbcakjngcjbaaGreatkW11
import Derived.Test.YthlbcakjngcjbaaGreatkW12
import Derived.Test.YthlbcakjngcjbaaGreatkW13
import Derived.Test.YthlbcakjngcjbaaGreatkW14
import Derived.Test.YthlbcakjngcjbaaGreatkW15
import Derived.Test.YthlbcakjngcjbaaGreatkW16
import Derived.Test.YthlbcakjngcjbaaGreatkW17
import Derived.Test.YthlbcakjngcjbaaGreatkW18
import Derived.Test.YthlbcakjngcjbaaGreatkW19
import Derived.Test.YthlbcakjngcjbaaGreatkW20
import Derived.Test.YthlbcakjngcjbaaGreatkW21
import Derived.Test.YthlbcakjngcjbaaGreatkW22
import Derived.Test.YthlbcakjngcjbaaGreatkW23
set_option linter.unusedVariables false
set_option linter.unusedSimpArgs false
namespace Go.Proofs.YthlbcakjngcjbaaGreat
open Go Go.RowKit
open Go.Proofs.YthlbcakjngcjbaaGreat.Dict (St Bs bs_eq Wd encW encWs closed_ws)
open Go.Proofs.YthlbcakjngcjbaaGreat.Mem (Mm encM encBs closed_bs encP encP_closed closed_m)
open Go.Proofs.YthlbcakjngcjbaaGreat.Stk (encS closed_s sameD)
set_option maxRecDepth 100000
structure Si where
 f : Fo
 s : Bs
 n : Int
 on : Bool
 k : Int
def encSi (w : Si) : List AV := [.val (.int .i64 w.f.v.cf.mem), .val (.int .i64 w.f.v.cf.data), .val (.int .i64 w.f.v.cf.ret), .val (.int .i64 w.f.v.cf.words), .val (.int .i64 w.f.v.cf.out), encBs w.f.v.m.b, .sl 2 false (w.f.v.m.old.map encP), .val (.int .i64 w.f.v.here), encS w.f.v.d, encS w.f.v.r, encLFr w.f.v.f, encWs w.f.v.dict, .val (.int .i64 w.f.v.last), encBs w.f.v.out, encBs w.f.v.pb, .val (.bool w.f.v.po), encLRq w.f.v.req, .val (.int .i64 w.f.v.free), .val (.int .i64 w.f.v.next), .val (.int .i64 w.f.v.arg), .val (.int .i64 w.f.v.self), .val (.int .i64 w.f.v.now), encLHn w.f.v.hand, .val (.int .i64 w.f.c.xt), encLCf w.f.c.cf, .val (.int .i64 w.f.c.here), .val (.int .i64 w.f.c.dict), .val (.int .i64 w.f.c.last), .val (.bool w.f.c.on), .val (.int .i64 w.f.c.fuel), St w.s, .val (.int .i64 w.n), .val (.bool w.on), .val (.int .u8 w.k)]
theorem encSi_eq (w : Si) : encSi w = encFo w.f ++ [St w.s, .val (.int .i64 w.n), .val (.bool w.on), .val (.int .u8 w.k)] := rfl
theorem encSi_closed (w : Si) : ∀ x, x ∈ encSi w → Closed x := fun x hx => by
 rw [encSi_eq] at hx
 rcases List.mem_append.1 hx with hx | hx
 ·exact encFo_closed w.f x hx
 ·exact (closedL_cons (.val _) (closedL_cons (.val _) (closedL_cons (.val _) (closedL_cons (.val _) closedL_nil)))) x hx
theorem created_code {f : Fo} {name : Bs} {last : Bool} {l : List Int} (h : (createdD f name last l).2 ≠ 0) : (createdD f name last l).1 = f := by
 unfold createdD at h ⊢
 split
 ·rfl
 ·split
  ·rfl
  ·rename_i h1 h2
   rw [if_neg h1, if_neg h2] at h
   exact absurd rfl h
theorem machine_code {f : Fo} {name : Bs} {n : Int} (h : (machineD f name n).2 ≠ 0) : (machineD f name n).1 = f := by
 unfold machineD at h ⊢
 split
 ·rfl
 ·split
  ·rfl
  ·rename_i h1 h2
   rw [if_neg h1, if_neg h2] at h
   exact created_code h
theorem imm_code {f : Fo} (h : (immD f).2 ≠ 0) : (immD f).1 = f := by
 unfold immD at h ⊢
 split
 ·rfl
 ·split
  ·rfl
  ·rename_i h1 h2
   rw [if_neg h1, if_neg h2] at h
   exact absurd rfl h
theorem forget_code {f : Fo} {name : Bs} (h : (forgetD f name).2 ≠ 0) : (forgetD f name).1 = f := by
 unfold forgetD at h ⊢
 split
 ·rfl
 ·split
  ·rfl
  ·split
   ·rfl
   ·rename_i h1 h2 h3
    rw [if_neg h1, if_neg h2, if_neg h3] at h
    exact absurd rfl h
theorem begin_code {f : Fo} {name : Bs} {on : Bool} {n : Int} (h : (beginD f name on n).2 ≠ 0) : (beginD f name on n).1 = f := by
 unfold beginD at h ⊢
 split
 ·rfl
 ·split
  ·rfl
  ·split
   ·rfl
   ·split
    ·rfl
    ·rename_i h1 h2 h3 h4
     rw [if_neg h1, if_neg h2, if_neg h3, if_neg h4] at h
     exact absurd rfl h
theorem end_code {f : Fo} (h : (endD' f).2 ≠ 0) : (endD' f).1 = f := by
 unfold endD' at h ⊢
 split
 ·rfl
 ·split
  ·rfl
  ·split
   ·rfl
   ·split
    ·rfl
    ·rename_i h1 h2 h3 h4
     rw [if_neg h1, if_neg h2, if_neg h3, if_neg h4] at h
     exact absurd rfl h
theorem sameD_self (l : List Int) : sameD l l = true := by unfold sameD; simp
theorem stay_parts {f x : Fo} (h : Keeps f x) (hf : RightF f) (ho : f.v.m.old.length ≤ 1000) : FnC Tryz.prog 13 [.agg (encFo x)] (.val (.bool true)) ∧ FnC Tryz.prog 35 [encS x.v.d, encS f.v.d] (.val (.bool true)) ∧ FnC Tryz.prog 35 [encS x.v.r, encS f.v.r] (.val (.bool true)) ∧ ((ByteArray.mk x.v.out.toArray).toList == (ByteArray.mk f.v.out.toArray).toList) = true ∧ (x = f → FnC Tryz.prog 15 [.agg (encFo x), .agg (encFo f)] (.val (.bool true))) := by
 have hh := h.held ho
 have c1 := ref_rightF_c x hh h.r.lv.2
 rw [pD_yes h.r] at c1
 have c2 := Stk.ref_same_c x.v.d x.v.d hh.dl hh.dl
 have c3 := Stk.ref_same_c x.v.r x.v.r hh.rl hh.rl
 rw [sameD_self] at c2 c3
 refine ⟨c1, ?_, ?_, ?_, fun e => ?_⟩
 ·rw [← h.d]; exact c2
 ·rw [← h.s]; exact c3
 ·rw [h.out, bs_eq]; exact decide_eq_true rfl
 ·have c4 := ref_sameF_c x x hh hh h.r.lv.2 h.r.lv.1 h.r.lv.1
  rw [pD_yes rfl] at c4
  rw [← e]
  exact c4
attribute [local irreducible] Decidable.decide awp ARun regK toK
set_option maxHeartbeats 32000000 in
theorem stays14_c (w : Si) (hi : FlIn w.f.v.dict) (hk : 0 ≤ w.k ∧ w.k ≤ 255) : FnC Tryz.prog 6 [.agg (encSi w)] (.val (.bool true)) := by
 have c0 := shown14_c
 have cm := mayF_c w.f hi
 have nt : (!true) = false := rfl
 have nf : (!false) = true := rfl
 have zz : ((0 : Int) == 0) = true := by simp
 by_cases hm : FewF w.f ∧ RightF w.f
 case neg =>
  rw [pD_no hm] at cm
  refine goF Tryz.func6 (closedL_cons (.agg (encSi_closed w)) closedL_nil) (fun w0 st0 => ?_)
  dsimp only [frOf]
  (repeat' (first | refine goA ?_ | refine cX c0 ?_ | refine cX cm ?_ | refine goB ?_ | fail))
  exact awp_ret ⟨_, ResL.cons (ResA.tmp (.val _)) .nil, rfl⟩
 rw [pD_yes hm] at cm
 have hz : (ByteArray.mk w.s.toArray).size = w.s.length := rfl
 by_cases hs : 60 < w.s.length
 ·have d : decide ((60 : Int) < ((ByteArray.mk w.s.toArray).size : Nat)) = true := decide_eq_true (by omega)
  refine goF Tryz.func6 (closedL_cons (.agg (encSi_closed w)) closedL_nil) (fun w0 st0 => ?_)
  dsimp only [frOf]
  (repeat' (first | refine goA ?_ | refine cX c0 ?_ | refine cX cm ?_ | refine goB ?_ | fail))
  exact awp_ret ⟨_, ResL.cons (ResA.tmp (.val _)) .nil, rfl⟩
 have d : decide ((60 : Int) < ((ByteArray.mk w.s.toArray).size : Nat)) = false := decide_eq_false (by omega)
 have ho : w.f.v.m.old.length ≤ 1000 := by have := hm.1.1.f1.2.1; omega
 have hg : Gd w.f.v 900 := hm.2.1.gd ho _ (by omega)
 have hin : w.f.c.xt ≠ 0 → 0 ≤ w.f.c.dict ∧ w.f.c.dict < w.f.v.dict.length := fun e => ⟨(hm.2.2.2 e).2.1.2.2.1, (hm.2.2.2 e).2.1.2.2.2⟩
 have hj : w.k.tmod 9 = 0 ∨ w.k.tmod 9 = 1 ∨ w.k.tmod 9 = 2 ∨ w.k.tmod 9 = 3 ∨ w.k.tmod 9 = 4 ∨ w.k.tmod 9 = 5 ∨ w.k.tmod 9 = 6 ∨ w.k.tmod 9 = 7 ∨ w.k.tmod 9 = 8 := by
  rw [Int.tmod_eq_emod_of_nonneg hk.1]
  omega
 rcases hj with hj | hj | hj | hj | hj | hj | hj | hj | hj
 ·have k1 := beginW_c w.f w.s w.on w.n (hg.le (by omega)) (by omega)
  obtain ⟨s1, s2, s3, s4, s5⟩ := stay_parts (begin_keeps hm.2 w.s w.on w.n) hm.2 ho
  have t0 : (w.k.tmod 9 == 0) = true := beq_iff_eq.2 hj
  have hc : (beginD w.f w.s w.on w.n).2 ≠ 0 → (beginD w.f w.s w.on w.n).1 = w.f := begin_code
  unfold encFE at k1
  clear ho hg hin hm hz hi hj hk
  generalize beginD w.f w.s w.on w.n = p at *
  by_cases z : p.2 = 0
  ·have d1 : (p.2 == 0) = true := beq_iff_eq.2 z
   refine goF Tryz.func6 (closedL_cons (.agg (encSi_closed w)) closedL_nil) (fun w0 st0 => ?_)
   dsimp only [frOf]
   (repeat' (first | refine goA ?_ | refine cX c0 ?_ | refine cX cm ?_ | refine cX k1 ?_ | refine cX s1 ?_ | refine cX s2 ?_ | refine cX s3 ?_ | refine ARun.bytesStr (by first | exact SrcA.sl rfl (.inr rfl) | exact SrcA.sl rfl (.inl rfl) | exact SrcA.ownW rfl rfl rfl rfl) rfl rfl rfl rfl rfl rfl rfl rfl (guardF_spec rfl) ?_ | refine goB ?_ | fail))
   (refine awp_ret ⟨_, ResL.cons (ResA.tmp (.val _)) .nil, congrArg (fun b => AV.val (.bool b)) ?_⟩; first | rfl | (symm; assumption) | assumption)
  ·have d1 : (p.2 == 0) = false := beq_eq_false_iff_ne.2 z
   have s6 := s5 (hc z)
   refine goF Tryz.func6 (closedL_cons (.agg (encSi_closed w)) closedL_nil) (fun w0 st0 => ?_)
   dsimp only [frOf]
   (repeat' (first | refine goA ?_ | refine cX c0 ?_ | refine cX cm ?_ | refine cX k1 ?_ | refine cX s1 ?_ | refine cX s2 ?_ | refine cX s3 ?_ | refine cX s6 ?_ | refine ARun.bytesStr (by first | exact SrcA.sl rfl (.inr rfl) | exact SrcA.sl rfl (.inl rfl) | exact SrcA.ownW rfl rfl rfl rfl) rfl rfl rfl rfl rfl rfl rfl rfl (guardF_spec rfl) ?_ | refine goB ?_ | fail))
   (refine awp_ret ⟨_, ResL.cons (ResA.tmp (.val _)) .nil, congrArg (fun b => AV.val (.bool b)) ?_⟩; first | rfl | (symm; assumption) | assumption)
 ·have k1 := end_c w.f (hg.le (by omega)) hin
  obtain ⟨s1, s2, s3, s4, s5⟩ := stay_parts (end_keeps hm.2) hm.2 ho
  have t0 : (w.k.tmod 9 == 0) = false := beq_eq_false_iff_ne.2 (by omega)
  have t1 : (w.k.tmod 9 == 1) = true := beq_iff_eq.2 hj
  have hc : (endD' w.f).2 ≠ 0 → (endD' w.f).1 = w.f := end_code
  unfold encFE at k1
  clear ho hg hin hm hz hi hj hk
  generalize endD' w.f = p at *
  by_cases z : p.2 = 0
  ·have d1 : (p.2 == 0) = true := beq_iff_eq.2 z
   refine goF Tryz.func6 (closedL_cons (.agg (encSi_closed w)) closedL_nil) (fun w0 st0 => ?_)
   dsimp only [frOf]
   (repeat' (first | refine goA ?_ | refine cX c0 ?_ | refine cX cm ?_ | refine cX k1 ?_ | refine cX s1 ?_ | refine cX s2 ?_ | refine cX s3 ?_ | refine ARun.bytesStr (by first | exact SrcA.sl rfl (.inr rfl) | exact SrcA.sl rfl (.inl rfl) | exact SrcA.ownW rfl rfl rfl rfl) rfl rfl rfl rfl rfl rfl rfl rfl (guardF_spec rfl) ?_ | refine goB ?_ | fail))
   (refine awp_ret ⟨_, ResL.cons (ResA.tmp (.val _)) .nil, congrArg (fun b => AV.val (.bool b)) ?_⟩; first | rfl | (symm; assumption) | assumption)
  ·have d1 : (p.2 == 0) = false := beq_eq_false_iff_ne.2 z
   have s6 := s5 (hc z)
   refine goF Tryz.func6 (closedL_cons (.agg (encSi_closed w)) closedL_nil) (fun w0 st0 => ?_)
   dsimp only [frOf]
   (repeat' (first | refine goA ?_ | refine cX c0 ?_ | refine cX cm ?_ | refine cX k1 ?_ | refine cX s1 ?_ | refine cX s2 ?_ | refine cX s3 ?_ | refine cX s6 ?_ | refine ARun.bytesStr (by first | exact SrcA.sl rfl (.inr rfl) | exact SrcA.sl rfl (.inl rfl) | exact SrcA.ownW rfl rfl rfl rfl) rfl rfl rfl rfl rfl rfl rfl rfl (guardF_spec rfl) ?_ | refine goB ?_ | fail))
   (refine awp_ret ⟨_, ResL.cons (ResA.tmp (.val _)) .nil, congrArg (fun b => AV.val (.bool b)) ?_⟩; first | rfl | (symm; assumption) | assumption)
 ·have k1 := undo_c w.f (hg.le (by omega))
  obtain ⟨s1, s2, s3, s4, s5⟩ := stay_parts (undo_keeps hm.2) hm.2 ho
  have t0 : (w.k.tmod 9 == 0) = false := beq_eq_false_iff_ne.2 (by omega)
  have t1 : (w.k.tmod 9 == 1) = false := beq_eq_false_iff_ne.2 (by omega)
  have t2 : (w.k.tmod 9 == 2) = true := beq_iff_eq.2 hj
  clear ho hg hin hm hz hi hj hk
  generalize undoD w.f = p at *
  refine goF Tryz.func6 (closedL_cons (.agg (encSi_closed w)) closedL_nil) (fun w0 st0 => ?_)
  dsimp only [frOf]
  (repeat' (first | refine goA ?_ | refine cX c0 ?_ | refine cX cm ?_ | refine cX k1 ?_ | refine cX s1 ?_ | refine cX s2 ?_ | refine cX s3 ?_ | refine ARun.bytesStr (by first | exact SrcA.sl rfl (.inr rfl) | exact SrcA.sl rfl (.inl rfl) | exact SrcA.ownW rfl rfl rfl rfl) rfl rfl rfl rfl rfl rfl rfl rfl (guardF_spec rfl) ?_ | refine goB ?_ | fail))
  (refine awp_ret ⟨_, ResL.cons (ResA.tmp (.val _)) .nil, congrArg (fun b => AV.val (.bool b)) ?_⟩; first | rfl | (symm; assumption) | assumption)
 ·have k1 := create_c w.f w.s (hg.le (by omega)) (by omega)
  obtain ⟨s1, s2, s3, s4, s5⟩ := stay_parts (created_keeps hm.2 w.s true [257, 0] (by show 2 ≤ 500; omega)) hm.2 ho
  have t0 : (w.k.tmod 9 == 0) = false := beq_eq_false_iff_ne.2 (by omega)
  have t1 : (w.k.tmod 9 == 1) = false := beq_eq_false_iff_ne.2 (by omega)
  have t2 : (w.k.tmod 9 == 2) = false := beq_eq_false_iff_ne.2 (by omega)
  have t3 : (w.k.tmod 9 == 3) = true := beq_iff_eq.2 hj
  have hc : (createdD w.f w.s true [257, 0]).2 ≠ 0 → (createdD w.f w.s true [257, 0]).1 = w.f := created_code
  unfold encFE at k1
  clear ho hg hin hm hz hi hj hk
  generalize createdD w.f w.s true [257, 0] = p at *
  by_cases z : p.2 = 0
  ·have d1 : (p.2 == 0) = true := beq_iff_eq.2 z
   refine goF Tryz.func6 (closedL_cons (.agg (encSi_closed w)) closedL_nil) (fun w0 st0 => ?_)
   dsimp only [frOf]
   (repeat' (first | refine goA ?_ | refine cX c0 ?_ | refine cX cm ?_ | refine cX k1 ?_ | refine cX s1 ?_ | refine cX s2 ?_ | refine cX s3 ?_ | refine ARun.bytesStr (by first | exact SrcA.sl rfl (.inr rfl) | exact SrcA.sl rfl (.inl rfl) | exact SrcA.ownW rfl rfl rfl rfl) rfl rfl rfl rfl rfl rfl rfl rfl (guardF_spec rfl) ?_ | refine goB ?_ | fail))
   (refine awp_ret ⟨_, ResL.cons (ResA.tmp (.val _)) .nil, congrArg (fun b => AV.val (.bool b)) ?_⟩; first | rfl | (symm; assumption) | assumption)
  ·have d1 : (p.2 == 0) = false := beq_eq_false_iff_ne.2 z
   have s6 := s5 (hc z)
   refine goF Tryz.func6 (closedL_cons (.agg (encSi_closed w)) closedL_nil) (fun w0 st0 => ?_)
   dsimp only [frOf]
   (repeat' (first | refine goA ?_ | refine cX c0 ?_ | refine cX cm ?_ | refine cX k1 ?_ | refine cX s1 ?_ | refine cX s2 ?_ | refine cX s3 ?_ | refine cX s6 ?_ | refine ARun.bytesStr (by first | exact SrcA.sl rfl (.inr rfl) | exact SrcA.sl rfl (.inl rfl) | exact SrcA.ownW rfl rfl rfl rfl) rfl rfl rfl rfl rfl rfl rfl rfl (guardF_spec rfl) ?_ | refine goB ?_ | fail))
   (refine awp_ret ⟨_, ResL.cons (ResA.tmp (.val _)) .nil, congrArg (fun b => AV.val (.bool b)) ?_⟩; first | rfl | (symm; assumption) | assumption)
 ·have k1 := constant_c w.f w.s w.n (hg.le (by omega)) (by omega)
  obtain ⟨s1, s2, s3, s4, s5⟩ := stay_parts (created_keeps hm.2 w.s false [258, 0, w.n] (by show 3 ≤ 500; omega)) hm.2 ho
  have t0 : (w.k.tmod 9 == 0) = false := beq_eq_false_iff_ne.2 (by omega)
  have t1 : (w.k.tmod 9 == 1) = false := beq_eq_false_iff_ne.2 (by omega)
  have t2 : (w.k.tmod 9 == 2) = false := beq_eq_false_iff_ne.2 (by omega)
  have t3 : (w.k.tmod 9 == 3) = false := beq_eq_false_iff_ne.2 (by omega)
  have t4 : (w.k.tmod 9 == 4) = true := beq_iff_eq.2 hj
  have hc : (createdD w.f w.s false [258, 0, w.n]).2 ≠ 0 → (createdD w.f w.s false [258, 0, w.n]).1 = w.f := created_code
  unfold encFE at k1
  clear ho hg hin hm hz hi hj hk
  generalize createdD w.f w.s false [258, 0, w.n] = p at *
  by_cases z : p.2 = 0
  ·have d1 : (p.2 == 0) = true := beq_iff_eq.2 z
   refine goF Tryz.func6 (closedL_cons (.agg (encSi_closed w)) closedL_nil) (fun w0 st0 => ?_)
   dsimp only [frOf]
   (repeat' (first | refine goA ?_ | refine cX c0 ?_ | refine cX cm ?_ | refine cX k1 ?_ | refine cX s1 ?_ | refine cX s2 ?_ | refine cX s3 ?_ | refine ARun.bytesStr (by first | exact SrcA.sl rfl (.inr rfl) | exact SrcA.sl rfl (.inl rfl) | exact SrcA.ownW rfl rfl rfl rfl) rfl rfl rfl rfl rfl rfl rfl rfl (guardF_spec rfl) ?_ | refine goB ?_ | fail))
   (refine awp_ret ⟨_, ResL.cons (ResA.tmp (.val _)) .nil, congrArg (fun b => AV.val (.bool b)) ?_⟩; first | rfl | (symm; assumption) | assumption)
  ·have d1 : (p.2 == 0) = false := beq_eq_false_iff_ne.2 z
   have s6 := s5 (hc z)
   refine goF Tryz.func6 (closedL_cons (.agg (encSi_closed w)) closedL_nil) (fun w0 st0 => ?_)
   dsimp only [frOf]
   (repeat' (first | refine goA ?_ | refine cX c0 ?_ | refine cX cm ?_ | refine cX k1 ?_ | refine cX s1 ?_ | refine cX s2 ?_ | refine cX s3 ?_ | refine cX s6 ?_ | refine ARun.bytesStr (by first | exact SrcA.sl rfl (.inr rfl) | exact SrcA.sl rfl (.inl rfl) | exact SrcA.ownW rfl rfl rfl rfl) rfl rfl rfl rfl rfl rfl rfl rfl (guardF_spec rfl) ?_ | refine goB ?_ | fail))
   (refine awp_ret ⟨_, ResL.cons (ResA.tmp (.val _)) .nil, congrArg (fun b => AV.val (.bool b)) ?_⟩; first | rfl | (symm; assumption) | assumption)
 ·have k1 := variable_c w.f w.s (hg.le (by omega)) (by omega)
  obtain ⟨s1, s2, s3, s4, s5⟩ := stay_parts (created_keeps hm.2 w.s true [257, 0, 0] (by show 3 ≤ 500; omega)) hm.2 ho
  have t0 : (w.k.tmod 9 == 0) = false := beq_eq_false_iff_ne.2 (by omega)
  have t1 : (w.k.tmod 9 == 1) = false := beq_eq_false_iff_ne.2 (by omega)
  have t2 : (w.k.tmod 9 == 2) = false := beq_eq_false_iff_ne.2 (by omega)
  have t3 : (w.k.tmod 9 == 3) = false := beq_eq_false_iff_ne.2 (by omega)
  have t4 : (w.k.tmod 9 == 4) = false := beq_eq_false_iff_ne.2 (by omega)
  have t5 : (w.k.tmod 9 == 5) = true := beq_iff_eq.2 hj
  have hc : (createdD w.f w.s true [257, 0, 0]).2 ≠ 0 → (createdD w.f w.s true [257, 0, 0]).1 = w.f := created_code
  unfold encFE at k1
  clear ho hg hin hm hz hi hj hk
  generalize createdD w.f w.s true [257, 0, 0] = p at *
  by_cases z : p.2 = 0
  ·have d1 : (p.2 == 0) = true := beq_iff_eq.2 z
   refine goF Tryz.func6 (closedL_cons (.agg (encSi_closed w)) closedL_nil) (fun w0 st0 => ?_)
   dsimp only [frOf]
   (repeat' (first | refine goA ?_ | refine cX c0 ?_ | refine cX cm ?_ | refine cX k1 ?_ | refine cX s1 ?_ | refine cX s2 ?_ | refine cX s3 ?_ | refine ARun.bytesStr (by first | exact SrcA.sl rfl (.inr rfl) | exact SrcA.sl rfl (.inl rfl) | exact SrcA.ownW rfl rfl rfl rfl) rfl rfl rfl rfl rfl rfl rfl rfl (guardF_spec rfl) ?_ | refine goB ?_ | fail))
   (refine awp_ret ⟨_, ResL.cons (ResA.tmp (.val _)) .nil, congrArg (fun b => AV.val (.bool b)) ?_⟩; first | rfl | (symm; assumption) | assumption)
  ·have d1 : (p.2 == 0) = false := beq_eq_false_iff_ne.2 z
   have s6 := s5 (hc z)
   refine goF Tryz.func6 (closedL_cons (.agg (encSi_closed w)) closedL_nil) (fun w0 st0 => ?_)
   dsimp only [frOf]
   (repeat' (first | refine goA ?_ | refine cX c0 ?_ | refine cX cm ?_ | refine cX k1 ?_ | refine cX s1 ?_ | refine cX s2 ?_ | refine cX s3 ?_ | refine cX s6 ?_ | refine ARun.bytesStr (by first | exact SrcA.sl rfl (.inr rfl) | exact SrcA.sl rfl (.inl rfl) | exact SrcA.ownW rfl rfl rfl rfl) rfl rfl rfl rfl rfl rfl rfl rfl (guardF_spec rfl) ?_ | refine goB ?_ | fail))
   (refine awp_ret ⟨_, ResL.cons (ResA.tmp (.val _)) .nil, congrArg (fun b => AV.val (.bool b)) ?_⟩; first | rfl | (symm; assumption) | assumption)
 ·have k1 := machine_c w.f w.s w.n (hg.le (by omega)) (by omega)
  obtain ⟨s1, s2, s3, s4, s5⟩ := stay_parts (machine_keeps hm.2 w.s w.n) hm.2 ho
  have t0 : (w.k.tmod 9 == 0) = false := beq_eq_false_iff_ne.2 (by omega)
  have t1 : (w.k.tmod 9 == 1) = false := beq_eq_false_iff_ne.2 (by omega)
  have t2 : (w.k.tmod 9 == 2) = false := beq_eq_false_iff_ne.2 (by omega)
  have t3 : (w.k.tmod 9 == 3) = false := beq_eq_false_iff_ne.2 (by omega)
  have t4 : (w.k.tmod 9 == 4) = false := beq_eq_false_iff_ne.2 (by omega)
  have t5 : (w.k.tmod 9 == 5) = false := beq_eq_false_iff_ne.2 (by omega)
  have t6 : (w.k.tmod 9 == 6) = true := beq_iff_eq.2 hj
  have hc : (machineD w.f w.s w.n).2 ≠ 0 → (machineD w.f w.s w.n).1 = w.f := machine_code
  unfold encFE at k1
  clear ho hg hin hm hz hi hj hk
  generalize machineD w.f w.s w.n = p at *
  by_cases z : p.2 = 0
  ·have d1 : (p.2 == 0) = true := beq_iff_eq.2 z
   refine goF Tryz.func6 (closedL_cons (.agg (encSi_closed w)) closedL_nil) (fun w0 st0 => ?_)
   dsimp only [frOf]
   (repeat' (first | refine goA ?_ | refine cX c0 ?_ | refine cX cm ?_ | refine cX k1 ?_ | refine cX s1 ?_ | refine cX s2 ?_ | refine cX s3 ?_ | refine ARun.bytesStr (by first | exact SrcA.sl rfl (.inr rfl) | exact SrcA.sl rfl (.inl rfl) | exact SrcA.ownW rfl rfl rfl rfl) rfl rfl rfl rfl rfl rfl rfl rfl (guardF_spec rfl) ?_ | refine goB ?_ | fail))
   (refine awp_ret ⟨_, ResL.cons (ResA.tmp (.val _)) .nil, congrArg (fun b => AV.val (.bool b)) ?_⟩; first | rfl | (symm; assumption) | assumption)
  ·have d1 : (p.2 == 0) = false := beq_eq_false_iff_ne.2 z
   have s6 := s5 (hc z)
   refine goF Tryz.func6 (closedL_cons (.agg (encSi_closed w)) closedL_nil) (fun w0 st0 => ?_)
   dsimp only [frOf]
   (repeat' (first | refine goA ?_ | refine cX c0 ?_ | refine cX cm ?_ | refine cX k1 ?_ | refine cX s1 ?_ | refine cX s2 ?_ | refine cX s3 ?_ | refine cX s6 ?_ | refine ARun.bytesStr (by first | exact SrcA.sl rfl (.inr rfl) | exact SrcA.sl rfl (.inl rfl) | exact SrcA.ownW rfl rfl rfl rfl) rfl rfl rfl rfl rfl rfl rfl rfl (guardF_spec rfl) ?_ | refine goB ?_ | fail))
   (refine awp_ret ⟨_, ResL.cons (ResA.tmp (.val _)) .nil, congrArg (fun b => AV.val (.bool b)) ?_⟩; first | rfl | (symm; assumption) | assumption)
 ·have k1 := imm_c w.f (hg.le (by omega))
  obtain ⟨s1, s2, s3, s4, s5⟩ := stay_parts (imm_keeps hm.2) hm.2 ho
  have t0 : (w.k.tmod 9 == 0) = false := beq_eq_false_iff_ne.2 (by omega)
  have t1 : (w.k.tmod 9 == 1) = false := beq_eq_false_iff_ne.2 (by omega)
  have t2 : (w.k.tmod 9 == 2) = false := beq_eq_false_iff_ne.2 (by omega)
  have t3 : (w.k.tmod 9 == 3) = false := beq_eq_false_iff_ne.2 (by omega)
  have t4 : (w.k.tmod 9 == 4) = false := beq_eq_false_iff_ne.2 (by omega)
  have t5 : (w.k.tmod 9 == 5) = false := beq_eq_false_iff_ne.2 (by omega)
  have t6 : (w.k.tmod 9 == 6) = false := beq_eq_false_iff_ne.2 (by omega)
  have t7 : (w.k.tmod 9 == 7) = true := beq_iff_eq.2 hj
  have hc : (immD w.f).2 ≠ 0 → (immD w.f).1 = w.f := imm_code
  unfold encFE at k1
  clear ho hg hin hm hz hi hj hk
  generalize immD w.f = p at *
  by_cases z : p.2 = 0
  ·have d1 : (p.2 == 0) = true := beq_iff_eq.2 z
   refine goF Tryz.func6 (closedL_cons (.agg (encSi_closed w)) closedL_nil) (fun w0 st0 => ?_)
   dsimp only [frOf]
   (repeat' (first | refine goA ?_ | refine cX c0 ?_ | refine cX cm ?_ | refine cX k1 ?_ | refine cX s1 ?_ | refine cX s2 ?_ | refine cX s3 ?_ | refine ARun.bytesStr (by first | exact SrcA.sl rfl (.inr rfl) | exact SrcA.sl rfl (.inl rfl) | exact SrcA.ownW rfl rfl rfl rfl) rfl rfl rfl rfl rfl rfl rfl rfl (guardF_spec rfl) ?_ | refine goB ?_ | fail))
   (refine awp_ret ⟨_, ResL.cons (ResA.tmp (.val _)) .nil, congrArg (fun b => AV.val (.bool b)) ?_⟩; first | rfl | (symm; assumption) | assumption)
  ·have d1 : (p.2 == 0) = false := beq_eq_false_iff_ne.2 z
   have s6 := s5 (hc z)
   refine goF Tryz.func6 (closedL_cons (.agg (encSi_closed w)) closedL_nil) (fun w0 st0 => ?_)
   dsimp only [frOf]
   (repeat' (first | refine goA ?_ | refine cX c0 ?_ | refine cX cm ?_ | refine cX k1 ?_ | refine cX s1 ?_ | refine cX s2 ?_ | refine cX s3 ?_ | refine cX s6 ?_ | refine ARun.bytesStr (by first | exact SrcA.sl rfl (.inr rfl) | exact SrcA.sl rfl (.inl rfl) | exact SrcA.ownW rfl rfl rfl rfl) rfl rfl rfl rfl rfl rfl rfl rfl (guardF_spec rfl) ?_ | refine goB ?_ | fail))
   (refine awp_ret ⟨_, ResL.cons (ResA.tmp (.val _)) .nil, congrArg (fun b => AV.val (.bool b)) ?_⟩; first | rfl | (symm; assumption) | assumption)
 ·have k1 := forget_c w.f w.s (hg.le (by omega)) (by omega)
  obtain ⟨s1, s2, s3, s4, s5⟩ := stay_parts (forget_keeps hm.2 w.s) hm.2 ho
  have t0 : (w.k.tmod 9 == 0) = false := beq_eq_false_iff_ne.2 (by omega)
  have t1 : (w.k.tmod 9 == 1) = false := beq_eq_false_iff_ne.2 (by omega)
  have t2 : (w.k.tmod 9 == 2) = false := beq_eq_false_iff_ne.2 (by omega)
  have t3 : (w.k.tmod 9 == 3) = false := beq_eq_false_iff_ne.2 (by omega)
  have t4 : (w.k.tmod 9 == 4) = false := beq_eq_false_iff_ne.2 (by omega)
  have t5 : (w.k.tmod 9 == 5) = false := beq_eq_false_iff_ne.2 (by omega)
  have t6 : (w.k.tmod 9 == 6) = false := beq_eq_false_iff_ne.2 (by omega)
  have t7 : (w.k.tmod 9 == 7) = false := beq_eq_false_iff_ne.2 (by omega)
  have t8 : (w.k.tmod 9 == 8) = true := beq_iff_eq.2 hj
  have hc : (forgetD w.f w.s).2 ≠ 0 → (forgetD w.f w.s).1 = w.f := forget_code
  unfold encFE at k1
  clear ho hg hin hm hz hi hj hk
  generalize forgetD w.f w.s = p at *
  by_cases z : p.2 = 0
  ·have d1 : (p.2 == 0) = true := beq_iff_eq.2 z
   refine goF Tryz.func6 (closedL_cons (.agg (encSi_closed w)) closedL_nil) (fun w0 st0 => ?_)
   dsimp only [frOf]
   (repeat' (first | refine goA ?_ | refine cX c0 ?_ | refine cX cm ?_ | refine cX k1 ?_ | refine cX s1 ?_ | refine cX s2 ?_ | refine cX s3 ?_ | refine ARun.bytesStr (by first | exact SrcA.sl rfl (.inr rfl) | exact SrcA.sl rfl (.inl rfl) | exact SrcA.ownW rfl rfl rfl rfl) rfl rfl rfl rfl rfl rfl rfl rfl (guardF_spec rfl) ?_ | refine goB ?_ | fail))
   (refine awp_ret ⟨_, ResL.cons (ResA.tmp (.val _)) .nil, congrArg (fun b => AV.val (.bool b)) ?_⟩; first | rfl | (symm; assumption) | assumption)
  ·have d1 : (p.2 == 0) = false := beq_eq_false_iff_ne.2 z
   have s6 := s5 (hc z)
   refine goF Tryz.func6 (closedL_cons (.agg (encSi_closed w)) closedL_nil) (fun w0 st0 => ?_)
   dsimp only [frOf]
   (repeat' (first | refine goA ?_ | refine cX c0 ?_ | refine cX cm ?_ | refine cX k1 ?_ | refine cX s1 ?_ | refine cX s2 ?_ | refine cX s3 ?_ | refine cX s6 ?_ | refine ARun.bytesStr (by first | exact SrcA.sl rfl (.inr rfl) | exact SrcA.sl rfl (.inl rfl) | exact SrcA.ownW rfl rfl rfl rfl) rfl rfl rfl rfl rfl rfl rfl rfl (guardF_spec rfl) ?_ | refine goB ?_ | fail))
   (refine awp_ret ⟨_, ResL.cons (ResA.tmp (.val _)) .nil, congrArg (fun b => AV.val (.bool b)) ?_⟩; first | rfl | (symm; assumption) | assumption)
end Go.Proofs.YthlbcakjngcjbaaGreat
