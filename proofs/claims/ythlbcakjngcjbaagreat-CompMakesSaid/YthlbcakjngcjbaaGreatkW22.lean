/- kC16, kC17, kC19, kC20, kC24. -/
import Derived.Test.YthlbcakjngcjbaaGreatW1
import Derived.Test.YthlbcakjngcjbaaGreatW2
import Derived.Test.YthlbcakjngcjbaaGreatW3
import Derived.Test.YthlbcakjngcjbaaGreatW4
import Derived.Test.YthlbcakjngcjbaaGreatkW5
import Derived.Test.YthlbcakjngcjbaaGreatkW6
import Derived.Test.YthlbcakjngcjbaaGreatkW7
import Derived.Test.YthlbcakjngcjbaaGreatkW8
import Derived.Test.YthlbcakjngcjbaaGreatkW9
import Derived.Test.YthlbcakjngcjbaaGreatkW10
import Derived.Test.YthlbcakjngcjbaaGreatkW11
import Derived.Test.YthlbcakjngcjbaaGreatkW12
import Derived.Test.YthlbcakjngcjbaaGreatkW13
import Derived.Test.YthlbcakjngcjbaaGreatkW14
import Derived.Test.YthlbcakjngcjbaaGreatkW15
import Derived.Test.YthlbcakjngcjbaaGreatkW16
import Derived.Test.YthlbcakjngcjbaaGreatkW17
import Derived.Test.YthlbcakjngcjbaaGreatkW18
import Derived.Test.YthlbcakjngcjbaaGreatkW19
import Derived.Test.YthlbcakjngcjbaaGreatkW20
import Derived.Test.YthlbcakjngcjbaaGreatkW21
set_option linter.unusedVariables false
set_option linter.unusedSimpArgs false
namespace Go.Proofs.YthlbcakjngcjbaaGreat
open Go Go.RowKit
open Go.Proofs.YthlbcakjngcjbaaGreat.Dict (St Bs bs_eq Wd encW encWs closed_ws addD flagD cutD encWE findD encFd NameIn setFl encW_closed namedD)
open Go.Proofs.YthlbcakjngcjbaaGreat.Mem (Mm encM encBs closed_bs encP encP_closed closed_m storeD fetchD commaD alignD enc3m enc2m writeD)
open Go.Proofs.YthlbcakjngcjbaaGreat.Stk (encS closed_s encI_closed sameD)
set_option maxRecDepth 100000
theorem gd_v0 : Gd v0 900 := ⟨v0_okk _ (by decide), by rw [v0_fl.b, cellsC_len]; omega, by rw [show v0.dict = dictS 37 from rfl, dict_n]; omega, okN_in ok_0, Nat.zero_le _⟩
theorem undo_f : undoD ⟨v0, cp0⟩ = ⟨v0, cp0⟩ := if_pos rfl
theorem undo_b (m : Mm) : (undoD ⟨bV m, aC⟩).v.here = 1368 := by
 unfold undoD
 rw [if_neg (by show ¬ (1368 : Int) = 0; decide)]
 rfl
theorem b_ne (m : Mm) : (⟨bV m, aC⟩ : Fo) ≠ ⟨v0, cp0⟩ := fun e => by
 have : aC.xt = cp0.xt := congrArg (fun f => f.c.xt) e
 exact absurd this (by decide)
theorem xt_dup : xtD [68, 85, 80] = 216 := by kernel_rfl
theorem xt_star : xtD [42] = 360 := by kernel_rfl
structure Ex where
 a : V
 b : V
 e : V
 x : V
 c : V
 d : V
 k : V
 m : V
 o : V
 q : V
 u : Fo
structure ExP (t : Ex) : Prop where
 c0 : FnC Tryz.prog 40 [.agg (encC conf0)] (.tup [.agg (encV v0), .val (.int .i64 0)])
 c1 : FnC Tryz.prog 17 [.agg (encFo ⟨v0, cp0⟩), St nSq, .val (.bool false), .val (.int .i64 9)] (.tup [.agg (encFo ⟨t.a, aC⟩), .val (.int .i64 0)])
 c2 : FnC Tryz.prog 36 [.agg (encV t.a), encS [216, 360]] (.tup [.agg (encV t.b), .val (.int .i64 0)])
 c3 : FnC Tryz.prog 19 [.agg (encFo ⟨t.b, aC⟩)] (.tup [.agg (encFo ⟨t.e, cp0⟩), .val (.int .i64 0)])
 c4 : FnC Tryz.prog 37 [encWs t.e.dict, St [115, 113]] (.tup [.agg (encW (findD dSe [115, 113]).1), .val (.int .i64 (findD dSe [115, 113]).2.1), .val (.bool true)])
 c5 : FnC Tryz.prog 41 [.agg (encV (withD t.e [5])), .val (.int .i64 1368), .val (.int .i64 20)] (.tup [.agg (encV t.x), .val (.int .i64 15), .val (.int .i64 0)])
 xd : t.x.d = [25]
 c6 : FnC Tryz.prog 23 [.agg (encFo ⟨v0, cp0⟩), St [88]] (.tup [.agg (encFo ⟨t.c, cp0⟩), .val (.int .i64 0)])
 cl : (t.c.last == 1368) = true
 c7 : FnC Tryz.prog 27 [.agg (encFo ⟨t.c, cp0⟩), St [89], .val (.int .i64 7)] (.tup [.agg (encFo ⟨t.d, cp0⟩), .val (.int .i64 0)])
 c8 : FnC Tryz.prog 29 [.agg (encFo ⟨t.d, cp0⟩), St [77], .val (.int .i64 2)] (.tup [.agg (encFo ⟨t.k, cp0⟩), .val (.int .i64 0)])
 kh : (t.k.here == 1456) = true
 c9 : FnC Tryz.prog 33 [.agg (encFo ⟨t.k, cp0⟩), St [121]] (.tup [.agg (encFo ⟨t.m, cp0⟩), .val (.int .i64 0)])
 mh : (t.m.here == 1384) = true
 ca : FnC Tryz.prog 31 [.agg (encFo ⟨t.c, cp0⟩)] (.tup [.agg (encFo ⟨t.o, cp0⟩), .val (.int .i64 0)])
 od : t.o.dict[167]? = some ⟨[88], 1368, 1⟩
 ol : t.o.dict.length = 168
 cb : FnC Tryz.prog 25 [.agg (encFo ⟨v0, cp0⟩), St [86]] (.tup [.agg (encFo ⟨t.q, cp0⟩), .val (.int .i64 0)])
 qh : (t.q.here == 1392) = true
 cc : FnC Tryz.prog 12 [.agg (encFo ⟨t.b, aC⟩)] (.val (.bool true))
 cd : FnC Tryz.prog 14 [.agg (encFo ⟨t.b, aC⟩), .agg (encFo ⟨t.b, aC⟩)] (.val (.bool true))
 ce : FnC Tryz.prog 14 [.agg (encFo ⟨t.b, aC⟩), .agg (encFo ⟨v0, cp0⟩)] (.val (.bool false))
 cf : FnC Tryz.prog 21 [.agg (encFo ⟨v0, cp0⟩)] (.agg (encFo ⟨v0, cp0⟩))
 cg : FnC Tryz.prog 14 [.agg (encFo ⟨v0, cp0⟩), .agg (encFo ⟨v0, cp0⟩)] (.val (.bool true))
 ch : FnC Tryz.prog 12 [.agg (encFo ⟨vZero, cp0⟩)] (.val (.bool false))
 ci : FnC Tryz.prog 21 [.agg (encFo ⟨t.b, aC⟩)] (.agg (encFo t.u))
 uh : (t.u.v.here == 1368) = true
attribute [local irreducible] Decidable.decide awp ARun regK toK
theorem facts14 : ∃ t, ExP t := by
 have v0h : Held v0 := vNew_held fits0
 have l0 : (dictS 37).length ≤ 200 := by rw [dict_n]; omega
 have lq : dSq.length ≤ 200 := by rw [len_sq]; omega
 have le : dSe.length ≤ 200 := by rw [len_se]; omega
 have lx : dX.length ≤ 200 := by rw [len_x]; omega
 have ly : dY.length ≤ 200 := by rw [len_y]; omega
 have lm : dM.length ≤ 200 := by rw [len_m]; omega
 obtain ⟨m1, a1, a2, a3, a4⟩ := begin_a
 obtain ⟨m2, b1, b2, b3, b4⟩ := cells_b a2 a3
 obtain ⟨m3, e1, e2, e3⟩ := end_b b2 b3
 obtain ⟨mx, x1, x2, x3⟩ := create_x
 obtain ⟨my, y1, y2, y3⟩ := constant_y x2 x3
 obtain ⟨mm, k1, k2, k3⟩ := machine_m y2 y3
 obtain ⟨mq, q1⟩ := variable_v
 have gb : Gd (bV m2) 900 := gd_up b2 (by omega) (by omega) ok_sq lq
 have hb : Held (bV m2) := held_up b2 (by omega) ok_sq lq
 have gx : Gd (upV v0 mx 1384 dX 1368 []) 900 := gd_up x2 (by omega) (by omega) ok_x lx
 have gy : Gd (upV v0 my 1408 dY 1368 []) 900 := gd_up y2 (by omega) (by omega) ok_y ly
 have gk : Gd (upV v0 mm 1456 dM 1368 []) 900 := gd_up k2 (by omega) (by omega) ok_m lm
 have okA : Okk (aV m1) 2 := (gd_up (hh := 1376) (last := 0) a2 (by omega) (by omega) ok_sq lq).ok.le (by omega)
 have n0 := ref_new_c conf0
 rw [newV_new fits0] at n0
 have n1 := beginW_c ⟨v0, cp0⟩ nSq false 9 (gd_v0.le (by omega)) (by show 2 ≤ _; omega)
 rw [a1] at n1
 have n2 := ref_cells_c (aV m1) [216, 360] (by show 2 ≤ 1000; omega) okA
 rw [b1] at n2
 have n3 := end_c ⟨bV m2, aC⟩ (gb.le (by omega)) (fun _ => ⟨by show (0 : Int) ≤ 167; omega, by show (167 : Int) < dSq.length; rw [len_sq]; omega⟩)
 rw [e1] at n3
 have n4 := Dict.ref_find_c dSe [115, 113] (by omega) (by show 2 ≤ 1000000; omega) (okN_in ok_se)
 unfold encFd at n4
 rw [find_sq.1] at n4
 have n6 := create_c ⟨v0, cp0⟩ [88] (gd_v0.le (by omega)) (by show 1 ≤ 1000000; omega)
 rw [x1] at n6
 have n7 := constant_c ⟨upV v0 mx 1384 dX 1368 [], cp0⟩ [89] 7 (gx.le (by omega)) (by show 1 ≤ 1000000; omega)
 rw [y1] at n7
 have n8 := machine_c ⟨upV v0 my 1408 dY 1368 [], cp0⟩ [77] 2 (gy.le (by omega)) (by show 1 ≤ 1000000; omega)
 rw [k1] at n8
 have n9 := forget_c ⟨upV v0 mm 1456 dM 1368 [], cp0⟩ [121] (gk.le (by omega)) (by show 1 ≤ 1000000; omega)
 rw [forget_y] at n9
 have na := imm_c ⟨upV v0 mx 1384 dX 1368 [], cp0⟩ (gx.le (by omega))
 rw [imm_x] at na
 have nb := variable_c ⟨v0, cp0⟩ [86] (gd_v0.le (by omega)) (by show 1 ≤ 1000000; omega)
 rw [q1] at nb
 have nc := rightF_c ⟨bV m2, aC⟩ hb (Nat.zero_le _)
 rw [pD_yes (rightF_b b2 (b4 a4))] at nc
 have nd := sameF_c ⟨bV m2, aC⟩ ⟨bV m2, aC⟩ hb hb (Nat.zero_le _) (fun c h => by cases h)
 rw [pD_yes rfl] at nd
 have ne := sameF_c ⟨bV m2, aC⟩ ⟨v0, cp0⟩ hb v0h (Nat.zero_le _) (fun c h => by cases h)
 rw [pD_no (b_ne m2)] at ne
 have nf := undo_c ⟨v0, cp0⟩ (gd_v0.le (by omega))
 rw [undo_f] at nf
 have ng := sameF_c ⟨v0, cp0⟩ ⟨v0, cp0⟩ v0h v0h (Nat.zero_le _) (fun c h => by cases h)
 rw [pD_yes rfl] at ng
 have nh := rightF_c ⟨vZero, cp0⟩ held_zero (Nat.zero_le _)
 rw [pD_no not_rightF_zero] at nh
 have ni := undo_c ⟨bV m2, aC⟩ (gb.le (by omega))
 exact ⟨⟨aV m1, bV m2, cV m3, rV m3 [25] [], _, _, _, _, _, _, undoD ⟨bV m2, aC⟩⟩, ⟨n0, n1, n2, n3, n4, run_sq e2, rfl, n6, beq_iff_eq.2 rfl, n7, n8, beq_iff_eq.2 rfl, n9, beq_iff_eq.2 rfl, na, dI_at, len_i, nb, beq_iff_eq.2 rfl, nc, nd, ne, nf, ng, nh, ni, beq_iff_eq.2 (undo_b m2)⟩⟩
end Go.Proofs.YthlbcakjngcjbaaGreat
namespace Go.Proofs.YthlbcakjngcjbaaGreat
open Go Go.RowKit
open Go.Proofs.YthlbcakjngcjbaaGreat.Dict (St Bs bs_eq Wd encW encWs closed_ws addD flagD cutD encWE findD encFd NameIn setFl encW_closed namedD)
open Go.Proofs.YthlbcakjngcjbaaGreat.Mem (Mm encM encBs closed_bs encP encP_closed closed_m storeD fetchD commaD alignD enc3m enc2m writeD)
open Go.Proofs.YthlbcakjngcjbaaGreat.Stk (encS closed_s encI_closed sameD)
set_option maxRecDepth 100000
theorem same25 : sameD [25] [25] = true := by unfold sameD; simp
attribute [local irreducible] Decidable.decide awp ARun regK toK
set_option maxHeartbeats 32000000 in
theorem shown14_c : FnC Tryz.prog 10 [] (.val (.bool true)) := by
 obtain ⟨⟨a, b, e, x, c, d, k, m, o, q, u⟩, c0, c1, c2, c3, c4, c5, xd, c6, cl, c7, c8, kh, c9, mh, ca, od, ol, cb, qh, cc, cd, ce, cf, cg, ch, ci, uh⟩ := facts14
 dsimp only at *
 have cs := Stk.ref_same_c [25] [25] (by show 1 ≤ 1000000; omega) (by show 1 ≤ 1000000; omega)
 rw [same25] at cs
 have hx : x = withD x [25] := by
  rw [← xd]
  rfl
 rw [hx] at c5
 have ct1 := ref_xt_c [68, 85, 80]
 rw [xt_dup] at ct1
 have ct2 := ref_xt_c [42]
 rw [xt_star] at ct2
 have f2 := find_sq.2
 generalize findD dSe [115, 113] = w at *
 obtain ⟨⟨wn, wx, wf⟩, wi, wb⟩ := w
 dsimp only at f2
 subst f2
 have hp : (o.dict.map encW)[(167 : Int).toNat]? = some (encW ⟨[88], 1368, 1⟩) := by rw [List.getElem?_map, show (167 : Int).toNat = 167 from rfl, od]; rfl
 have hol : (((o.dict.map encW).length : Nat) : Int) = 168 := by rw [List.length_map, ol]; rfl
 have z1 : ((0 : Int) == 0) = true := by simp
 have z2 : ((0 : Int) != 0) = false := by simp
 have z3 : ((1368 : Int) != 1368) = false := by simp
 have z4 : ((1 : Int) == 1) = true := by simp
 have nt : (!true) = false := rfl
 have nf : (!false) = true := rfl
 clear xd hx od ol
 generalize v0 = v at *
 refine goF Tryz.func10 closedL_nil (fun w0 st0 => ?_)
 dsimp only [frOf]
 (repeat' (first | refine goA ?_ | refine cX c0 ?_ | refine callW (c1) rfl wkT rfl rfl ?_ | refine cX ct1 ?_ | refine cX ct2 ?_ | refine callW (c2) rfl wkT rfl rfl ?_ | refine cX c3 ?_ | refine cX c4 ?_ | refine callW (c5) rfl wkT rfl rfl ?_ | refine callW (c6) rfl wkT rfl rfl ?_ | refine cX c7 ?_ | refine cX c8 ?_ | refine cX c9 ?_ | refine cX ca ?_ | refine callW (cb) rfl wkT rfl rfl ?_ | refine ARun.indexAddr rfl rfl (by omega) (by with_reducible exact hp) rfl rfl rfl rfl rfl (guardF_spec rfl) ?_ | refine callW (cs) rfl wkT rfl rfl ?_ | refine cX cc ?_ | refine cX cd ?_ | refine callW (ce) rfl wkT rfl rfl ?_ | refine callW (cf) rfl wkT rfl rfl ?_ | refine callW (cg) rfl wkT rfl rfl ?_ | refine callW (ch) rfl wkT rfl rfl ?_ | refine cX ci ?_ | refine ARun.fld rfl Tryz.underlying41 rfl rfl (by first | exact .inr ⟨rfl, rfl⟩ | exact .inl ⟨rfl, _, rfl, rfl⟩) rfl (guardF_spec rfl) ?_ | refine ARun.fld rfl Tryz.underlying36 rfl rfl (by first | exact .inr ⟨rfl, rfl⟩ | exact .inl ⟨rfl, _, rfl, rfl⟩) rfl (guardF_spec rfl) ?_ | refine goB ?_ | fail))
 exact awp_ret ⟨_, ResL.cons (ResA.tmp (.val _)) .nil, congrArg (fun b => AV.val (.bool b)) uh.symm⟩
end Go.Proofs.YthlbcakjngcjbaaGreat
namespace Go.Proofs.YthlbcakjngcjbaaGreat
open Go Go.RowKit
open Go.Proofs.YthlbcakjngcjbaaGreat.Dict (St Bs Wd addD flagD cutD findD NameIn namedD setFl)
open Go.Proofs.YthlbcakjngcjbaaGreat.Mem (Mm storeD fetchD commaD alignD writeD layD padN thereD)
set_option maxRecDepth 100000
theorem named_len {l : Bs} (h : namedD l = 0) : l.length ≤ 31 := by
 unfold namedD at h
 split at h
 ·cases h
 ·split at h
  ·cases h
  ·omega
theorem RightV.held {v : V} (h : RightV v) (ho : v.m.old.length ≤ 1000000) : Held v := by
 obtain ⟨⟨a1, a2, a3, a4, a5⟩, ⟨b1, b2, b3⟩, ⟨c1, c2, c3, c4⟩, ⟨d1, d2, d3, d4⟩⟩ := h
 obtain ⟨f1, f2, f3, f4, f5, f6, f7⟩ := a1
 have := b3.2
 have := c1.2
 have := c4.1
 have := d4.2
 exact ⟨by omega, ho, by omega, by omega, by omega, by omega, fun w hw => ⟨by have := named_len (c1.1 w hw).1; omega, by have := (c1.1 w hw).2; omega, by have := (c1.1 w hw).2; omega⟩, by omega, by omega, by omega, by omega⟩
theorem RightV.name {v : V} (h : RightV v) : NameIn v.dict := fun w hw => by
 have := h.2.2.1.1.1 w hw
 exact ⟨by have := named_len this.1; omega, this.2⟩
theorem RightV.gd {v : V} (h : RightV v) (ho : v.m.old.length ≤ 1000) (k : Nat) (hk : k ≤ 10000) : Gd v k := by
 have hh := h.held (by omega)
 obtain ⟨⟨a1, a2, a3, a4, a5⟩, b, c, d⟩ := id h
 have f1 := a1.1
 exact ⟨⟨hh.mb, by omega, by omega, by omega⟩, by omega, hh.wl, h.name, hh.hl⟩
theorem RightF.lv {f : Fo} (h : RightF f) : (∀ c, c ∈ f.c.cf → c.lv.length ≤ 1000000) ∧ f.c.cf.length ≤ 1000000 := by
 by_cases hx : f.c.xt = 0
 ·have := (h.2.1 hx).1
  have e : f.c.cf = [] := List.eq_nil_of_length_eq_zero this
  rw [e]
  exact ⟨fun c hc => (by cases hc), Nat.zero_le _⟩
 ·have := (h.2.2 hx).2.2.1
  exact ⟨fun c hc => by have := (this.1 c hc).2.1; omega, by have := this.2; omega⟩
theorem upV_right {v : V} {m : Mm} {hh last : Int} {d : List Wd} {hand : List Hn} (hv : RightV v) (hb : m.b.length = v.m.b.length) (hr : Mem.RightM v.m → Mem.RightM m) (h0 : 1368 ≤ hh) (h1 : hh ≤ v.m.b.length) (hd : Dict.RightW d) (hw : (d.length : Int) ≤ v.cf.words) (hh' : HandP hand) : RightV (upV v m hh d last hand) := by
 obtain ⟨⟨a1, a2, a3, a4, a5⟩, b, ⟨c1, c2, c3, c4⟩, ⟨d1, d2, d3, d4⟩⟩ := hv
 exact ⟨⟨a1, hr a2, by show ((m.b.length : Nat) : Int) = v.cf.mem; omega, h0, by show hh ≤ v.cf.mem; omega⟩, b, ⟨hd, hw, c3, c4⟩, ⟨d1, d2, d3, hh'⟩⟩
structure Keeps (f x : Fo) : Prop where
 r : RightF x
 o : x.v.m.old.length ≤ f.v.m.old.length + 600
 d : x.v.d = f.v.d
 s : x.v.r = f.v.r
 out : x.v.out = f.v.out
theorem Keeps.refl {f : Fo} (h : RightF f) : Keeps f f := ⟨h, by omega, rfl, rfl, rfl⟩
theorem Keeps.held {f x : Fo} (h : Keeps f x) (ho : f.v.m.old.length ≤ 1000) : Held x.v := h.r.1.held (by have := h.o; omega)
theorem none_cp0 : NoneP cp0 := ⟨rfl, rfl, rfl, rfl, rfl, rfl⟩
theorem rightF_none {v : V} {c : Cp} (h : RightV v) (hx : c.xt = 0) (hn : NoneP c) : RightF ⟨v, c⟩ := ⟨h, fun _ => hn, fun e => absurd hx e⟩
theorem set_right {l : List Wd} {i : Nat} {fl : Int} (h : Dict.RightW l) (hf : 0 ≤ fl ∧ fl ≤ 7) : Dict.RightW (setFl l i fl) := by
 refine ⟨fun v hv => ?_, by rw [Dict.setFl_len]; exact h.2⟩
 unfold setFl at hv
 split at hv
 ·rename_i w hw
  rcases List.mem_or_eq_of_mem_set hv with hv | rfl
  ·exact h.1 v hv
  ·exact ⟨(h.1 w (List.mem_of_getElem? hw)).1, hf⟩
 ·exact h.1 v hv
theorem flag_right {l : List Wd} {i fl : Int} (h : Dict.RightW l) : Dict.RightW (flagD l i fl).1 ∧ (flagD l i fl).1.length = l.length := by
 unfold flagD
 split
 ·exact ⟨h, rfl⟩
 ·rename_i h2
  exact ⟨set_right h (by omega), Dict.setFl_len _ _ _⟩
theorem cut_right {l : List Wd} {i : Int} (h : Dict.RightW l) : Dict.RightW (cutD l i).1 ∧ (cutD l i).1.length ≤ l.length := by
 unfold cutD
 split
 ·exact ⟨h, Nat.le_refl _⟩
 ·exact ⟨⟨fun w hw => h.1 w (List.mem_of_mem_take hw), by dsimp only; rw [List.length_take]; have := h.2; omega⟩, by dsimp only; rw [List.length_take]; omega⟩
theorem app_right {l : List Wd} {w : Wd} (h : Dict.RightW l) (hw : Dict.OkW w) (hl : l.length < 1024) : Dict.RightW (l ++ [w]) := by
 refine ⟨fun v hv => ?_, by rw [List.length_append]; show l.length + 1 ≤ 1024; omega⟩
 rcases List.mem_append.1 hv with hv | hv
 ·exact h.1 v hv
 ·rw [List.mem_singleton.1 hv]; exact hw
theorem created_keeps {f : Fo} (hf : RightF f) (name : Bs) (last : Bool) (l : List Int) (hl : l.length ≤ 500) : Keeps f (createdD f name last l).1 := by
 unfold createdD
 by_cases hx : f.c.xt ≠ 0
 ·rw [if_pos hx]; exact .refl hf
 rw [if_neg hx]
 have hx0 : f.c.xt = 0 := Classical.not_not.1 hx
 by_cases h : (wordR f.v name 0 l).2.2 ≠ 0
 ·rw [if_pos h]; exact .refl hf
 rw [if_neg h]
 have hr := hf.1.rng
 obtain ⟨e1, ml, e3, e4, e5, e6, e7, _⟩ := wordR_yes (Classical.not_not.1 h) hr
 generalize wordR f.v name 0 l = r at *
 obtain ⟨⟨a1, a2, a3, a4, a5⟩, b, ⟨c1, c2, c3, c4⟩, ⟨d1, d2, d3, d4⟩⟩ := id hf.1
 have hd : Dict.RightW (f.v.dict ++ [⟨name, r.2.1, 0⟩]) := app_right c1 ⟨e4, e5⟩ e7
 have hw : ((f.v.dict ++ [(⟨name, r.2.1, 0⟩ : Wd)]).length : Int) ≤ f.v.cf.words := by
  rw [List.length_append]
  show ((f.v.dict.length + 1 : Nat) : Int) ≤ _
  omega
 have m1 := ml.bl
 have m2 := ml.ol
 have m3 := ml.h0
 have m4 := ml.h1
 have hu : ∀ la, RightV (upV f.v r.1.m r.1.here (f.v.dict ++ [⟨name, r.2.1, 0⟩]) la f.v.hand) := fun la => upV_right hf.1 m1 ml.ri (by omega) m4 hd hw d4
 cases last with
 | false =>
  rw [if_neg (by decide)]
  have h1 := hu f.v.last
  rw [← e1] at h1
  exact ⟨rightF_none h1 hx0 (hf.2.1 hx0), by show r.1.m.old.length ≤ _; omega, by show r.1.d = _; rw [e1]; rfl, by show r.1.r = _; rw [e1]; rfl, by show r.1.out = _; rw [e1]; rfl⟩
 | true =>
  rw [if_pos rfl]
  have h1 : RightV (upV r.1 r.1.m r.1.here r.1.dict r.2.1 r.1.hand) := by
   have h2 := hu r.2.1
   have : upV r.1 r.1.m r.1.here r.1.dict r.2.1 r.1.hand = upV f.v r.1.m r.1.here (f.v.dict ++ [⟨name, r.2.1, 0⟩]) r.2.1 f.v.hand := by rw [e1]; rfl
   rw [this]
   exact h2
  exact ⟨rightF_none h1 hx0 (hf.2.1 hx0), by show r.1.m.old.length ≤ _; omega, by show r.1.d = _; rw [e1]; rfl, by show r.1.r = _; rw [e1]; rfl, by show r.1.out = _; rw [e1]; rfl⟩
theorem machine_keeps {f : Fo} (hf : RightF f) (name : Bs) (n : Int) : Keeps f (machineD f name n).1 := by
 unfold machineD
 split
 ·exact .refl hf
 ·split
  ·exact .refl hf
  ·rename_i h
   exact created_keeps hf name false (machL n) (by unfold machL; rw [List.length_append, List.length_replicate]; show 4 + n.toNat ≤ 500; omega)
theorem imm_keeps {f : Fo} (hf : RightF f) : Keeps f (immD f).1 := by
 unfold immD
 by_cases hx : f.c.xt ≠ 0
 ·rw [if_pos hx]; exact .refl hf
 rw [if_neg hx]
 have hx0 : f.c.xt = 0 := Classical.not_not.1 hx
 split
 ·exact .refl hf
 obtain ⟨⟨a1, a2, a3, a4, a5⟩, b, ⟨c1, c2, c3, c4⟩, ⟨d1, d2, d3, d4⟩⟩ := id hf.1
 have hfr := flag_right (i := (f.v.dict.length : Int) - 1) (fl := setI (flAt f.v.dict ((f.v.dict.length : Int) - 1))) c1
 exact ⟨rightF_none (upV_right hf.1 rfl id a4 (by omega) hfr.1 (by rw [hfr.2]; exact c2) d4) hx0 (hf.2.1 hx0), by show f.v.m.old.length ≤ _; omega, rfl, rfl, rfl⟩
theorem forget_keeps {f : Fo} (hf : RightF f) (name : Bs) : Keeps f (forgetD f name).1 := by
 unfold forgetD
 by_cases hx : f.c.xt ≠ 0
 ·rw [if_pos hx]; exact .refl hf
 rw [if_neg hx]
 have hx0 : f.c.xt = 0 := Classical.not_not.1 hx
 split
 ·exact .refl hf
 split
 ·exact .refl hf
 rename_i h1 h2
 obtain ⟨⟨a1, a2, a3, a4, a5⟩, b, ⟨c1, c2, c3, c4⟩, ⟨d1, d2, d3, d4⟩⟩ := id hf.1
 have hfr := cut_right (i := (findD f.v.dict name).2.1) c1
 exact ⟨rightF_none (upV_right hf.1 rfl id (by omega) (by omega) hfr.1 (by have := hfr.2; omega) d4) hx0 (hf.2.1 hx0), by show f.v.m.old.length ≤ _; omega, rfl, rfl, rfl⟩
theorem undo_keeps {f : Fo} (hf : RightF f) : Keeps f (undoD f) := by
 unfold undoD
 split
 ·exact .refl hf
 rename_i hx
 obtain ⟨⟨a1, a2, a3, a4, a5⟩, b, ⟨c1, c2, c3, c4⟩, ⟨d1, d2, d3, d4⟩⟩ := id hf.1
 obtain ⟨⟨p1, p2, p3⟩, ⟨q1, q2, q3, q4⟩, _⟩ := hf.2.2 hx
 have hfr := cut_right (i := f.c.dict) c1
 have hs := store_ok f.v.m 8 0
 exact ⟨rightF_none (upV_right hf.1 hs.1 (store_right 8 0) q1 (by omega) hfr.1 (by have := hfr.2; omega) d4) rfl none_cp0, by show (storeD f.v.m 8 0).1.old.length ≤ _; have := hs.2; omega, rfl, rfl, rfl⟩
theorem end_keeps {f : Fo} (hf : RightF f) : Keeps f (endD' f).1 := by
 unfold endD'
 by_cases hx : f.c.xt = 0
 ·rw [if_pos hx]; exact .refl hf
 rw [if_neg hx]
 split
 ·exact .refl hf
 by_cases ho : f.c.on = true ∧ 64 ≤ f.v.hand.length
 ·rw [if_pos ho]; exact .refl hf
 rw [if_neg ho]
 split
 ·exact .refl hf
 obtain ⟨⟨a1, a2, a3, a4, a5⟩, b, ⟨c1, c2, c3, c4⟩, ⟨d1, d2, d3, d4⟩⟩ := id hf.1
 obtain ⟨_, _, _, hfu⟩ := hf.2.2 hx
 have hfr := flag_right (i := f.c.dict) (fl := clearH (flAt f.v.dict f.c.dict)) c1
 have hly := cellsK_lays (v := f.v) [32] hf.1.rng
 have m1 := hly.bl
 have m2 : (cellsK f.v [32]).v.m.old.length ≤ f.v.m.old.length + 1 := hly.ol
 have m3 := hly.h0
 have m4 := hly.h1
 have m5 : Mem.RightM f.v.m → Mem.RightM (cellsK f.v [32]).v.m := hly.ri
 have heq := hly.eq
 generalize cellsK f.v [32] = k at *
 have hs := store_ok k.v.m 8 0
 have hh : HandP (if f.c.on = true then f.v.hand ++ [⟨f.c.xt, f.c.fuel, 0, false⟩] else f.v.hand) := by
  split
  ·rename_i hon
   refine ⟨fun x hx => ?_, by rw [List.length_append]; show f.v.hand.length + 1 ≤ 64; have : ¬ 64 ≤ f.v.hand.length := fun e => ho ⟨hon, e⟩; omega⟩
   rcases List.mem_append.1 hx with hx | hx
   ·exact d4.1 x hx
   ·rw [List.mem_singleton.1 hx]; exact hfu
  ·exact d4
 generalize (if f.c.on = true then f.v.hand ++ [⟨f.c.xt, f.c.fuel, 0, false⟩] else f.v.hand) = hand at *
 have e : stV (upV k.v k.v.m k.v.here (flagD f.v.dict f.c.dict (clearH (flAt f.v.dict f.c.dict))).1 f.v.last hand) 0 = upV f.v (storeD k.v.m 8 0).1 k.v.here (flagD f.v.dict f.c.dict (clearH (flAt f.v.dict f.c.dict))).1 f.v.last hand := by
  rw [heq]
  rfl
 dsimp only
 rw [e]
 exact ⟨rightF_none (upV_right hf.1 (by rw [hs.1]; exact m1) (fun h => store_right 8 0 (m5 h)) (by omega) m4 hfr.1 (by rw [hfr.2]; exact c2) hh) rfl none_cp0, by show (storeD k.v.m 8 0).1.old.length ≤ _; have := hs.2; omega, rfl, rfl, rfl⟩
end Go.Proofs.YthlbcakjngcjbaaGreat
namespace Go.Proofs.YthlbcakjngcjbaaGreat
open Go Go.RowKit
open Go.Proofs.YthlbcakjngcjbaaGreat.Dict (St Bs Wd addD flagD cutD findD NameIn namedD setFl)
open Go.Proofs.YthlbcakjngcjbaaGreat.Mem (Mm storeD fetchD commaD alignD writeD layD padN thereD putB_len)
set_option maxRecDepth 100000
theorem one_here (x : V) (n : Int) (h : (cellsK x [n]).bad = 0) : (cellsK x [n]).v.here = x.here + 8 ∧ x.here.tmod 8 = 0 := by
 have e : cellsK x [n] = ⟨withMH x (commaD x.m x.here n).1 (commaD x.m x.here n).2.1, [], (commaD x.m x.here n).2.2⟩ := rfl
 rw [e] at h ⊢
 show (commaD x.m x.here n).2.1 = _ ∧ _
 have h' : (commaD x.m x.here n).2.2 = 0 := h
 unfold commaD layD at h' ⊢
 by_cases h1 : x.here.tmod 8 ≠ 0
 ·rw [if_pos h1] at h'; cases h'
 ·rw [if_neg h1] at h' ⊢
  split at h'
  ·cases h'
  ·rename_i h2
   rw [if_neg h2]
   exact ⟨by dsimp only; rw [putB_len]; rfl, Classical.not_not.1 h1⟩
theorem align_at {m : Mm} {here : Int} (h0 : 0 ≤ here) (h : (alignD m here).2.2 = 0) : here ≤ (alignD m here).2.1 ∧ (alignD m here).2.1 < here + 8 := by
 unfold alignD layD at h ⊢
 split at h
 ·cases h
 ·rename_i h2
  rw [if_neg h2]
  dsimp only
  rw [List.length_replicate]
  unfold padN
  omega
theorem begin_keeps {f : Fo} (hf : RightF f) (name : Bs) (on : Bool) (fuel : Int) : Keeps f (beginD f name on fuel).1 := by
 unfold beginD
 by_cases hx : f.c.xt ≠ 0
 ·rw [if_pos hx]; exact .refl hf
 rw [if_neg hx]
 have hx0 : f.c.xt = 0 := Classical.not_not.1 hx
 by_cases h1 : on = true ∧ (fuel < 0 ∨ 1048576 < fuel)
 ·rw [if_pos h1]; exact .refl hf
 rw [if_neg h1]
 by_cases h2 : on = true ∧ 64 ≤ f.v.hand.length
 ·rw [if_pos h2]; exact .refl hf
 rw [if_neg h2]
 by_cases h : (wordR f.v name 2 [256]).2.2 ≠ 0
 ·rw [if_pos h]; exact .refl hf
 rw [if_neg h]
 have hr := hf.1.rng
 obtain ⟨e1, ml, e3, e4, e5, e6, e7, e8, e9, e10⟩ := wordR_yes (Classical.not_not.1 h) hr
 have ha := align_at hr.h0 e8
 rw [← e3] at ha
 have ho := one_here _ _ e10
 have hxt : (wordR f.v name 2 [256]).1.here = (wordR f.v name 2 [256]).2.1 + 8 := by
  rw [e9, ho.1, e3]
  rfl
 have h8 : (wordR f.v name 2 [256]).2.1.tmod 8 = 0 := by
  rw [e3]
  exact ho.2
 clear ho e9 e10
 generalize wordR f.v name 2 [256] = r at *
 obtain ⟨⟨a1, a2, a3, a4, a5⟩, b, ⟨c1, c2, c3, c4⟩, ⟨d1, d2, d3, d4⟩⟩ := id hf.1
 have hd : Dict.RightW (f.v.dict ++ [⟨name, r.2.1, 2⟩]) := app_right c1 ⟨e4, e5⟩ e7
 have hw : ((f.v.dict ++ [(⟨name, r.2.1, 2⟩ : Wd)]).length : Int) ≤ f.v.cf.words := by
  rw [List.length_append]
  show ((f.v.dict.length + 1 : Nat) : Int) ≤ _
  omega
 have m1 := ml.bl
 have m2 : r.1.m.old.length ≤ f.v.m.old.length + 2 := ml.ol
 have m3 := ml.h0
 have m4 := ml.h1
 have hs := store_ok r.1.m 8 (-1)
 have e : stV r.1 (-1) = upV f.v (storeD r.1.m 8 (-1)).1 r.1.here (f.v.dict ++ [⟨name, r.2.1, 2⟩]) f.v.last f.v.hand := by
  show withMH r.1 _ r.1.here = _
  rw [e1]
  rfl
 dsimp only
 rw [e]
 refine ⟨⟨upV_right hf.1 (by rw [hs.1]; exact m1) (fun h => store_right 8 (-1) (ml.ri h)) (by omega) m4 hd hw d4, fun e => absurd e (by show ¬ r.2.1 = 0; omega), fun _ => ⟨⟨h8, by show 1368 ≤ r.2.1; omega, by show r.2.1 ≤ f.v.cf.mem - 8; omega⟩, ⟨a4, ha.1, by show (0 : Int) ≤ (f.v.dict.length : Nat); omega, by show ((f.v.dict.length : Nat) : Int) < ((f.v.dict ++ [(⟨name, r.2.1, 2⟩ : Wd)]).length : Nat); rw [List.length_append]; show _ < ((f.v.dict.length + 1 : Nat) : Int); omega⟩, ⟨fun c hc => (by cases hc), Nat.zero_le _⟩, ?_⟩⟩, by show (storeD r.1.m 8 (-1)).1.old.length ≤ _; have := hs.2; omega, rfl, rfl, rfl⟩
 show 0 ≤ (if on = true then fuel else 0)
 split
 ·rename_i hon
  have : ¬ (fuel < 0) := fun e => h1 ⟨hon, .inl e⟩
  omega
 ·omega
end Go.Proofs.YthlbcakjngcjbaaGreat
namespace Go.Proofs.YthlbcakjngcjbaaGreat
open Go Go.RowKit
open Go.Proofs.YthlbcakjngcjbaaGreat.Dict (St Bs Wd addD flagD cutD findD foundD lastAt findP hidD alikeD NameIn namedD setFl lastAt_hit lastAt_miss found_hit)
open Go.Proofs.YthlbcakjngcjbaaGreat.Mem (Mm storeD fetchD commaD alignD writeD layD padN thereD putB_len)
set_option maxRecDepth 100000
theorem last_app {P : Wd → Bool} {l r : List Wd} : ∀ {n : Nat}, n ≤ l.length → lastAt P (l ++ r) n = lastAt P l n
 | 0, _ => rfl
 | n + 1, h => by
  have hw : l[n]? = some l[n] := List.getElem?_eq_getElem (by omega)
  have hw' : (l ++ r)[n]? = some l[n] := by rw [List.getElem?_append_left (by omega), hw]
  cases hp : P l[n] with
  | true => rw [lastAt_hit hw' hp, lastAt_hit hw hp]
  | false => rw [lastAt_miss hw' hp, lastAt_miss hw hp, last_app (by omega)]
theorem last_lt {P : Wd → Bool} {l : List Wd} : ∀ {n i : Nat}, lastAt P l n = some i → i < n
 | 0, i, h => by cases h
 | n + 1, i, h => by
  rw [lastAt] at h
  cases hw : l[n]? with
  | none =>
   rw [hw] at h
   have := last_lt h
   omega
  | some w =>
   rw [hw] at h
   dsimp only at h
   cases hp : P w with
   | true =>
    rw [if_pos hp] at h
    cases h
    omega
   | false =>
    rw [if_neg (by simp [hp])] at h
    have := last_lt h
    omega
theorem find_hit {l : List Wd} {w : Wd} {name : Bs} (h : findP name w = true) : findD (l ++ [w]) name = (w, (l.length : Int), true) := by
 have hw : (l ++ [w])[l.length]? = some w := by simp
 unfold findD
 rw [List.length_append, List.length_singleton, lastAt_hit hw h, found_hit hw]
theorem find_miss {l : List Wd} {w : Wd} {name : Bs} (h : findP name w = false) : findD (l ++ [w]) name = findD l name := by
 have hw : (l ++ [w])[l.length]? = some w := by simp
 unfold findD
 rw [List.length_append, List.length_singleton, lastAt_miss hw h, last_app (Nat.le_refl _)]
 cases hc : lastAt (findP name) l l.length with
 | none => rfl
 | some i =>
  have h1 := last_lt hc
  simp only [foundD]
  rw [List.getElem?_append_left h1]
theorem findP_vis (n : Bs) (x : Int) (fl : Int) (h : fl = 0 ∨ fl = 1) : findP n ⟨n, x, fl⟩ = true := by
 unfold findP
 rw [show alikeD n n = true from decide_eq_true rfl]
 rcases h with rfl | rfl <;> rfl
theorem findP_hid (n n' : Bs) (x : Int) : findP n ⟨n', x, 2⟩ = false := by
 unfold findP
 rw [show hidD ⟨n', x, 2⟩ = true from rfl]
 rfl
theorem flag_end (l : List Wd) (w : Wd) (fl : Int) (h : 0 ≤ fl ∧ fl ≤ 7) : flagD (l ++ [w]) (l.length : Int) fl = (l ++ [⟨w.name, w.xt, fl⟩], 0) := by
 unfold flagD
 have hlen : (l ++ [w]).length = l.length + 1 := by simp
 rw [if_neg (by rw [hlen]; omega)]
 unfold setFl
 have hw : (l ++ [w])[l.length]? = some w := by simp
 rw [Int.toNat_natCast, hw]
 dsimp only
 rw [List.set_append_right _ _ (Nat.le_refl _), Nat.sub_self]
 rfl
theorem flAt_end (l : List Wd) (w : Wd) : flAt (l ++ [w]) (l.length : Int) = w.fl := by
 unfold flAt
 have hw : (l ++ [w])[l.length]? = some w := by simp
 rw [Int.toNat_natCast, hw]
theorem cut_end (l : List Wd) (w : Wd) : (cutD (l ++ [w]) (l.length : Int)).1 = l := by
 unfold cutD
 have hlen : (l ++ [w]).length = l.length + 1 := by simp
 rw [if_neg (by rw [hlen]; omega)]
 dsimp only
 rw [Int.toNat_natCast, List.take_append_of_le_length (Nat.le_refl _), List.take_length]
theorem created_yes {f : Fo} (hf : RightF f) (hx : f.c.xt = 0) {name : Bs} {l : List Int} (h : (createdD f name false l).2 = 0) :
  ∃ m hh xt, createdD f name false l = (⟨upV f.v m hh (f.v.dict ++ [⟨name, xt, 0⟩]) f.v.last f.v.hand, f.c⟩, 0) ∧ f.v.here ≤ xt ∧ xt < f.v.here + 8 ∧ xt ≤ hh := by
 have hr := hf.1.rng
 unfold createdD at h ⊢
 rw [if_neg (fun e => e hx)] at h ⊢
 by_cases hw : (wordR f.v name 0 l).2.2 ≠ 0
 ·rw [if_pos hw] at h; exact absurd h hw
 rw [if_neg hw]
 obtain ⟨e1, ml, e3, e4, e5, e6, e7, e8, e9, e10⟩ := wordR_yes (Classical.not_not.1 hw) hr
 have ha := align_at hr.h0 e8
 rw [← e3] at ha
 have hx1 : (wordR f.v name 0 l).2.1 ≤ (wordR f.v name 0 l).1.here := by
  have mx := ml_align (v := f.v) (f.v.dict ++ [⟨name, (alignD f.v.m f.v.here).2.1, 0⟩]) hr
  have hl := (cellsK_lays l (mx.rng hr)).h0
  rw [e9, e3]
  exact hl
 generalize wordR f.v name 0 l = r at *
 refine ⟨r.1.m, r.1.here, r.2.1, ?_, ha.1, ha.2, hx1⟩
 rw [if_neg (by decide), ← e1]
theorem imm_end {f : Fo} (hf : RightF f) (hx : f.c.xt = 0) {m : Mm} {hh xt : Int} {name : Bs} (h0 : f.v.here ≤ xt) : immD ⟨upV f.v m hh (f.v.dict ++ [⟨name, xt, 0⟩]) f.v.last f.v.hand, f.c⟩ = (⟨upV f.v m hh (f.v.dict ++ [⟨name, xt, 1⟩]) f.v.last f.v.hand, f.c⟩, 0) := by
 have h1 := hf.1.1.2.2.2.1
 have hlen : (f.v.dict ++ [(⟨name, xt, 0⟩ : Wd)]).length = f.v.dict.length + 1 := by simp
 unfold immD
 rw [if_neg (fun e => e hx), show (upV f.v m hh (f.v.dict ++ [⟨name, xt, 0⟩]) f.v.last f.v.hand).dict = f.v.dict ++ [⟨name, xt, 0⟩] from rfl, hlen]
 have hat : xtAt (f.v.dict ++ [(⟨name, xt, 0⟩ : Wd)]) (f.v.dict.length + 1 - 1) = xt := by
  unfold xtAt
  rw [Nat.add_sub_cancel, show (f.v.dict ++ [(⟨name, xt, 0⟩ : Wd)])[f.v.dict.length]? = some ⟨name, xt, 0⟩ by simp]
 rw [if_neg (by rw [hat]; omega), show (((f.v.dict.length + 1 : Nat) : Int) - 1) = ((f.v.dict.length : Nat) : Int) by omega, flAt_end, flag_end _ _ _ (by show 0 ≤ setI 0 ∧ setI 0 ≤ 7; decide)]
 rfl
theorem forget_end {f : Fo} (hf : RightF f) (hx : f.c.xt = 0) {m : Mm} {hh xt : Int} {name : Bs} (h0 : f.v.here ≤ xt) (h1 : xt ≤ hh) : forgetD ⟨upV f.v m hh (f.v.dict ++ [⟨name, xt, 1⟩]) f.v.last f.v.hand, f.c⟩ name = (⟨upV f.v m xt f.v.dict 0 f.v.hand, f.c⟩, 0) := by
 have h2 := hf.1.1.2.2.2.1
 unfold forgetD
 rw [if_neg (fun e => e hx), show (upV f.v m hh (f.v.dict ++ [⟨name, xt, 1⟩]) f.v.last f.v.hand).dict = f.v.dict ++ [⟨name, xt, 1⟩] from rfl, find_hit (findP_vis name xt 1 (.inr rfl)), if_neg (fun e => by cases e)]
 dsimp only
 rw [if_neg (by show ¬ (xt < 1368 ∨ hh < xt); omega), cut_end]
 rfl
end Go.Proofs.YthlbcakjngcjbaaGreat
