/- CompUndoes returns true at every input, and leaves its arguments as they were. -/
import Derived.Test.YthlbcakjngcjbaaGreatW1
import Derived.Test.YthlbcakjngcjbaaGreatW2
import Derived.Test.YthlbcakjngcjbaaGreatW3
import Derived.Test.YthlbcakjngcjbaaGreatW4
import Derived.Test.YthlbcakjngcjbaaGreatkW5
import Derived.Test.YthlbcakjngcjbaaGreatkW6
import Derived.Test.YthlbcakjngcjbaaGreatkW7
import Derived.Test.YthlbcakjngcjbaaGreatkW8
import Derived.Test.YthlbcakjngcjbaaGreatkW9
import Derived.Test.YthlbcakjngcjbaaGreatkW10
import Derived.Test.YthlbcakjngcjbaaGreatkW11
import Derived.Test.YthlbcakjngcjbaaGreatkW12
import Derived.Test.YthlbcakjngcjbaaGreatkW13
import Derived.Test.YthlbcakjngcjbaaGreatkW14
import Derived.Test.YthlbcakjngcjbaaGreatkW15
import Derived.Test.YthlbcakjngcjbaaGreatkW16
import Derived.Test.YthlbcakjngcjbaaGreatkW17
import Derived.Test.YthlbcakjngcjbaaGreatkW18
import Derived.Test.YthlbcakjngcjbaaGreatkW19
import Derived.Test.YthlbcakjngcjbaaGreatkW20
import Derived.Test.YthlbcakjngcjbaaGreatkW21
import Derived.Test.YthlbcakjngcjbaaGreatkW22
import Derived.Test.YthlbcakjngcjbaaGreatkW23
set_option linter.unusedVariables false
set_option linter.unusedSimpArgs false
namespace Go.Proofs.YthlbcakjngcjbaaGreat
open Go Go.RowKit
open Go.Proofs.YthlbcakjngcjbaaGreat.Dict (St Bs Wd addD flagD cutD findD NameIn namedD setFl)
open Go.Proofs.YthlbcakjngcjbaaGreat.Mem (Mm storeD fetchD commaD alignD writeD layD padN thereD putB_len)
set_option maxRecDepth 100000
theorem t8 {x : Int} (h : x.tmod 8 = 0) : (x + 8).tmod 8 = 0 := Int.tmod_eq_zero_of_dvd (by have := Int.dvd_of_tmod_eq_zero h; omega)
theorem cells_al : ∀ (l : List Int) {w : Kw}, w.v.here.tmod 8 = 0 → (w.bad = 0 ∨ w.bad = -8) → (l.foldl cellD w).v.here.tmod 8 = 0 ∧ ((l.foldl cellD w).bad = 0 ∨ (l.foldl cellD w).bad = -8)
 | [], w, h, hb => ⟨h, hb⟩
 | a :: l, w, h, hb => by
  rw [List.foldl_cons]
  refine cells_al l ?_ ?_
  ·unfold cellD
   split
   ·show (commaD w.v.m w.v.here a).2.1.tmod 8 = 0
    unfold commaD layD
    rw [if_neg (fun e => e h)]
    split
    ·exact h
    ·show (w.v.here + ((Mem.putB a).length : Nat)).tmod 8 = 0
     rw [putB_len]
     exact t8 h
   ·exact h
  ·unfold cellD
   split
   ·show (commaD w.v.m w.v.here a).2.2 = 0 ∨ (commaD w.v.m w.v.here a).2.2 = -8
    unfold commaD layD
    rw [if_neg (fun e => e h)]
    split
    ·exact .inr rfl
    ·exact .inl rfl
   ·exact hb
def cpB (f : Fo) (xt : Int) : Cp := ⟨xt, [], f.v.here, f.v.dict.length, f.v.last, false, 0⟩
theorem begin_yes {f : Fo} (hf : RightF f) (hx : f.c.xt = 0) {name : Bs} (h : (beginD f name false 0).2 = 0) :
  ∃ m xt, beginD f name false 0 = (⟨upV f.v m (xt + 8) (f.v.dict ++ [⟨name, xt, 2⟩]) f.v.last f.v.hand, cpB f xt⟩, 0) ∧ f.v.here ≤ xt ∧ (xt + 8).tmod 8 = 0 := by
 have hr := hf.1.rng
 unfold beginD at h ⊢
 rw [if_neg (fun e => e hx), if_neg (fun e => by cases e.1), if_neg (fun e => by cases e.1)] at h ⊢
 by_cases hw : (wordR f.v name 2 [256]).2.2 ≠ 0
 ·rw [if_pos hw] at h; exact absurd h hw
 rw [if_neg hw]
 obtain ⟨e1, ml, e3, e4, e5, e6, e7, e8, e9, e10⟩ := wordR_yes (Classical.not_not.1 hw) hr
 have ha := align_at hr.h0 e8
 rw [← e3] at ha
 have ho := one_here _ _ e10
 have hxt : (wordR f.v name 2 [256]).1.here = (wordR f.v name 2 [256]).2.1 + 8 := by
  rw [e9, ho.1, e3]
  rfl
 have h8 : (wordR f.v name 2 [256]).2.1.tmod 8 = 0 := by
  rw [e3]
  exact ho.2
 clear ho e9 e10
 generalize wordR f.v name 2 [256] = r at *
 have e : stV r.1 (-1) = upV f.v (storeD r.1.m 8 (-1)).1 (r.2.1 + 8) (f.v.dict ++ [⟨name, r.2.1, 2⟩]) f.v.last f.v.hand := by
  show withMH r.1 _ r.1.here = _
  rw [hxt, e1]
  rfl
 refine ⟨(storeD r.1.m 8 (-1)).1, r.2.1, ?_, ha.1, t8 h8⟩
 rw [e]
 rfl
theorem cells_yes {v : V} (hv : RightV v) (h8 : v.here.tmod 8 = 0) (l : List Int) (h : (cellsK v l).bad = 0) : ∃ m hh, (cellsK v l).v = withMH v m hh ∧ hh.tmod 8 = 0 ∧ RightV (withMH v m hh) ∧ m.old.length ≤ v.m.old.length + l.length := by
 have hly := cellsK_lays (v := v) l hv.rng
 have hal := cells_al l (w := wk0 v) h8 (.inl rfl)
 have h1 : (cellsK v l).v.here.tmod 8 = 0 := hal.1
 have hr := hly.right hv
 have heq := hly.eq
 refine ⟨(cellsK v l).v.m, (cellsK v l).v.here, heq, h1, ?_, hly.ol⟩
 rw [← heq]
 exact hr
theorem undo_yes {f : Fo} {m : Mm} {hh xt : Int} {name : Bs} (hx : xt ≠ 0) : ∃ m2, undoD ⟨upV f.v m hh (f.v.dict ++ [⟨name, xt, 2⟩]) f.v.last f.v.hand, cpB f xt⟩ = ⟨upV f.v m2 f.v.here f.v.dict f.v.last f.v.hand, cp0⟩ := by
 refine ⟨(storeD m 8 0).1, ?_⟩
 unfold undoD
 rw [if_neg (show ¬ (cpB f xt).xt = 0 from hx)]
 show (⟨upV f.v (storeD m 8 0).1 f.v.here (cutD (f.v.dict ++ [⟨name, xt, 2⟩]) (f.v.dict.length : Int)).1 f.v.last f.v.hand, cp0⟩ : Fo) = _
 rw [cut_end]
theorem end_yes {f : Fo} {m : Mm} {hh xt : Int} {name : Bs} (hx : xt ≠ 0) (h8 : hh.tmod 8 = 0) : (endD' ⟨upV f.v m hh (f.v.dict ++ [⟨name, xt, 2⟩]) f.v.last f.v.hand, cpB f xt⟩).2 = -8 ∨ ∃ m2 h2, endD' ⟨upV f.v m hh (f.v.dict ++ [⟨name, xt, 2⟩]) f.v.last f.v.hand, cpB f xt⟩ = (⟨upV f.v m2 h2 (f.v.dict ++ [⟨name, xt, 0⟩]) f.v.last f.v.hand, cp0⟩, 0) := by
 have hal := (cells_al [32] (w := wk0 (upV f.v m hh (f.v.dict ++ [⟨name, xt, 2⟩]) f.v.last f.v.hand)) h8 (.inl rfl)).2
 have hal' : (cellsK (upV f.v m hh (f.v.dict ++ [⟨name, xt, 2⟩]) f.v.last f.v.hand) [32]).bad = 0 ∨ (cellsK (upV f.v m hh (f.v.dict ++ [⟨name, xt, 2⟩]) f.v.last f.v.hand) [32]).bad = -8 := hal
 have he : ∀ n, (cellsK (upV f.v m hh (f.v.dict ++ [⟨name, xt, 2⟩]) f.v.last f.v.hand) [n]).v = withMH (upV f.v m hh (f.v.dict ++ [⟨name, xt, 2⟩]) f.v.last f.v.hand) (commaD m hh n).1 (commaD m hh n).2.1 := fun n => rfl
 unfold endD'
 rw [if_neg (show ¬ (cpB f xt).xt = 0 from hx), if_neg (show ¬ 0 < (cpB f xt).cf.length from Nat.lt_irrefl 0), if_neg (fun e => by cases e.1)]
 dsimp only
 rw [he]
 generalize (cellsK (upV f.v m hh (f.v.dict ++ [⟨name, xt, 2⟩]) f.v.last f.v.hand) [32]).bad = b at *
 rcases hal' with hb | hb
 ·right
  rw [if_neg (fun e => e hb)]
  refine ⟨(storeD (commaD m hh 32).1 8 0).1, (commaD m hh 32).2.1, ?_⟩
  rw [if_neg (by show ¬ (false = true); decide)]
  show ((⟨upV f.v (storeD (commaD m hh 32).1 8 0).1 (commaD m hh 32).2.1 (flagD (f.v.dict ++ [⟨name, xt, 2⟩]) (f.v.dict.length : Int) (clearH (flAt (f.v.dict ++ [⟨name, xt, 2⟩]) (f.v.dict.length : Int)))).1 f.v.last f.v.hand, cp0⟩, 0) : Fo × Int) = _
  rw [flAt_end, flag_end _ _ _ (by show 0 ≤ clearH 2 ∧ clearH 2 ≤ 7; decide)]
  rfl
 ·left
  rw [if_pos (by rw [hb]; decide)]
  exact hb
end Go.Proofs.YthlbcakjngcjbaaGreat
namespace Go.Proofs.YthlbcakjngcjbaaGreat
open Go Go.RowKit
open Go.Proofs.YthlbcakjngcjbaaGreat.Dict (St Bs bs_eq Wd encW encWs closed_ws sameW findD encFd NameIn)
open Go.Proofs.YthlbcakjngcjbaaGreat.Mem (Mm encM encBs closed_bs encP encP_closed closed_m)
open Go.Proofs.YthlbcakjngcjbaaGreat.Stk (encS closed_s)
set_option maxRecDepth 100000
theorem begun_code {f : Fo} {name : Bs} {on : Bool} {n : Int} (h : (beginD f name on n).2 ≠ 0) : (beginD f name on n).1 = f := by
 unfold beginD at h ⊢
 split
 ·rfl
 ·split
  ·rfl
  ·split
   ·rfl
   ·split
    ·rfl
    ·rename_i h1 h2 h3 h4
     rw [if_neg h1, if_neg h2, if_neg h3, if_neg h4] at h
     exact absurd rfl h
theorem sameW_id (l : List Wd) : sameW l l = true := by unfold sameW; exact if_pos rfl
theorem bneB (b : Bool) : (b != b) = false := by cases b <;> rfl
attribute [local irreducible] Decidable.decide awp ARun regK toK
theorem dictFind_c (f : Fo) (s : Bs) (hl : f.v.dict.length ≤ 1000000) (hn : s.length ≤ 1000000) (hw : NameIn f.v.dict) : FnC Tryz.prog 39 [.agg (encFo f), St s] (encFd (findD f.v.dict s)) := by
 have c1 := Dict.ref_find_c f.v.dict s hl hn hw
 unfold encFd at c1 ⊢
 generalize findD f.v.dict s = p at *
 refine goF Tryz.func39 (closedL_cons (.agg (encFo_closed f)) (closedL_cons (.val _) closedL_nil)) (fun w0 st0 => ?_)
 dsimp only [frOf]
 (repeat' (first | refine goA ?_ | refine cX c1 ?_ | refine goB ?_ | fail))
 exact awp_ret ⟨_, ResL.cons (ResA.agg rfl rfl rfl rfl rfl rfl rfl (RL.allClosed (Dict.encW_closed _))) (ResL.cons (ResA.tmp (.val _)) (ResL.cons (ResA.tmp (.val _)) .nil)), rfl⟩
set_option maxHeartbeats 16000000 in
theorem undoes14_c (f : Fo) (s : Bs) (l : List Int) (hi : FlIn f.v.dict) : FnC Tryz.prog 7 [.agg (encFo f), St s, encS l] (.val (.bool true)) := by
 have c0 := shown14_c
 have cm := mayF_c f hi
 have nt : (!true) = false := rfl
 have nf : (!false) = true := rfl
 have z0' : ((0 : Int) == 0) = true := by simp
 have z1' : ((0 : Int) != 0) = false := by simp
 have z2' : ((-8 : Int) != 0) = true := by simp
 have z3' : ((-8 : Int) == -8) = true := by simp
 by_cases hm : FewF f ∧ RightF f
 case neg =>
  rw [pD_no hm] at cm
  refine goF Tryz.func7 (closedL_cons (.agg (encFo_closed f)) (closedL_cons (.val _) (closedL_cons (closed_s l) closedL_nil))) (fun w0 st0 => ?_)
  dsimp only [frOf]
  (repeat' (first | refine goA ?_ | refine cX c0 ?_ | refine cX cm ?_ | refine goB ?_ | fail))
  exact awp_ret ⟨_, ResL.cons (ResA.tmp (.val _)) .nil, rfl⟩
 rw [pD_yes hm] at cm
 have hz : (ByteArray.mk s.toArray).size = s.length := rfl
 by_cases hs : 60 < s.length
 ·have d : decide ((60 : Int) < ((ByteArray.mk s.toArray).size : Nat)) = true := decide_eq_true (by omega)
  refine goF Tryz.func7 (closedL_cons (.agg (encFo_closed f)) (closedL_cons (.val _) (closedL_cons (closed_s l) closedL_nil))) (fun w0 st0 => ?_)
  dsimp only [frOf]
  (repeat' (first | refine goA ?_ | refine cX c0 ?_ | refine cX cm ?_ | refine goB ?_ | fail))
  exact awp_ret ⟨_, ResL.cons (ResA.tmp (.val _)) .nil, rfl⟩
 have d : decide ((60 : Int) < ((ByteArray.mk s.toArray).size : Nat)) = false := decide_eq_false (by omega)
 have hll : (((l.map encI).length : Nat) : Int) = l.length := by rw [List.length_map]
 by_cases hl : 20 < l.length
 ·have dl : decide ((20 : Int) < ((l.map encI).length : Nat)) = true := decide_eq_true (by omega)
  refine goF Tryz.func7 (closedL_cons (.agg (encFo_closed f)) (closedL_cons (.val _) (closedL_cons (closed_s l) closedL_nil))) (fun w0 st0 => ?_)
  dsimp only [frOf]
  (repeat' (first | refine goA ?_ | refine cX c0 ?_ | refine cX cm ?_ | refine goB ?_ | fail))
  exact awp_ret ⟨_, ResL.cons (ResA.tmp (.val _)) .nil, rfl⟩
 have dl : decide ((20 : Int) < ((l.map encI).length : Nat)) = false := decide_eq_false (by omega)
 by_cases hx : f.c.xt = 0
 case neg =>
  have dx := closeC_one hx
  refine goF Tryz.func7 (closedL_cons (.agg (encFo_closed f)) (closedL_cons (.val _) (closedL_cons (closed_s l) closedL_nil))) (fun w0 st0 => ?_)
  dsimp only [frOf]
  (repeat' (first | refine goA ?_ | refine cX c0 ?_ | refine cX cm ?_ | refine goB ?_ | fail))
  exact awp_ret ⟨_, ResL.cons (ResA.tmp (.val _)) .nil, rfl⟩
 have dx := closeC_zero hx
 have ho : f.v.m.old.length ≤ 300 := by have := hm.1.1.f1.2.1; omega
 have hg : Gd f.v 900 := hm.2.1.gd (by omega) _ (by omega)
 have k1 := beginW_c f s false 0 (hg.le (by omega)) (by omega)
 have kk := begin_keeps hm.2 s false 0
 by_cases hz1 : (beginD f s false 0).2 = 0
 case neg =>
  generalize beginD f s false 0 = p at *
  obtain ⟨x, e⟩ := p
  have d1 : (e != 0) = true := by simp; exact hz1
  unfold encFE at k1
  clear ho hg hm hz hi kk
  refine goF Tryz.func7 (closedL_cons (.agg (encFo_closed f)) (closedL_cons (.val _) (closedL_cons (closed_s l) closedL_nil))) (fun w0 st0 => ?_)
  dsimp only [frOf]
  (repeat' (first | refine goA ?_ | refine cX c0 ?_ | refine cX cm ?_ | refine cX k1 ?_ | refine goB ?_ | fail))
  exact awp_ret ⟨_, ResL.cons (ResA.tmp (.val _)) .nil, rfl⟩
 obtain ⟨m, xt, e1, g1, g2⟩ := begin_yes hm.2 hx hz1
 rw [e1] at k1 kk
 have hx0 : xt ≠ 0 := by have := hm.2.1.1.2.2.2.1; omega
 have ho2 : m.old.length ≤ f.v.m.old.length + 600 := kk.o
 have hra : RightV (upV f.v m (xt + 8) (f.v.dict ++ [⟨s, xt, 2⟩]) f.v.last f.v.hand) := kk.r.1
 have ga := hra.gd (by show m.old.length ≤ 1000; omega) 900 (by omega)
 have k2 := ref_cells_c (upV f.v m (xt + 8) (f.v.dict ++ [⟨s, xt, 2⟩]) f.v.last f.v.hand) l (by omega) (ga.ok.le (by omega))
 by_cases hb : (cellsK (upV f.v m (xt + 8) (f.v.dict ++ [⟨s, xt, 2⟩]) f.v.last f.v.hand) l).bad = 0
 case neg =>
  rw [show outD (cellsK (upV f.v m (xt + 8) (f.v.dict ++ [⟨s, xt, 2⟩]) f.v.last f.v.hand) l) (upV f.v m (xt + 8) (f.v.dict ++ [⟨s, xt, 2⟩]) f.v.last f.v.hand) = (_, _) from if_neg hb] at k2
  generalize (cellsK (upV f.v m (xt + 8) (f.v.dict ++ [⟨s, xt, 2⟩]) f.v.last f.v.hand) l).bad = b at *
  have d1 : (b != 0) = true := by simp [hb]
  generalize upV f.v m (xt + 8) (f.v.dict ++ [⟨s, xt, 2⟩]) f.v.last f.v.hand = va at *
  generalize cpB f xt = cb at *
  unfold encFE at k1
  unfold encVE at k2
  clear ho hg hm hz hi kk e1 ga hra
  refine goF Tryz.func7 (closedL_cons (.agg (encFo_closed f)) (closedL_cons (.val _) (closedL_cons (closed_s l) closedL_nil))) (fun w0 st0 => ?_)
  dsimp only [frOf]
  (repeat' (first | refine goA ?_ | refine cX c0 ?_ | refine cX cm ?_ | refine cX k1 ?_ | refine cX k2 ?_ | refine goB ?_ | fail))
  exact awp_ret ⟨_, ResL.cons (ResA.tmp (.val _)) .nil, rfl⟩
 obtain ⟨m2, hh, q1, q2, q3, q4⟩ := cells_yes hra g2 l hb
 rw [show outD (cellsK (upV f.v m (xt + 8) (f.v.dict ++ [⟨s, xt, 2⟩]) f.v.last f.v.hand) l) (upV f.v m (xt + 8) (f.v.dict ++ [⟨s, xt, 2⟩]) f.v.last f.v.hand) = (_, 0) from if_pos hb, q1] at k2
 have ew : withMH (upV f.v m (xt + 8) (f.v.dict ++ [⟨s, xt, 2⟩]) f.v.last f.v.hand) m2 hh = upV f.v m2 hh (f.v.dict ++ [⟨s, xt, 2⟩]) f.v.last f.v.hand := rfl
 rw [ew] at k2 q3
 have q4' : m2.old.length ≤ m.old.length + l.length := q4
 have gw := q3.gd (by show m2.old.length ≤ 1000; omega) 900 (by omega)
 obtain ⟨m3, e2⟩ := undo_yes (f := f) (m := m2) (hh := hh) (name := s) hx0
 have k3 := undo_c ⟨upV f.v m2 hh (f.v.dict ++ [⟨s, xt, 2⟩]) f.v.last f.v.hand, cpB f xt⟩ (gw.le (by omega))
 rw [e2] at k3
 have k4 := end_c ⟨upV f.v m2 hh (f.v.dict ++ [⟨s, xt, 2⟩]) f.v.last f.v.hand, cpB f xt⟩ (gw.le (by omega)) (fun _ => ⟨by show (0 : Int) ≤ (f.v.dict.length : Nat); omega, by show ((f.v.dict.length : Nat) : Int) < ((f.v.dict ++ [(⟨s, xt, 2⟩ : Wd)]).length : Nat); rw [List.length_append]; show _ < ((f.v.dict.length + 1 : Nat) : Int); omega⟩)
 have k5 := Dict.ref_find_c (f.v.dict ++ [⟨s, xt, 2⟩]) s gw.dl (by omega) gw.ni
 rw [find_miss (findP_hid s s xt)] at k5
 have k6 := Dict.ref_find_c f.v.dict s hg.dl (by omega) hg.ni
 have sw := Dict.ref_same_c f.v.dict f.v.dict hg.dl
 rw [sameW_id] at sw
 have eb := bneB
 have t1 := eb (findD f.v.dict s).2.2
 have t2 : ((findD f.v.dict s).2.1 != (findD f.v.dict s).2.1) = false := by simp
 have t3 : (f.v.here != f.v.here) = false := by simp
 have t4 : (f.v.last != f.v.last) = false := by simp
 have hlen : (((f.v.dict.map encW).length : Nat) : Int) = f.v.dict.length := by rw [List.length_map]
 have t5 : ((f.v.dict.length : Int) == (((f.v.dict.map encW).length : Nat) : Int)) = true := beq_iff_eq.2 hlen.symm
 have t6 : (xt == xt) = true := by simp
 have hnc : NameIn (f.v.dict ++ [⟨s, xt, 0⟩]) := fun w hw => by
  rcases List.mem_append.1 hw with hw | hw
  ·exact hg.ni w hw
  ·rw [List.mem_singleton.1 hw]; exact ⟨by show s.length ≤ _; omega, by show (0 : Int) ≤ 0; omega, by show (0 : Int) ≤ 7; omega⟩
 unfold encFd at k5 k6
 generalize findD f.v.dict s = p at *
 unfold encFE at k1
 unfold encVE at k2
 rcases end_yes (f := f) (m := m2) (name := s) hx0 q2 with e3 | ⟨m4, h4, e3⟩
 ·generalize endD' ⟨upV f.v m2 hh (f.v.dict ++ [⟨s, xt, 2⟩]) f.v.last f.v.hand, cpB f xt⟩ = r at *
  obtain ⟨x, e⟩ := r
  dsimp only at e3
  subst e3
  unfold encFE at k4
  generalize f.v.dict ++ [(⟨s, xt, 2⟩ : Wd)] = D at *
  clear ho hm hz hi kk e1 ga hra gw hg hnc
  refine goF Tryz.func7 (closedL_cons (.agg (encFo_closed f)) (closedL_cons (.val _) (closedL_cons (closed_s l) closedL_nil))) (fun w0 st0 => ?_)
  dsimp only [frOf]
  (repeat' (first | refine goA ?_ | refine cX c0 ?_ | refine cX cm ?_ | refine cX k1 ?_ | refine cX k2 ?_ | refine cX k3 ?_ | refine cX k4 ?_ | refine cX k5 ?_ | refine cX k6 ?_ | refine cX sw ?_ | refine goB ?_ | fail))
  (refine awp_ret ⟨_, ResL.cons (ResA.tmp (.val _)) .nil, congrArg (fun b => AV.val (.bool b)) ?_⟩; first | rfl | (symm; assumption) | assumption)
 ·rw [e3] at k4
  unfold encFE at k4
  have hdE : (f.v.dict ++ [(⟨s, xt, 0⟩ : Wd)]).length ≤ 1000000 := by
   have h1 : (f.v.dict ++ [(⟨s, xt, 2⟩ : Wd)]).length ≤ 1000000 := gw.dl
   rw [List.length_append] at h1 ⊢
   exact h1
  have k7 := dictFind_c ⟨upV f.v m4 h4 (f.v.dict ++ [(⟨s, xt, 0⟩ : Wd)]) f.v.last f.v.hand, cp0⟩ s hdE (by omega) hnc
  rw [show findD (upV f.v m4 h4 (f.v.dict ++ [⟨s, xt, 0⟩]) f.v.last f.v.hand).dict s = _ from find_hit (findP_vis s xt 0 (.inl rfl))] at k7
  unfold encFd at k7
  generalize f.v.dict ++ [(⟨s, xt, 2⟩ : Wd)] = D at *
  generalize f.v.dict ++ [(⟨s, xt, 0⟩ : Wd)] = E at *
  clear ho hm hz hi kk e1 ga hra gw hg hnc
  refine goF Tryz.func7 (closedL_cons (.agg (encFo_closed f)) (closedL_cons (.val _) (closedL_cons (closed_s l) closedL_nil))) (fun w0 st0 => ?_)
  dsimp only [frOf]
  (repeat' (first | refine goA ?_ | refine cX c0 ?_ | refine cX cm ?_ | refine cX k1 ?_ | refine cX k2 ?_ | refine cX k3 ?_ | refine cX k4 ?_ | refine cX k5 ?_ | refine cX k6 ?_ | refine cX k7 ?_ | refine cX sw ?_ | refine goB ?_ | fail))
  (refine awp_ret ⟨_, ResL.cons (ResA.tmp (.val _)) .nil, congrArg (fun b => AV.val (.bool b)) ?_⟩; first | rfl | (symm; assumption) | assumption)
end Go.Proofs.YthlbcakjngcjbaaGreat
namespace Go.Proofs.YthlbcakjngcjbaaGreat
open Go Go.RowKit Go.ChangeShapes Go.WideShapes Go.Deep Go.Proofs.YthlbcakjngcjbaaGreat
set_option maxRecDepth 100000
theorem compUndoes_lifted (os : Os) (started : os.Started) (H : Type) (enc : TypeId × Value → H) :
  ReturnsInHanded {} Tryz.checked os 7 .any (Rows.compUndoesSpec.pre6 enc Tryz.prog Tryz.f7 Rows.compUndoesRow.domain false) (Rows.compUndoesSpec.post enc Tryz.prog Tryz.f7 false true false false) := by
 refine returnsInHanded_of_change (C := Tryz.checked) own_knob started (by kernel_rfl) Tryz.func7
  (ChangeSpec.witness6 (enc := enc) (C := Tryz.checked) false ⟨#[], #[.agg #[.int .i64 0, .int .i64 0, .int .i64 0, .int .i64 0, .int .i64 0, .slice none 0 0, .slice none 0 0, .int .i64 0, .slice none 0 0, .slice none 0 0, .slice none 0 0, .slice none 0 0, .int .i64 0, .slice none 0 0, .slice none 0 0, .bool false, .slice none 0 0, .int .i64 0, .int .i64 0, .int .i64 0, .int .i64 0, .int .i64 0, .slice none 0 0, .int .i64 0, .slice none 0 0, .int .i64 0, .int .i64 0, .int .i64 0, .bool false, .int .i64 0], .string ⟨#[]⟩, .slice none 0 0], []⟩ 12 (by kernel_rfl) (by kernel_rfl) (by kernel_rfl) (by kernel_rfl)) ?_
 intro W base args ds gs before hval0 hW hcnd _
 have hval : ∀ (j : Nat) t v, Tryz.f7.params[j]? = some t → args[j]? = some v → Value.okWide Tryz.prog W .any base t v := hval0
 have hW' := hW
 obtain ⟨p, q, hA0, hV, rfl, hfz, hnd⟩ := hW
 have hA : DataW.TrodAll enc Tryz.prog W 0 (fun _ => true) true Tryz.f7.params.toList args.toList ds p := hA0
 rw [Tryz.params7] at hA hval
 obtain ⟨v0, vs0, d0, ds0, p0, q0, hargs, rfl, rfl, h0, r0⟩ := trodAll_cons hA
 obtain ⟨v1, vs1, d1, ds1, p1, q1, rfl, rfl, rfl, h1, r1⟩ := trodAll_cons r0
 obtain ⟨v2, vs2, d2, ds2, p2, q2, rfl, rfl, rfl, h2, r2⟩ := trodAll_cons r1
 obtain ⟨rfl, rfl, rfl⟩ := trodAll_nil r2
 obtain rfl : args = #[v0, v1, v2] := by cases args; simp_all
 obtain ⟨rfl, rfl⟩ := trodVars_none hV
 have k0 := h0
 have lt0 : ∀ x ∈ p0, x.block < W.heap.size := by obtain ⟨m, hm⟩ := k0; exact DataW.trod_lt m _ _ _ hm
 have k1 := h1
 have lt1 : ∀ x ∈ p1, x.block < W.heap.size := by obtain ⟨m, hm⟩ := k1; exact DataW.trod_lt m _ _ _ hm
 have k2 := h2
 have lt2 : ∀ x ∈ p2, x.block < W.heap.size := by obtain ⟨m, hm⟩ := k2; exact DataW.trod_lt m _ _ _ hm
 obtain ⟨y0, rep0, hy0⟩ := arg_struct Tryz.underlying41 (hval 0 41 v0 rfl rfl) h0 opens_fo
 obtain ⟨y1, rep1, hy1⟩ := arg_str Tryz.underlying9 (hval 1 9 v1 rfl rfl) h1
 obtain ⟨y2, rep2, hy2⟩ := arg_slice (enc := encI) Tryz.underlying28 (hval 2 28 v2 rfl rfl) h2 (opens_slice (sz := 1) (enc := encI) Tryz.underlying28 (by kernel_rfl) (by decide) (fun _ => rfl) opens_i)
 clear hA0 hval0
 refine ((undoes14_c y0 y1 y2 hy0).law (us := [v0, v1, v2]) rfl (fun i x u hx hu => by
  cases i with
  | zero => simp only [List.getElem?_cons_zero, Option.some.injEq] at hx hu; rw [← hx, ← hu]; exact rep0
  | succ i =>
   simp only [List.getElem?_cons_succ] at hx hu
   cases i with
   | zero => simp only [List.getElem?_cons_zero, Option.some.injEq] at hx hu; rw [← hx, ← hu]; exact rep1
   | succ i =>
    simp only [List.getElem?_cons_succ] at hx hu
    cases i with
    | zero => simp only [List.getElem?_cons_zero, Option.some.injEq] at hx hu; rw [← hx, ← hu]; exact rep2
    | succ i =>
     simp only [List.getElem?_cons_succ] at hx hu
     simp at hx)).mono fun e W' ⟨he, bel⟩ => ?_
 subst he
 exact ⟨_, rfl, _, _, _, [], _, [], hW', trodAll_mk1 (shut_bool Tryz.underlying4 _), (trodAll_cons_mk (Below.trod laid_out (by kernel_rfl) (of_decide_eq_true (by kernel_rfl)) k0 bel lt0) (trodAll_cons_mk (Below.trod laid_out (by kernel_rfl) (of_decide_eq_true (by kernel_rfl)) k1 bel lt1) (trodAll_cons_mk (Below.trod laid_out (by kernel_rfl) (of_decide_eq_true (by kernel_rfl)) k2 bel lt2) trodAll_mk0))), rfl, bel.frame _, fun h => by cases h⟩
theorem compUndoes_holds : Rows.CompUndoesSaid :=
 OpenClaim.holds_of_wide 7 Tryz.f7 rfl rfl rfl rfl rfl rfl rfl ⟨rfl, rfl, rfl, rfl, rfl⟩ rfl rfl rfl rfl rfl (by kernel_rfl) Tryz.func7 (by kernel_rfl)
  (of_decide_eq_true (by kernel_rfl)) (by unfold Func.isWrapper; first | (rw [if_pos (by decide +kernel)]; kernel_rfl) | (rw [if_neg (by decide +kernel)]; exact ⟨rfl, rfl⟩))
  (fun os started H enc _ => compUndoes_lifted os started H enc)
#print axioms compUndoes_holds
end Go.Proofs.YthlbcakjngcjbaaGreat
