/- yX16, yX17, yX18, yX19, yX20. -/
import Derived.Test.YtfphgelollhdhaaGreatW1
import Derived.Test.YtfphgelollhdhaaGreatW2
import Derived.Test.YtfphgelollhdhaaGreatW3
import Derived.Test.YtfphgelollhdhaaGreatW4
import Derived.Test.YtfphgelollhdhaaGreatyW5
import Derived.Test.YtfphgelollhdhaaGreatyW6
import Derived.Test.YtfphgelollhdhaaGreatyW7
import Derived.Test.YtfphgelollhdhaaGreatyW8
import Derived.Test.YtfphgelollhdhaaGreatyW9
import Derived.Test.YtfphgelollhdhaaGreatyW10
import Derived.Test.YtfphgelollhdhaaGreatyW11
import Derived.Test.YtfphgelollhdhaaGreatyW12
import Derived.Test.YtfphgelollhdhaaGreatyW13
import Derived.Test.YtfphgelollhdhaaGreatyW14
import Derived.Test.YtfphgelollhdhaaGreatyW15
import Derived.Test.YtfphgelollhdhaaGreatyW16
set_option linter.unusedVariables false
set_option linter.unusedSimpArgs false
namespace Go.Proofs.YtfphgelollhdhaaGreat
open Go Go.RowKit
open Go.Proofs.YtfphgelollhdhaaGreat.Dict (St Bs bs_eq encWs closed_ws)
open Go.Proofs.YtfphgelollhdhaaGreat.Mem (Mm encM encBs closed_bs encP encP_closed closed_m storeD fetchD commaD)
open Go.Proofs.YtfphgelollhdhaaGreat.Stk (encS closed_s encI_closed)
set_option maxRecDepth 100000
theorem set_mid {l : List Cfr} {k : Nat} {c d : Cfr} (h : l[k]? = some c) : l.set k d = l.take k ++ [d] ++ l.drop (k + 1) := by
 have hk := (List.getElem?_eq_some_iff.1 h).1
 rw [List.set_eq_take_append_cons_drop, if_pos hk]
 simp
theorem Reif.mid {s : AS} {b g gen n : Nat} {L R : List Cfr} {c' : Cfr} {el : List AV} (hb : lkH s.hp b = some ⟨gen, 3, (L.map encCf ++ [el]) ++ R.map encCf⟩) (hg : gen = g) (hn : n = (L.map encCf ++ [el] ++ R.map encCf).length) (hel : RL s el (encCf c')) : Reif s (.own b g 0 n) (encLCf (L ++ [c'] ++ R)) := by
 subst hn
 refine Reif.own (blk := ⟨gen, 3, (L.map encCf ++ [el]) ++ R.map encCf⟩) (els' := (L ++ [c'] ++ R).map encCf) hb hg (by simp) (by simp) ?_ ?_
 ·intro j e e' h1 h2
  rw [Nat.zero_add] at h1
  rw [List.map_append, List.map_append] at h2
  by_cases h3 : j < L.length
  ·rw [List.append_assoc, List.getElem?_append_left (by simpa using h3)] at h1 h2
   rw [h1] at h2
   rw [Option.some.inj h2]
  ·by_cases h4 : j = L.length
   ·subst h4
    simp at h1 h2
    subst h1 h2
    exact hel.1
   ·rw [List.getElem?_append_right (by simp; omega)] at h1 h2
    simp only [List.length_append, List.length_map, List.length_singleton, List.map_cons, List.map_nil] at h1 h2
    rw [h1] at h2
    rw [Option.some.inj h2]
 ·intro j e e' f x x' h1 h2 h5 h6
  rw [Nat.zero_add] at h1
  rw [List.map_append, List.map_append] at h2
  have clo : e = e' → e ∈ (L ++ R).map encCf → Reif s x x' := fun h7 h8 => by
   obtain ⟨c, _, rfl⟩ := List.mem_map.1 h8
   subst h7
   rw [h5] at h6
   obtain rfl := Option.some.inj h6
   exact .closed _ (encCf_closed c _ (List.mem_of_getElem? h5))
  by_cases h3 : j < L.length
  ·rw [List.append_assoc, List.getElem?_append_left (by simpa using h3)] at h1 h2
   have hm := List.mem_of_getElem? h1
   rw [h1] at h2
   exact clo (Option.some.inj h2) (by rw [List.map_append]; exact List.mem_append.2 (.inl hm))
  ·by_cases h4 : j = L.length
   ·subst h4
    simp at h1 h2
    subst h1 h2
    exact hel.2 f x x' h5 h6
   ·rw [List.getElem?_append_right (by simp; omega)] at h1 h2
    simp only [List.length_append, List.length_map, List.length_singleton, List.map_cons, List.map_nil] at h1 h2
    have hm := List.mem_of_getElem? h1
    rw [h1] at h2
    exact clo (Option.some.inj h2) (by rw [List.map_append]; exact List.mem_append.2 (.inr hm))
attribute [local irreducible] Decidable.decide awp ARun regK toK
set_option maxHeartbeats 40000000 in
theorem ref_bracket_leave (v : V) (l : List Cfr) (name : Bs) (hn : name = [76, 69, 65, 86, 69]) (hf : FitC 12 l) (hm : FnC Tryz.prog 98 [encLCf l, St name] (.val (.bool true))) (h : Okk v 100) (hl : l.length ≤ 1000) (hv : ∀ c, c ∈ l → c.lv.length ≤ 60) : FnC Tryz.prog 67 [.agg (encV v), encLCf l, St name] (encVLE (refBrD (planD 12 v l) v l)) := by
 have e0 : (((l.map encCf).length : Nat) : Int) = l.length := by rw [List.length_map]
 have c5 := ref_cells_c v [xtD nUn, xtD nBr, 0] (by simp) (h.le (by simp))
 have o5 : Okk (cellsK v [xtD nUn, xtD nBr, 0]).v 60 := cells_okk (w := wk0 v) (k := 60) _ (h.le (by simp))
 have c6 := ref_stored_c (cellsK v [xtD nUn, xtD nBr, 0]).v [] (by simp) (o5.le (by simp))
 obtain ⟨k, c, hp0, hk, hA⟩ := loopFrom_mem (l := l) (n := l.length) hf.1
 have hcm : c ∈ l := List.mem_of_getElem? hp0
 have hcl := hv c hcm
 have hA' : loopAt l = (k : Nat) := hA
 have ePl : planD 12 v l = ([xtD nUn, xtD nBr, 0], [], l.take k ++ [⟨c.kind, c.at', c.lv ++ [v.here + 16]⟩] ++ l.drop (k + 1)) := by
  show ([xtD nUn, xtD nBr, 0], ([] : List Int), addLv l (loopAt l).toNat (v.here + 16)) = _
  rw [hA', Int.toNat_natCast]
  unfold addLv
  rw [hp0]
  dsimp only
  rw [set_mid hp0]
 rw [ePl]
 have hk1 := (List.getElem?_eq_some_iff.1 hp0).1
 have c4 := ref_loop_c l (by omega)
 rw [hA'] at c4
 have hpk := hp0
 have e1 : ((((l.take k).map encCf).length : Nat) : Int) = k := by rw [List.length_map, List.length_take]; omega
 have e2 : ((((l.take (k + 1)).map encCf).length : Nat) : Int) = k + 1 := by rw [List.length_map, List.length_take]; omega
 have e3 : ((l.drop (k + 1)).map encCf).length ≤ 1000 := by rw [List.length_map, List.length_drop]; omega
 have e4 : ((c.lv.map encI).length : Nat) ≤ 60 := by rw [List.length_map]; exact hcl
 have he1 : l.map encCf = (l.take k).map encCf ++ (l.drop k).map encCf := by rw [← List.map_append, List.take_append_drop]
 have he2 : l.map encCf = (l.take (k + 1)).map encCf ++ (l.drop (k + 1)).map encCf := by rw [← List.map_append, List.take_append_drop]
 generalize l.take k = L at *
 generalize l.drop (k + 1) = R at *
 clear ePl hA hA' hv hf
 have hb0 := h.h0
 have hb1 : v.here ≤ 1000000 := by have := h.h1; have := h.b; omega
 have x1 := ref_xt_c nUn
 have x2 := ref_xt_c nBr
 have n0 := Dict.eqF name [73, 70] (by rw [hn]; simp)
 have n1 := Dict.eqF name [69, 76, 83, 69] (by rw [hn]; simp)
 have n2 := Dict.eqF name [84, 72, 69, 78] (by rw [hn]; simp)
 have n3 := Dict.eqF name [66, 69, 71, 73, 78] (by rw [hn]; simp)
 have n4 := Dict.eqF name [87, 72, 73, 76, 69] (by rw [hn]; simp)
 have n5 := Dict.eqF name [82, 69, 80, 69, 65, 84] (by rw [hn]; simp)
 have n6 := Dict.eqF name [85, 78, 84, 73, 76] (by rw [hn]; simp)
 have n7 := Dict.eqF name [65, 71, 65, 73, 78] (by rw [hn]; simp)
 have n8 := Dict.eqF name [68, 79] (by rw [hn]; simp)
 have n9 := Dict.eqF name [63, 68, 79] (by rw [hn]; simp)
 have n10 := Dict.eqF name [76, 79, 79, 80] (by rw [hn]; simp)
 have n11 := Dict.eqF name [43, 76, 79, 79, 80] (by rw [hn]; simp)
 have n12 := Dict.eqT name [76, 69, 65, 86, 69] (by rw [hn])
 refine goF Tryz.func67 (closedL_cons (closedV v) (closedL_cons (closedLCf l) (closedL_cons (.val _) closedL_nil))) (fun w0 st0 => ?_)
 dsimp only [frOf]
 (repeat' (first | refine goA ?_ | refine cX hm ?_ | refine goB ?_ | fail))
 refine awp_cut (T := List AV × Nat) (fun t => ⟨[(1, encLCf l), (2, St name), (3, .ptr 3 0 0 0), (6, .ptr 6 1 0 0), (10, .ptr 10 11 0 0)], [(3, some ⟨0, 23, [encV v]⟩), (6, some ⟨1, 23, [[.val (.int .i64 0), .val (.int .i64 0), .val (.int .i64 0), .val (.int .i64 0), .val (.int .i64 0), .sl 0 true [], .sl 0 true [], .val (.int .i64 0), .sl 0 true [], .sl 0 true [], .sl 0 true [], .sl 0 true [], .val (.int .i64 0), .sl 0 true [], .sl 0 true [], .val (.bool false), .sl 0 true [], .val (.int .i64 0), .val (.int .i64 0), .val (.int .i64 0), .val (.int .i64 0), .val (.int .i64 0), .sl 0 true []]]⟩), (10, some ⟨11, 3, [t.1]⟩)], t.2⟩) (fun t => True) ?_ (fun t1 _ => ?_)
 ·rcases List.eq_nil_or_concat l with e | ⟨L', c', e⟩
  ·subst e
   simp at hk1
  ·rw [List.concat_eq_append] at e
   have el : l.length = L'.length + 1 := by rw [e]; simp
   have d : decide ((0 : Int) < (((l.map encCf).length : Nat) : Int)) = true := decide_eq_true (by omega)
   have hp : (l.map encCf)[((((l.map encCf).length : Nat) : Int) - 1).toNat]? = some (encCf c') := by
    rw [e0, el, List.getElem?_map, show (((L'.length + 1 : Nat) : Int) - 1).toNat = L'.length by omega, e]
    simp
   clear he1 he2
   (repeat' (first | refine goA ?_ | refine ARun.indexAddr rfl rfl (by omega) (by with_reducible exact hp) rfl rfl rfl rfl rfl (guardF_spec rfl) ?_ | refine goB ?_ | fail))
   exact ⟨(_, _), ⟨⟨rfl, rfl, rfl, rfl, rfl, trivial⟩, ⟨rfl, rfl, rfl, trivial⟩, Nat.le_refl _⟩, trivial⟩
 obtain ⟨top, gc1⟩ := t1
 dsimp only
 unfold refBrD refK
 dsimp only
 by_cases b1 : (cellsK v [xtD nUn, xtD nBr, 0]).bad = 0
 case neg =>
  have d1 : ((cellsK v [xtD nUn, xtD nBr, 0]).bad != 0) = true := by simp [b1]
  rw [show outD (cellsK v [xtD nUn, xtD nBr, 0]) v = (v, (cellsK v [xtD nUn, xtD nBr, 0]).bad) from if_neg b1] at c5
  rw [heres_bad b1, if_neg b1]
  generalize cellsK v [xtD nUn, xtD nBr, 0] = k1 at *
  unfold encVE at c5
  unfold encVLE
  (repeat' (first | refine goA ?_ | refine cX x1 ?_ | refine cX x2 ?_ | refine cX c4 ?_ | refine ARun.indexAddr rfl rfl (by omega) (by first | with_reducible exact get_map hp0 | with_reducible exact get_map hpk) rfl rfl rfl rfl rfl (guardF_spec rfl) ?_ | refine appF rfl ?_ | refine appO rfl ?_ | refine callW (c5) rfl wkT rfl rfl ?_ | refine ARun.buildSliceO rfl rfl rfl rfl rfl rfl rfl (buildSF_spec rfl) rfl (guardF_spec rfl) ?_ | refine ARun.sliceTo rfl he1 rfl lensT rfl rfl rfl rfl rfl (guardF_spec rfl) ?_ | refine ARun.sliceFrom rfl he2 rfl lensT rfl rfl rfl rfl rfl (guardF_spec rfl) ?_ | refine goB ?_ | fail))
  exact awp_ret ⟨_, ResL.cons (ResA.agg rfl rfl rfl rfl rfl rfl rfl (RL.allClosed (encV_closed _))) (ResL.cons (ResA.tmp (.closed _ (closedLCf _))) (ResL.cons (ResA.tmp (.val _)) .nil)), rfl⟩
 have d1 : ((0 : Int) != 0) = false := by simp
 rw [show outD (cellsK v [xtD nUn, xtD nBr, 0]) v = ((cellsK v [xtD nUn, xtD nBr, 0]).v, 0) from if_pos b1] at c5
 have e7 : heresD (cellsK v [xtD nUn, xtD nBr, 0]) [] = storK (cellsK v [xtD nUn, xtD nBr, 0]).v [] := congrArg (fun w => heresD w []) (cellsK_ok b1)
 rw [e7]
 generalize cellsK v [xtD nUn, xtD nBr, 0] = k1 at *
 have c6' : FnC Tryz.prog 101 [.agg (encV k1.v), encS []] (encVE (k1.v, 0)) := c6
 clear c6 e7
 rw [show storK k1.v [] = wk0 k1.v from rfl]
 rw [if_pos (show (wk0 k1.v).bad = 0 from rfl)]
 have e9 : encS (c.lv ++ [v.here + 16]) = .sl 1 false (c.lv.map encI ++ [encI (v.here + 16)]) := by simp [encS]
 show awp _ _ _ _
 unfold encVE at c5 c6'
 unfold encVLE
 generalize xtD nUn = y1 at *
 generalize xtD nBr = y2 at *
 (repeat' (first | refine goA ?_ | refine cX x1 ?_ | refine cX x2 ?_ | refine cX c4 ?_ | refine ARun.indexAddr rfl rfl (by omega) (by first | with_reducible exact get_map hp0 | with_reducible exact get_map hpk) rfl rfl rfl rfl rfl (guardF_spec rfl) ?_ | refine appF rfl ?_ | refine appO rfl ?_ | refine callW (c5) rfl wkT rfl rfl ?_ | refine callW (c6') rfl wkT rfl rfl ?_ | refine ARun.buildSliceO rfl rfl rfl rfl rfl rfl rfl (buildSF_spec rfl) rfl (guardF_spec rfl) ?_ | refine ARun.sliceTo rfl he1 rfl lensT rfl rfl rfl rfl rfl (guardF_spec rfl) ?_ | refine ARun.sliceFrom rfl he2 rfl lensT rfl rfl rfl rfl rfl (guardF_spec rfl) ?_ | refine goB ?_ | fail))
 exact awp_ret ⟨_, ResL.cons (ResA.agg rfl rfl rfl rfl rfl rfl rfl (RL.allClosed (encV_closed _))) (ResL.cons (ResA.tmp (Reif.mid (L := L) (R := R) (c' := ⟨c.kind, c.at', c.lv ++ [v.here + 16]⟩) rfl rfl rfl (RL.cons (.val _) (RL.cons (.val _) (RL.cons (by rw [e9]; exact Reif.owned rfl rfl rfl (own_closed_app encI_closed (encI_closed _))) (RL.nil _)))))) (ResL.cons (ResA.tmp (.val _)) .nil)), rfl⟩
end Go.Proofs.YtfphgelollhdhaaGreat
namespace Go.Proofs.YtfphgelollhdhaaGreat
open Go Go.RowKit
open Go.Proofs.YtfphgelollhdhaaGreat.Dict (St Bs)
open Go.Proofs.YtfphgelollhdhaaGreat.Mem (commaD)
set_option maxRecDepth 100000
noncomputable def brI (i : Nat) (v : V) (l : List Cfr) : V × List Cfr × Int := if pD (FitC i l) then refBrD (planD i v l) v l else (v, l, -22)
theorem brI_yes {i : Nat} {v : V} {l : List Cfr} (h : FitC i l) : brI i v l = refBrD (planD i v l) v l := by unfold brI; rw [pD_yes h]; rfl
theorem brI_no {i : Nat} {v : V} {l : List Cfr} (h : ¬ FitC i l) : brI i v l = (v, l, -22) := by unfold brI; rw [pD_no h]; rfl
theorem take_all (l : List Cfr) : l.take (l.length - 0) = l := by simp
end Go.Proofs.YtfphgelollhdhaaGreat
namespace Go.Proofs.YtfphgelollhdhaaGreat
open Go Go.RowKit
open Go.Proofs.YtfphgelollhdhaaGreat.Dict (St Bs bs_eq encWs closed_ws)
open Go.Proofs.YtfphgelollhdhaaGreat.Mem (Mm encM encBs closed_bs encP encP_closed closed_m storeD fetchD commaD)
open Go.Proofs.YtfphgelollhdhaaGreat.Stk (encS closed_s encI_closed)
set_option maxRecDepth 100000
attribute [local irreducible] Decidable.decide awp ARun regK toK
theorem ref_bracket_i (i : Nat) (hi : i < 13) (v : V) (l : List Cfr) (name : Bs) (hn : nmC[i]? = some name) (hl : l.length ≤ 1000) (hv : ∀ c, c ∈ l → c.lv.length ≤ 60) (h : Okk v 100) : FnC Tryz.prog 67 [.agg (encV v), encLCf l, St name] (encVLE (brI i v l)) := by
 have hm : FnC Tryz.prog 98 [encLCf l, St name] (.val (.bool (pD (FitC i l)))) := by
  match i, hi with
  | 0, _ => exact may_0 l name (Option.some.inj hn).symm (by omega)
  | 1, _ => exact may_1 l name (Option.some.inj hn).symm (by omega)
  | 2, _ => exact may_2 l name (Option.some.inj hn).symm (by omega)
  | 3, _ => exact may_3 l name (Option.some.inj hn).symm (by omega)
  | 4, _ => exact may_4 l name (Option.some.inj hn).symm (by omega)
  | 5, _ => exact may_5 l name (Option.some.inj hn).symm (by omega)
  | 6, _ => exact may_6 l name (Option.some.inj hn).symm (by omega)
  | 7, _ => exact may_7 l name (Option.some.inj hn).symm (by omega)
  | 8, _ => exact may_8 l name (Option.some.inj hn).symm (by omega)
  | 9, _ => exact may_9 l name (Option.some.inj hn).symm (by omega)
  | 10, _ => exact may_10 l name (Option.some.inj hn).symm (by omega)
  | 11, _ => exact may_11 l name (Option.some.inj hn).symm (by omega)
  | 12, _ => exact may_12 l name (Option.some.inj hn).symm (by omega)
 by_cases hf : FitC i l
 ·rw [pD_yes hf] at hm
  rw [brI_yes hf]
  by_cases h4 : i < 4
  ·exact ref_bracket_yes0 i (by omega) h4 v l name hn hf hm h hl hv
  by_cases h8 : i < 8
  ·exact ref_bracket_yes4 i (by omega) h8 v l name hn hf hm h hl hv
  by_cases h12 : i < 12
  ·exact ref_bracket_yes8 i (by omega) h12 v l name hn hf hm h hl hv
  ·obtain rfl : i = 12 := by omega
   exact ref_bracket_leave v l name (Option.some.inj hn).symm hf hm h hl hv
 ·rw [pD_no hf] at hm
  rw [brI_no hf]
  exact ref_bracket_no0 v l name hm
end Go.Proofs.YtfphgelollhdhaaGreat
namespace Go.Proofs.YtfphgelollhdhaaGreat
open Go Go.RowKit
open Go.Proofs.YtfphgelollhdhaaGreat.Dict (St Bs)
open Go.Proofs.YtfphgelollhdhaaGreat.Mem (Mm commaD storeD fetchD writeD thereD cellAtD putB putB_len alignD padN)
set_option maxRecDepth 100000
structure Fl (v : V) (f : Nat → Int) (h : Nat) : Prop where
 b : v.m.b = cellsC f 256
 here : v.here = ((8 * h : Nat) : Int)
def lay (f : Nat → Int) (h : Nat) : List Int → (Nat → Int)
 | [] => f
 | a :: l => lay (updC f h a) (h + 1) l
def endsC (f : Nat → Int) (x : Int) : List Int → (Nat → Int)
 | [] => f
 | a :: l => endsC (updC f (a / 8).toNat x) x l
end Go.Proofs.YtfphgelollhdhaaGreat
namespace Go.Proofs.YtfphgelollhdhaaGreat
open Go Go.RowKit
open Go.Proofs.YtfphgelollhdhaaGreat.Dict (St Bs bs_eq encWs closed_ws)
open Go.Proofs.YtfphgelollhdhaaGreat.Mem (Mm encM encBs closed_bs encP encP_closed closed_m storeD fetchD commaD writeD alignD padN putB_len enc2m)
open Go.Proofs.YtfphgelollhdhaaGreat.Stk (encS closed_s encI_closed)
set_option maxRecDepth 100000
def v0 : V := vNew conf0
def f0 : Nat → Int := updC (valS 37) 0 10
end Go.Proofs.YtfphgelollhdhaaGreat
