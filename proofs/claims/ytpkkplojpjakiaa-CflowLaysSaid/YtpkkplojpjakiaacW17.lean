/- cX16, cX17, cX18, cX19, cX20. -/
import Derived.Test.YtpkkplojpjakiaaW1
import Derived.Test.YtpkkplojpjakiaaW2
import Derived.Test.YtpkkplojpjakiaaW3
import Derived.Test.YtpkkplojpjakiaaW4
import Derived.Test.YtpkkplojpjakiaacW5
import Derived.Test.YtpkkplojpjakiaacW6
import Derived.Test.YtpkkplojpjakiaacW7
import Derived.Test.YtpkkplojpjakiaacW8
import Derived.Test.YtpkkplojpjakiaacW9
import Derived.Test.YtpkkplojpjakiaacW10
import Derived.Test.YtpkkplojpjakiaacW11
import Derived.Test.YtpkkplojpjakiaacW12
import Derived.Test.YtpkkplojpjakiaacW13
import Derived.Test.YtpkkplojpjakiaacW14
import Derived.Test.YtpkkplojpjakiaacW15
import Derived.Test.YtpkkplojpjakiaacW16
/- cflow: the reference's LEAVE. (Printed by gcf3.py.) -/
namespace Go.Proofs.Ytpkkplojpjakiaa
set_option linter.unusedVariables false
set_option linter.unusedSimpArgs false
open Go Go.RowKit
open Go.Proofs.Ytpkkplojpjakiaa.Dict (St Bs bs_eq encWs closed_ws)
open Go.Proofs.Ytpkkplojpjakiaa.Mem (Mm encM encBs closed_bs encP encP_closed closed_m storeD fetchD commaD)
open Go.Proofs.Ytpkkplojpjakiaa.Stk (encS closed_s encI_closed)
set_option maxRecDepth 100000
theorem set_mid {l : List Cfr} {k : Nat} {c d : Cfr} (h : l[k]? = some c) : l.set k d = l.take k ++ [d] ++ l.drop (k + 1) := by
  have hk := (List.getElem?_eq_some_iff.1 h).1
  rw [List.set_eq_take_append_cons_drop, if_pos hk]
  simp
theorem Reif.mid {s : AS} {b g gen n : Nat} {L R : List Cfr} {c' : Cfr} {el : List AV} (hb : lkH s.hp b = some ⟨gen, 3, (L.map encCf ++ [el]) ++ R.map encCf⟩) (hg : gen = g) (hn : n = (L.map encCf ++ [el] ++ R.map encCf).length) (hel : RL s el (encCf c')) : Reif s (.own b g 0 n) (encLCf (L ++ [c'] ++ R)) := by
  subst hn
  refine Reif.own (blk := ⟨gen, 3, (L.map encCf ++ [el]) ++ R.map encCf⟩) (els' := (L ++ [c'] ++ R).map encCf) hb hg (by simp) (by simp) ?_ ?_
  · intro j e e' h1 h2
    rw [Nat.zero_add] at h1
    rw [List.map_append, List.map_append] at h2
    by_cases h3 : j < L.length
    · rw [List.append_assoc, List.getElem?_append_left (by simpa using h3)] at h1 h2
      rw [h1] at h2
      rw [Option.some.inj h2]
    · by_cases h4 : j = L.length
      · subst h4
        simp at h1 h2
        subst h1 h2
        exact hel.1
      · rw [List.getElem?_append_right (by simp; omega)] at h1 h2
        simp only [List.length_append, List.length_map, List.length_singleton, List.map_cons, List.map_nil] at h1 h2
        rw [h1] at h2
        rw [Option.some.inj h2]
  · intro j e e' f x x' h1 h2 h5 h6
    rw [Nat.zero_add] at h1
    rw [List.map_append, List.map_append] at h2
    have clo : e = e' → e ∈ (L ++ R).map encCf → Reif s x x' := fun h7 h8 => by
      obtain ⟨c, _, rfl⟩ := List.mem_map.1 h8
      subst h7
      rw [h5] at h6
      obtain rfl := Option.some.inj h6
      exact .closed _ (encCf_closed c _ (List.mem_of_getElem? h5))
    by_cases h3 : j < L.length
    · rw [List.append_assoc, List.getElem?_append_left (by simpa using h3)] at h1 h2
      have hm := List.mem_of_getElem? h1
      rw [h1] at h2
      exact clo (Option.some.inj h2) (by rw [List.map_append]; exact List.mem_append.2 (.inl hm))
    · by_cases h4 : j = L.length
      · subst h4
        simp at h1 h2
        subst h1 h2
        exact hel.2 f x x' h5 h6
      · rw [List.getElem?_append_right (by simp; omega)] at h1 h2
        simp only [List.length_append, List.length_map, List.length_singleton, List.map_cons, List.map_nil] at h1 h2
        have hm := List.mem_of_getElem? h1
        rw [h1] at h2
        exact clo (Option.some.inj h2) (by rw [List.map_append]; exact List.mem_append.2 (.inr hm))
attribute [local irreducible] Decidable.decide awp ARun regK toK
set_option maxHeartbeats 40000000 in
theorem ref_bracket_leave (v : V) (l : List Cfr) (name : Bs) (hn : name = [76, 69, 65, 86, 69]) (hf : FitC 12 l) (hm : FnC Try.prog 55 [encLCf l, St name] (.val (.bool true))) (h : Okk v 100) (hl : l.length ≤ 1000) (hv : ∀ c, c ∈ l → c.lv.length ≤ 60) : FnC Try.prog 26 [.agg (encV v), encLCf l, St name] (encVLE (refBrD (planD 12 v l) v l)) := by
  have e0 : (((l.map encCf).length : Nat) : Int) = l.length := by rw [List.length_map]
  have c5 := ref_cells_c v [xtD nUn, xtD nBr, 0] (by simp) (h.le (by simp))
  have o5 : Okk (cellsK v [xtD nUn, xtD nBr, 0]).v 60 := cells_okk (w := wk0 v) (k := 60) _ (h.le (by simp))
  have c6 := ref_stored_c (cellsK v [xtD nUn, xtD nBr, 0]).v [] (by simp) (o5.le (by simp))
  obtain ⟨k, c, hp0, hk, hA⟩ := loopFrom_mem (l := l) (n := l.length) hf.1
  have hcm : c ∈ l := List.mem_of_getElem? hp0
  have hcl := hv c hcm
  have hA' : loopAt l = (k : Nat) := hA
  have ePl : planD 12 v l = ([xtD nUn, xtD nBr, 0], [], l.take k ++ [⟨c.kind, c.at', c.lv ++ [v.here + 16]⟩] ++ l.drop (k + 1)) := by
    show ([xtD nUn, xtD nBr, 0], ([] : List Int), addLv l (loopAt l).toNat (v.here + 16)) = _
    rw [hA', Int.toNat_natCast]
    unfold addLv
    rw [hp0]
    dsimp only
    rw [set_mid hp0]
  rw [ePl]
  have hk1 := (List.getElem?_eq_some_iff.1 hp0).1
  have c4 := ref_loop_c l (by omega)
  rw [hA'] at c4
  have hpk := hp0
  have e1 : ((((l.take k).map encCf).length : Nat) : Int) = k := by rw [List.length_map, List.length_take]; omega
  have e2 : ((((l.take (k + 1)).map encCf).length : Nat) : Int) = k + 1 := by rw [List.length_map, List.length_take]; omega
  have e3 : ((l.drop (k + 1)).map encCf).length ≤ 1000 := by rw [List.length_map, List.length_drop]; omega
  have e4 : ((c.lv.map encI).length : Nat) ≤ 60 := by rw [List.length_map]; exact hcl
  have he1 : l.map encCf = (l.take k).map encCf ++ (l.drop k).map encCf := by rw [← List.map_append, List.take_append_drop]
  have he2 : l.map encCf = (l.take (k + 1)).map encCf ++ (l.drop (k + 1)).map encCf := by rw [← List.map_append, List.take_append_drop]
  generalize l.take k = L at *
  generalize l.drop (k + 1) = R at *
  clear ePl hA hA' hv hf
  have hb0 := h.h0
  have hb1 : v.here ≤ 1000000 := by have := h.h1; have := h.b; omega
  have x1 := ref_xt_c nUn
  have x2 := ref_xt_c nBr
  have n0 : ((ByteArray.mk name.toArray).toList == (ByteArray.mk #[73, 70]).toList) = false := by rw [bs_eq name [73, 70]]; exact decide_eq_false (by rw [hn]; simp)
  have n1 : ((ByteArray.mk name.toArray).toList == (ByteArray.mk #[69, 76, 83, 69]).toList) = false := by rw [bs_eq name [69, 76, 83, 69]]; exact decide_eq_false (by rw [hn]; simp)
  have n2 : ((ByteArray.mk name.toArray).toList == (ByteArray.mk #[84, 72, 69, 78]).toList) = false := by rw [bs_eq name [84, 72, 69, 78]]; exact decide_eq_false (by rw [hn]; simp)
  have n3 : ((ByteArray.mk name.toArray).toList == (ByteArray.mk #[66, 69, 71, 73, 78]).toList) = false := by rw [bs_eq name [66, 69, 71, 73, 78]]; exact decide_eq_false (by rw [hn]; simp)
  have n4 : ((ByteArray.mk name.toArray).toList == (ByteArray.mk #[87, 72, 73, 76, 69]).toList) = false := by rw [bs_eq name [87, 72, 73, 76, 69]]; exact decide_eq_false (by rw [hn]; simp)
  have n5 : ((ByteArray.mk name.toArray).toList == (ByteArray.mk #[82, 69, 80, 69, 65, 84]).toList) = false := by rw [bs_eq name [82, 69, 80, 69, 65, 84]]; exact decide_eq_false (by rw [hn]; simp)
  have n6 : ((ByteArray.mk name.toArray).toList == (ByteArray.mk #[85, 78, 84, 73, 76]).toList) = false := by rw [bs_eq name [85, 78, 84, 73, 76]]; exact decide_eq_false (by rw [hn]; simp)
  have n7 : ((ByteArray.mk name.toArray).toList == (ByteArray.mk #[65, 71, 65, 73, 78]).toList) = false := by rw [bs_eq name [65, 71, 65, 73, 78]]; exact decide_eq_false (by rw [hn]; simp)
  have n8 : ((ByteArray.mk name.toArray).toList == (ByteArray.mk #[68, 79]).toList) = false := by rw [bs_eq name [68, 79]]; exact decide_eq_false (by rw [hn]; simp)
  have n9 : ((ByteArray.mk name.toArray).toList == (ByteArray.mk #[63, 68, 79]).toList) = false := by rw [bs_eq name [63, 68, 79]]; exact decide_eq_false (by rw [hn]; simp)
  have n10 : ((ByteArray.mk name.toArray).toList == (ByteArray.mk #[76, 79, 79, 80]).toList) = false := by rw [bs_eq name [76, 79, 79, 80]]; exact decide_eq_false (by rw [hn]; simp)
  have n11 : ((ByteArray.mk name.toArray).toList == (ByteArray.mk #[43, 76, 79, 79, 80]).toList) = false := by rw [bs_eq name [43, 76, 79, 79, 80]]; exact decide_eq_false (by rw [hn]; simp)
  have n12 : ((ByteArray.mk name.toArray).toList == (ByteArray.mk #[76, 69, 65, 86, 69]).toList) = true := by rw [bs_eq name [76, 69, 65, 86, 69]]; exact decide_eq_true (by rw [hn])
  refine FnC.of_awp (T := tt) (ok := tok) Try.func26 (by kernel_rfl) rfl (by kernel_rfl) (closedL_cons (closedV v) (closedL_cons (closedLCf l) (closedL_cons (.val _) closedL_nil))) (fun w0 st0 => ?_)
  dsimp only [frOf]
  (repeat' (first | refine awp_seq ?_ | refine awp_block ?_ | refine awp_rg hmix ?_ | refine ARun.o rfl ?_ | refine callX (hm) rfl rfl rfl rfl ?_ | ((first | refine ARun.f ?_ | refine awp_skip ?_ | refine awp_exit ?_); dsimp only [thenA, blockA, AS.bump, List.length_cons, List.length_nil, reduceIte, Nat.reduceEqDiff]) | refine awp_cT rfl ?_ | refine awp_cF rfl ?_ | ((fail_if_success refine ARun.plain rfl ?_); first | refine ARun.kT rfl rfl rfl ?_ | refine ARun.kF rfl rfl rfl ?_)))
  refine awp_cut (T := List AV × Nat) (fun t => ⟨[(1, encLCf l), (2, St name), (3, .ptr 3 0 0 0), (6, .ptr 6 1 0 0), (10, .ptr 10 11 0 0)], [(3, some ⟨0, 23, [encV v]⟩), (6, some ⟨1, 23, [[.val (.int .i64 0), .val (.int .i64 0), .val (.int .i64 0), .val (.int .i64 0), .val (.int .i64 0), .sl 0 true [], .sl 0 true [], .val (.int .i64 0), .sl 0 true [], .sl 0 true [], .sl 0 true [], .sl 0 true [], .val (.int .i64 0), .sl 0 true [], .sl 0 true [], .val (.bool false), .sl 0 true [], .val (.int .i64 0), .val (.int .i64 0), .val (.int .i64 0), .val (.int .i64 0), .val (.int .i64 0), .sl 0 true []]]⟩), (10, some ⟨11, 3, [t.1]⟩)], t.2⟩) (fun t => True) ?_ (fun t1 _ => ?_)
  · rcases List.eq_nil_or_concat l with e | ⟨L', c', e⟩
    · subst e
      simp at hk1
    · rw [List.concat_eq_append] at e
      have el : l.length = L'.length + 1 := by rw [e]; simp
      have d : decide ((0 : Int) < (((l.map encCf).length : Nat) : Int)) = true := decide_eq_true (by omega)
      have hp : (l.map encCf)[((((l.map encCf).length : Nat) : Int) - 1).toNat]? = some (encCf c') := by
        rw [e0, el, List.getElem?_map, show (((L'.length + 1 : Nat) : Int) - 1).toNat = L'.length by omega, e]
        simp
      clear he1 he2
      (repeat' (first | refine awp_seq ?_ | refine awp_block ?_ | refine awp_rg hmix ?_ | refine ARun.o rfl ?_ | refine ARun.indexAddr rfl rfl (by omega) (by with_reducible exact hp) rfl rfl rfl rfl rfl (guardF_spec rfl) ?_ | ((first | refine ARun.f ?_ | refine awp_skip ?_ | refine awp_exit ?_); dsimp only [thenA, blockA, AS.bump, List.length_cons, List.length_nil, reduceIte, Nat.reduceEqDiff]) | refine awp_cT rfl ?_ | refine awp_cF rfl ?_ | ((fail_if_success refine ARun.plain rfl ?_); first | refine ARun.kT rfl rfl rfl ?_ | refine ARun.kF rfl rfl rfl ?_)))
      exact ⟨(_, _), ⟨⟨rfl, rfl, rfl, rfl, rfl, trivial⟩, ⟨rfl, rfl, rfl, trivial⟩, Nat.le_refl _⟩, trivial⟩
  obtain ⟨top, gc1⟩ := t1
  dsimp only
  unfold refBrD refK
  dsimp only
  by_cases b1 : (cellsK v [xtD nUn, xtD nBr, 0]).bad = 0
  case neg =>
    have d1 : ((cellsK v [xtD nUn, xtD nBr, 0]).bad != 0) = true := by simp [b1]
    rw [show outD (cellsK v [xtD nUn, xtD nBr, 0]) v = (v, (cellsK v [xtD nUn, xtD nBr, 0]).bad) from if_neg b1] at c5
    rw [heres_bad b1, if_neg b1]
    generalize cellsK v [xtD nUn, xtD nBr, 0] = k1 at *
    unfold encVE at c5
    unfold encVLE
    (repeat' (first | refine awp_seq ?_ | refine awp_block ?_ | refine awp_rg hmix ?_ | refine ARun.o rfl ?_ | refine callX (x1) rfl rfl rfl rfl ?_ | refine callX (x2) rfl rfl rfl rfl ?_ | refine callX (c4) rfl rfl rfl rfl ?_ | refine ARun.indexAddr rfl rfl (by omega) (by first | with_reducible exact get_map hp0 | with_reducible exact get_map hpk) rfl rfl rfl rfl rfl (guardF_spec rfl) ?_ | refine ARun.append_fullS rfl (by first | exact SrcA.sl rfl (.inr rfl) | exact SrcA.sl rfl (.inl rfl) | exact SrcA.ownW rfl rfl rfl rfl) rfl rfl rfl (by first | exact .inr rfl | exact .inl rfl | (right; simp; done)) (by first | exact .inr rfl | exact .inl rfl | (right; simp; done)) rfl rfl (by first | omega | (dsimp only [maxLen]; done) | (dsimp only [maxLen]; omega) | (simp only [List.length_append, List.length_map, List.length_take, List.length_drop, List.length_replicate, List.length_cons, List.length_nil, maxLen]; done) | (simp only [List.length_append, List.length_map, List.length_take, List.length_drop, List.length_replicate, List.length_cons, List.length_nil, maxLen]; omega) | (simp only [List.length_append, List.length_map, List.length_take, List.length_drop, List.length_replicate, List.length_cons, List.length_nil, maxLen] at *; done) | (simp only [List.length_append, List.length_map, List.length_take, List.length_drop, List.length_replicate, List.length_cons, List.length_nil, maxLen] at *; omega)) (by first | omega | (dsimp only [maxLen]; done) | (dsimp only [maxLen]; omega) | (simp only [List.length_append, List.length_map, List.length_take, List.length_drop, List.length_replicate, List.length_cons, List.length_nil, maxLen]; done) | (simp only [List.length_append, List.length_map, List.length_take, List.length_drop, List.length_replicate, List.length_cons, List.length_nil, maxLen]; omega) | (simp only [List.length_append, List.length_map, List.length_take, List.length_drop, List.length_replicate, List.length_cons, List.length_nil, maxLen] at *; done) | (simp only [List.length_append, List.length_map, List.length_take, List.length_drop, List.length_replicate, List.length_cons, List.length_nil, maxLen] at *; omega)) rfl (guardF_spec rfl) ?_ | refine ARun.append_ownS rfl rfl rfl rfl (by first | exact SrcA.sl rfl (.inr rfl) | exact SrcA.sl rfl (.inl rfl) | exact SrcA.ownW rfl rfl rfl rfl) rfl rfl rfl rfl rfl rfl (by first | omega | (dsimp only [maxLen]; done) | (dsimp only [maxLen]; omega) | (simp only [List.length_append, List.length_map, List.length_take, List.length_drop, List.length_replicate, List.length_cons, List.length_nil, maxLen]; done) | (simp only [List.length_append, List.length_map, List.length_take, List.length_drop, List.length_replicate, List.length_cons, List.length_nil, maxLen]; omega) | (simp only [List.length_append, List.length_map, List.length_take, List.length_drop, List.length_replicate, List.length_cons, List.length_nil, maxLen] at *; done) | (simp only [List.length_append, List.length_map, List.length_take, List.length_drop, List.length_replicate, List.length_cons, List.length_nil, maxLen] at *; omega)) (by first | omega | (dsimp only [maxLen]; done) | (dsimp only [maxLen]; omega) | (simp only [List.length_append, List.length_map, List.length_take, List.length_drop, List.length_replicate, List.length_cons, List.length_nil, maxLen]; done) | (simp only [List.length_append, List.length_map, List.length_take, List.length_drop, List.length_replicate, List.length_cons, List.length_nil, maxLen]; omega) | (simp only [List.length_append, List.length_map, List.length_take, List.length_drop, List.length_replicate, List.length_cons, List.length_nil, maxLen] at *; done) | (simp only [List.length_append, List.length_map, List.length_take, List.length_drop, List.length_replicate, List.length_cons, List.length_nil, maxLen] at *; omega)) rfl (guardF_spec rfl) ?_ | refine callW (c5) rfl (by (repeat (refine WkL.cons (by first | exact Wk.same _ | exact Wk.nilSl | exact Wk.weak _ _ _ | exact Wk.aggL (by (repeat (refine WkL.cons (by first | exact Wk.same _ | exact Wk.nilSl | exact Wk.weak _ _ _) ?_)); exact WkL.nil)) ?_)); exact WkL.nil) rfl rfl ?_ | refine ARun.buildSliceO rfl rfl rfl rfl rfl rfl rfl (buildSF_spec rfl) rfl (guardF_spec rfl) ?_ | refine ARun.sliceTo rfl he1 rfl (by first | omega | (dsimp only [maxLen]; done) | (dsimp only [maxLen]; omega) | (simp only [List.length_append, List.length_map, List.length_take, List.length_drop, List.length_replicate, List.length_cons, List.length_nil, maxLen]; done) | (simp only [List.length_append, List.length_map, List.length_take, List.length_drop, List.length_replicate, List.length_cons, List.length_nil, maxLen]; omega) | (simp only [List.length_append, List.length_map, List.length_take, List.length_drop, List.length_replicate, List.length_cons, List.length_nil, maxLen] at *; done) | (simp only [List.length_append, List.length_map, List.length_take, List.length_drop, List.length_replicate, List.length_cons, List.length_nil, maxLen] at *; omega)) rfl rfl rfl rfl rfl (guardF_spec rfl) ?_ | refine ARun.sliceFrom rfl he2 rfl (by first | omega | (dsimp only [maxLen]; done) | (dsimp only [maxLen]; omega) | (simp only [List.length_append, List.length_map, List.length_take, List.length_drop, List.length_replicate, List.length_cons, List.length_nil, maxLen]; done) | (simp only [List.length_append, List.length_map, List.length_take, List.length_drop, List.length_replicate, List.length_cons, List.length_nil, maxLen]; omega) | (simp only [List.length_append, List.length_map, List.length_take, List.length_drop, List.length_replicate, List.length_cons, List.length_nil, maxLen] at *; done) | (simp only [List.length_append, List.length_map, List.length_take, List.length_drop, List.length_replicate, List.length_cons, List.length_nil, maxLen] at *; omega)) rfl rfl rfl rfl rfl (guardF_spec rfl) ?_ | ((first | refine ARun.f ?_ | refine awp_skip ?_ | refine awp_exit ?_); dsimp only [thenA, blockA, AS.bump, List.length_cons, List.length_nil, reduceIte, Nat.reduceEqDiff]) | refine awp_cT rfl ?_ | refine awp_cF rfl ?_ | ((fail_if_success refine ARun.plain rfl ?_); first | refine ARun.kT rfl rfl rfl ?_ | refine ARun.kF rfl rfl rfl ?_)))
    exact awp_ret ⟨_, ResL.cons (ResA.agg rfl rfl rfl rfl rfl rfl rfl (RL.allClosed (encV_closed _))) (ResL.cons (ResA.tmp (.closed _ (closedLCf _))) (ResL.cons (ResA.tmp (.val _)) .nil)), rfl⟩
  have d1 : ((0 : Int) != 0) = false := by simp
  rw [show outD (cellsK v [xtD nUn, xtD nBr, 0]) v = ((cellsK v [xtD nUn, xtD nBr, 0]).v, 0) from if_pos b1] at c5
  have e7 : heresD (cellsK v [xtD nUn, xtD nBr, 0]) [] = storK (cellsK v [xtD nUn, xtD nBr, 0]).v [] := congrArg (fun w => heresD w []) (cellsK_ok b1)
  rw [e7]
  generalize cellsK v [xtD nUn, xtD nBr, 0] = k1 at *
  have c6' : FnC Try.prog 58 [.agg (encV k1.v), encS []] (encVE (k1.v, 0)) := c6
  clear c6 e7
  rw [show storK k1.v [] = wk0 k1.v from rfl]
  rw [if_pos (show (wk0 k1.v).bad = 0 from rfl)]
  have e9 : encS (c.lv ++ [v.here + 16]) = .sl 1 false (c.lv.map encI ++ [encI (v.here + 16)]) := by simp [encS]
  show awp _ _ _ _
  unfold encVE at c5 c6'
  unfold encVLE
  generalize xtD nUn = y1 at *
  generalize xtD nBr = y2 at *
  (repeat' (first | refine awp_seq ?_ | refine awp_block ?_ | refine awp_rg hmix ?_ | refine ARun.o rfl ?_ | refine callX (x1) rfl rfl rfl rfl ?_ | refine callX (x2) rfl rfl rfl rfl ?_ | refine callX (c4) rfl rfl rfl rfl ?_ | refine ARun.indexAddr rfl rfl (by omega) (by first | with_reducible exact get_map hp0 | with_reducible exact get_map hpk) rfl rfl rfl rfl rfl (guardF_spec rfl) ?_ | refine ARun.append_fullS rfl (by first | exact SrcA.sl rfl (.inr rfl) | exact SrcA.sl rfl (.inl rfl) | exact SrcA.ownW rfl rfl rfl rfl) rfl rfl rfl (by first | exact .inr rfl | exact .inl rfl | (right; simp; done)) (by first | exact .inr rfl | exact .inl rfl | (right; simp; done)) rfl rfl (by first | omega | (dsimp only [maxLen]; done) | (dsimp only [maxLen]; omega) | (simp only [List.length_append, List.length_map, List.length_take, List.length_drop, List.length_replicate, List.length_cons, List.length_nil, maxLen]; done) | (simp only [List.length_append, List.length_map, List.length_take, List.length_drop, List.length_replicate, List.length_cons, List.length_nil, maxLen]; omega) | (simp only [List.length_append, List.length_map, List.length_take, List.length_drop, List.length_replicate, List.length_cons, List.length_nil, maxLen] at *; done) | (simp only [List.length_append, List.length_map, List.length_take, List.length_drop, List.length_replicate, List.length_cons, List.length_nil, maxLen] at *; omega)) (by first | omega | (dsimp only [maxLen]; done) | (dsimp only [maxLen]; omega) | (simp only [List.length_append, List.length_map, List.length_take, List.length_drop, List.length_replicate, List.length_cons, List.length_nil, maxLen]; done) | (simp only [List.length_append, List.length_map, List.length_take, List.length_drop, List.length_replicate, List.length_cons, List.length_nil, maxLen]; omega) | (simp only [List.length_append, List.length_map, List.length_take, List.length_drop, List.length_replicate, List.length_cons, List.length_nil, maxLen] at *; done) | (simp only [List.length_append, List.length_map, List.length_take, List.length_drop, List.length_replicate, List.length_cons, List.length_nil, maxLen] at *; omega)) rfl (guardF_spec rfl) ?_ | refine ARun.append_ownS rfl rfl rfl rfl (by first | exact SrcA.sl rfl (.inr rfl) | exact SrcA.sl rfl (.inl rfl) | exact SrcA.ownW rfl rfl rfl rfl) rfl rfl rfl rfl rfl rfl (by first | omega | (dsimp only [maxLen]; done) | (dsimp only [maxLen]; omega) | (simp only [List.length_append, List.length_map, List.length_take, List.length_drop, List.length_replicate, List.length_cons, List.length_nil, maxLen]; done) | (simp only [List.length_append, List.length_map, List.length_take, List.length_drop, List.length_replicate, List.length_cons, List.length_nil, maxLen]; omega) | (simp only [List.length_append, List.length_map, List.length_take, List.length_drop, List.length_replicate, List.length_cons, List.length_nil, maxLen] at *; done) | (simp only [List.length_append, List.length_map, List.length_take, List.length_drop, List.length_replicate, List.length_cons, List.length_nil, maxLen] at *; omega)) (by first | omega | (dsimp only [maxLen]; done) | (dsimp only [maxLen]; omega) | (simp only [List.length_append, List.length_map, List.length_take, List.length_drop, List.length_replicate, List.length_cons, List.length_nil, maxLen]; done) | (simp only [List.length_append, List.length_map, List.length_take, List.length_drop, List.length_replicate, List.length_cons, List.length_nil, maxLen]; omega) | (simp only [List.length_append, List.length_map, List.length_take, List.length_drop, List.length_replicate, List.length_cons, List.length_nil, maxLen] at *; done) | (simp only [List.length_append, List.length_map, List.length_take, List.length_drop, List.length_replicate, List.length_cons, List.length_nil, maxLen] at *; omega)) rfl (guardF_spec rfl) ?_ | refine callW (c5) rfl (by (repeat (refine WkL.cons (by first | exact Wk.same _ | exact Wk.nilSl | exact Wk.weak _ _ _ | exact Wk.aggL (by (repeat (refine WkL.cons (by first | exact Wk.same _ | exact Wk.nilSl | exact Wk.weak _ _ _) ?_)); exact WkL.nil)) ?_)); exact WkL.nil) rfl rfl ?_ | refine callW (c6') rfl (by (repeat (refine WkL.cons (by first | exact Wk.same _ | exact Wk.nilSl | exact Wk.weak _ _ _ | exact Wk.aggL (by (repeat (refine WkL.cons (by first | exact Wk.same _ | exact Wk.nilSl | exact Wk.weak _ _ _) ?_)); exact WkL.nil)) ?_)); exact WkL.nil) rfl rfl ?_ | refine ARun.buildSliceO rfl rfl rfl rfl rfl rfl rfl (buildSF_spec rfl) rfl (guardF_spec rfl) ?_ | refine ARun.sliceTo rfl he1 rfl (by first | omega | (dsimp only [maxLen]; done) | (dsimp only [maxLen]; omega) | (simp only [List.length_append, List.length_map, List.length_take, List.length_drop, List.length_replicate, List.length_cons, List.length_nil, maxLen]; done) | (simp only [List.length_append, List.length_map, List.length_take, List.length_drop, List.length_replicate, List.length_cons, List.length_nil, maxLen]; omega) | (simp only [List.length_append, List.length_map, List.length_take, List.length_drop, List.length_replicate, List.length_cons, List.length_nil, maxLen] at *; done) | (simp only [List.length_append, List.length_map, List.length_take, List.length_drop, List.length_replicate, List.length_cons, List.length_nil, maxLen] at *; omega)) rfl rfl rfl rfl rfl (guardF_spec rfl) ?_ | refine ARun.sliceFrom rfl he2 rfl (by first | omega | (dsimp only [maxLen]; done) | (dsimp only [maxLen]; omega) | (simp only [List.length_append, List.length_map, List.length_take, List.length_drop, List.length_replicate, List.length_cons, List.length_nil, maxLen]; done) | (simp only [List.length_append, List.length_map, List.length_take, List.length_drop, List.length_replicate, List.length_cons, List.length_nil, maxLen]; omega) | (simp only [List.length_append, List.length_map, List.length_take, List.length_drop, List.length_replicate, List.length_cons, List.length_nil, maxLen] at *; done) | (simp only [List.length_append, List.length_map, List.length_take, List.length_drop, List.length_replicate, List.length_cons, List.length_nil, maxLen] at *; omega)) rfl rfl rfl rfl rfl (guardF_spec rfl) ?_ | ((first | refine ARun.f ?_ | refine awp_skip ?_ | refine awp_exit ?_); dsimp only [thenA, blockA, AS.bump, List.length_cons, List.length_nil, reduceIte, Nat.reduceEqDiff]) | refine awp_cT rfl ?_ | refine awp_cF rfl ?_ | ((fail_if_success refine ARun.plain rfl ?_); first | refine ARun.kT rfl rfl rfl ?_ | refine ARun.kF rfl rfl rfl ?_)))
  exact awp_ret ⟨_, ResL.cons (ResA.agg rfl rfl rfl rfl rfl rfl rfl (RL.allClosed (encV_closed _))) (ResL.cons (ResA.tmp (Reif.mid (L := L) (R := R) (c' := ⟨c.kind, c.at', c.lv ++ [v.here + 16]⟩) rfl rfl rfl (RL.cons (.val _) (RL.cons (.val _) (RL.cons (by rw [e9]; exact Reif.owned rfl rfl rfl (own_closed_app encI_closed (encI_closed _))) (RL.nil _)))))) (ResL.cons (ResA.tmp (.val _)) .nil)), rfl⟩
end Go.Proofs.Ytpkkplojpjakiaa
/- cflow: brackets: what the program does is what the document says. No program here. -/
namespace Go.Proofs.Ytpkkplojpjakiaa
set_option linter.unusedVariables false
set_option linter.unusedSimpArgs false
open Go Go.RowKit
open Go.Proofs.Ytpkkplojpjakiaa.Dict (St Bs)
open Go.Proofs.Ytpkkplojpjakiaa.Mem (commaD)
set_option maxRecDepth 100000
def setL (w : Kw) (l : List Cfr) : Kw := ⟨w.v, l, w.bad⟩
theorem setL_wk0 (v : V) (l : List Cfr) : (⟨v, l, 0⟩ : Kw) = setL (wk0 v) l := rfl
theorem cell_setL (w : Kw) (l : List Cfr) (n : Int) : cellD (setL w l) n = setL (cellD w n) l := by unfold cellD setL; split <;> rfl
theorem here_setL (w : Kw) (l : List Cfr) (n : Int) : hereD (setL w l) n = setL (hereD w n) l := by unfold hereD setL; split <;> rfl
theorem heres_setL : ∀ (ns : List Int) (w : Kw) (l : List Cfr), heresD (setL w l) ns = setL (heresD w ns) l
  | [], w, l => rfl
  | a :: ns, w, l => by
    show heresD (hereD (setL w l) a) ns = setL (heresD (hereD w a) ns) l
    rw [here_setL, heres_setL ns]
theorem open_setL (w : Kw) (l : List Cfr) (c : Cfr) (h : l.length < 32) : openD (setL w l) c = setL w (l ++ [c]) := by
  unfold openD
  exact if_neg (by show ¬ 32 ≤ l.length; omega)
theorem lastK_lastC (l : List Cfr) : lastK l 0 = (lastC l).kind := by
  rcases List.eq_nil_or_concat l with e | ⟨L, c, e⟩
  · subst e; rfl
  · rw [List.concat_eq_append] at e
    subst e
    rw [lastC_snoc]
    simp [lastK]
theorem close_yes (w : Kw) (l : List Cfr) (k : Int) (hk : k ≠ 0) (h : lastK l 0 = k) : closeD (setL w l) k = (setL w (l.take (l.length - 1)), lastC l) := by
  unfold closeD
  rw [if_pos ⟨fun e => hk (by rw [← h, show l = [] from e]; rfl), by rw [← lastK_lastC]; exact h⟩, ← List.dropLast_eq_take]
  rfl
theorem close_bad (w : Kw) (l : List Cfr) (k : Int) (h : lastK l 0 ≠ k) (hw : w.bad = 0) : (closeD (setL w l) k).1.bad = -22 := by
  unfold closeD
  rw [if_neg (fun e => h (by rw [lastK_lastC]; exact e.2))]
  unfold failD
  rw [if_pos (show (setL w l).bad = 0 from hw)]
theorem bad_cell {w : Kw} {e : Int} (h : w.bad = e) (he : e ≠ 0) (n : Int) : (cellD w n).bad = e := by rw [cellD_bad (by rw [h]; exact he)]; exact h
theorem bad_here {w : Kw} {e : Int} (h : w.bad = e) (he : e ≠ 0) (n : Int) : (hereD w n).bad = e := by rw [hereD_bad (by rw [h]; exact he)]; exact h
theorem bad_heres {w : Kw} {e : Int} (h : w.bad = e) (he : e ≠ 0) (n : List Int) : (heresD w n).bad = e := by rw [heres_bad (by rw [h]; exact he)]; exact h
theorem bad_open {w : Kw} {e : Int} (h : w.bad = e) (he : e ≠ 0) (c : Cfr) : (openD w c).bad = e := by
  unfold openD
  split
  · unfold failD
    rw [if_neg (by rw [h]; exact he)]
    exact h
  · exact h
theorem bad_close {w : Kw} {e : Int} (h : w.bad = e) (he : e ≠ 0) (k : Int) : (closeD w k).1.bad = e := by
  unfold closeD
  split
  · exact h
  · unfold failD
    rw [if_neg (by rw [h]; exact he)]
    exact h
theorem done_bad {w : Kw} (h : w.bad = -22) (v : V) (l : List Cfr) : doneD w v l = (v, l, -22) := by
  unfold doneD
  rw [if_neg (by rw [h]; decide), h]
theorem done_ref {w : Kw} {out : List Cfr} {pl : List Int × List Int × List Cfr} {v : V} (l : List Cfr) (hw : w = setL (refK pl v) out) (ho : (refK pl v).bad = 0 → out = pl.2.2) : doneD w v l = refBrD pl v l := by
  subst hw
  unfold doneD refBrD
  by_cases h : (refK pl v).bad = 0
  · rw [if_pos h, if_pos (show (setL (refK pl v) out).bad = 0 from h), ← ho h]
    rfl
  · rw [if_neg h, if_neg (show ¬ (setL (refK pl v) out).bad = 0 from h)]
    rfl
theorem comma_here {m : Mem.Mm} {h n : Int} (hz : (commaD m h n).2.2 = 0) : (commaD m h n).2.1 = h + 8 := by
  unfold commaD at hz ⊢
  split
  · rename_i h1
    rw [if_pos h1] at hz
    cases hz
  · rename_i h1
    rw [if_neg h1] at hz
    unfold Mem.layD at hz ⊢
    split
    · rename_i h2
      rw [if_pos h2] at hz
      cases hz
    · dsimp only
      rw [Mem.putB_len]
      rfl
theorem cell_ok0 {w : Kw} {n : Int} (h : (cellD w n).bad = 0) : w.bad = 0 := by
  by_cases h0 : w.bad = 0
  · exact h0
  · rw [cellD_bad h0] at h
    exact h
theorem cell_here {w : Kw} {n : Int} (h : (cellD w n).bad = 0) : (cellD w n).v.here = w.v.here + 8 := by
  have h0 := cell_ok0 h
  unfold cellD at h ⊢
  rw [if_pos h0] at h ⊢
  exact comma_here h
noncomputable def brI (i : Nat) (v : V) (l : List Cfr) : V × List Cfr × Int := if pD (FitC i l) then refBrD (planD i v l) v l else (v, l, -22)
theorem brI_yes {i : Nat} {v : V} {l : List Cfr} (h : FitC i l) : brI i v l = refBrD (planD i v l) v l := by unfold brI; rw [pD_yes h]; rfl
theorem brI_no {i : Nat} {v : V} {l : List Cfr} (h : ¬ FitC i l) : brI i v l = (v, l, -22) := by unfold brI; rw [pD_no h]; rfl
def stepK (i : Nat) (w : Kw) : Kw := match i with
  | 0 => onIfD w
  | 1 => onElseD w
  | 2 => onThenD w
  | 3 => onBeginD w
  | 4 => onWhileD w
  | 5 => onRepeatD w
  | 6 => backD w nZb
  | 7 => backD w nBr
  | 8 => onDoD w
  | 9 => onAskD w
  | 10 => endD w nLp
  | 11 => endD w nPl
  | _ => onLeaveD w
theorem take_all (l : List Cfr) : l.take (l.length - 0) = l := by simp
theorem step_0 (v : V) (l : List Cfr) (h : l.length < 32) : doneD (stepK 0 ⟨v, l, 0⟩) v l = brI 0 v l := by
  rw [brI_yes (show FitC 0 l from h)]
  refine done_ref (out := l ++ [⟨1, (cellD (wk0 v) (xtD nZb)).v.here, []⟩]) l ?_ (fun hb => ?_)
  · show openD (cellD (cellD ⟨v, l, 0⟩ (xtD nZb)) 0) ⟨1, (cellD ⟨v, l, 0⟩ (xtD nZb)).v.here, []⟩ = _
    rw [setL_wk0, cell_setL, cell_setL, open_setL _ _ _ h]
    rfl
  · have h1 := cell_here (cell_ok0 (w := cellD (wk0 v) (xtD nZb)) (n := 0) hb)
    show _ = l.take (l.length - 0) ++ _
    rw [take_all, h1]
    rfl
theorem step_1 (v : V) (l : List Cfr) (hl : l.length ≤ 32) : doneD (stepK 1 ⟨v, l, 0⟩) v l = brI 1 v l := by
  by_cases hf : lastK l 0 = 1
  · rw [brI_yes (show FitC 1 l from hf)]
    have hlen : (l.take (l.length - 1)).length < 32 := by rw [List.length_take]; omega
    refine done_ref (out := l.take (l.length - 1) ++ [⟨1, (cellD (wk0 v) (xtD nBr)).v.here, []⟩]) l ?_ (fun hb => ?_)
    · show onElseD ⟨v, l, 0⟩ = _
      unfold onElseD
      rw [setL_wk0, close_yes _ _ _ (by decide) hf]
      dsimp only
      rw [cell_setL, cell_setL, here_setL, open_setL _ _ _ hlen]
      rfl
    · have h1 : (cellD (cellD (wk0 v) (xtD nBr)) 0).bad = 0 := by
        by_cases h0 : (cellD (cellD (wk0 v) (xtD nBr)) 0).bad = 0
        · exact h0
        · have hb' : (hereD (cellD (cellD (wk0 v) (xtD nBr)) 0) (lastC l).at').bad = 0 := hb
          rw [hereD_bad h0] at hb'
          exact hb'
      rw [cell_here (cell_ok0 h1)]
      rfl
  · rw [brI_no (show ¬ FitC 1 l from hf)]
    have hc := close_bad (wk0 v) l 1 hf rfl
    refine done_bad ?_ v l
    show (onElseD (setL (wk0 v) l)).bad = -22
    unfold onElseD
    exact bad_open (bad_here (bad_cell (bad_cell hc (by decide) _) (by decide) _) (by decide) _) (by decide) _
theorem step_2 (v : V) (l : List Cfr) : doneD (stepK 2 ⟨v, l, 0⟩) v l = brI 2 v l := by
  by_cases hf : lastK l 0 = 1
  · rw [brI_yes (show FitC 2 l from hf)]
    refine done_ref (out := l.take (l.length - 1)) l ?_ (fun hb => (List.append_nil _).symm)
    show onThenD ⟨v, l, 0⟩ = _
    unfold onThenD
    rw [setL_wk0, close_yes _ _ _ (by decide) hf]
    dsimp only
    rw [here_setL]
    rfl
  · rw [brI_no (show ¬ FitC 2 l from hf)]
    have hc := close_bad (wk0 v) l 1 hf rfl
    refine done_bad ?_ v l
    show (onThenD (setL (wk0 v) l)).bad = -22
    unfold onThenD
    exact bad_here hc (by decide) _
theorem step_3 (v : V) (l : List Cfr) (h : l.length < 32) : doneD (stepK 3 ⟨v, l, 0⟩) v l = brI 3 v l := by
  rw [brI_yes (show FitC 3 l from h)]
  refine done_ref (out := l ++ [⟨2, v.here, []⟩]) l ?_ (fun hb => ?_)
  · show openD ⟨v, l, 0⟩ ⟨2, v.here, []⟩ = _
    rw [setL_wk0, open_setL _ _ _ h]
    rfl
  · show _ = l.take (l.length - 0) ++ _
    rw [take_all]
theorem step_4 (v : V) (l : List Cfr) (h : l.length < 32) : doneD (stepK 4 ⟨v, l, 0⟩) v l = brI 4 v l := by
  by_cases hf : lastK l 0 = 2
  · rw [brI_yes (show FitC 4 l from ⟨hf, h⟩)]
    have hne : l ≠ [] := fun e => by rw [e] at hf; cases hf
    have hpos := List.length_pos_iff.2 hne
    have hlen : (l.take (l.length - 1)).length < 31 := by rw [List.length_take]; omega
    refine done_ref (out := l.take (l.length - 1) ++ [⟨1, (cellD (wk0 v) (xtD nZb)).v.here, []⟩] ++ [lastC l]) l ?_ (fun hb => ?_)
    · show onWhileD ⟨v, l, 0⟩ = _
      unfold onWhileD
      rw [setL_wk0, close_yes _ _ _ (by decide) hf]
      dsimp only
      rw [cell_setL, cell_setL, open_setL _ _ _ (by omega), open_setL _ _ _ (by simp only [List.length_append, List.length_singleton]; omega)]
      rfl
    · have h1 := cell_here (cell_ok0 (w := cellD (wk0 v) (xtD nZb)) (n := 0) hb)
      rw [h1, List.append_assoc]
      rfl
  · rw [brI_no (fun e : FitC 4 l => hf e.1)]
    have hc := close_bad (wk0 v) l 2 hf rfl
    refine done_bad ?_ v l
    show (onWhileD (setL (wk0 v) l)).bad = -22
    unfold onWhileD
    exact bad_open (bad_open (bad_cell (bad_cell hc (by decide) _) (by decide) _) (by decide) _) (by decide) _
theorem lastK_drop {l : List Cfr} (h : lastK l 0 ≠ 0) : lastK (l.take (l.length - 1)) 0 = lastK l 1 ∧ ((lastK l 1 ≠ 0) → lastC (l.take (l.length - 1)) = l[l.length - 2]?.getD cf0) := by
  obtain ⟨L, c, e, hk⟩ := lastK_0 h
  subst e
  have e1 : (L ++ [c]).take ((L ++ [c]).length - 1) = L := by simp
  rw [e1]
  rcases List.eq_nil_or_concat L with e | ⟨M, d, e⟩
  · subst e
    exact ⟨rfl, fun h => absurd rfl h⟩
  · rw [List.concat_eq_append] at e
    subst e
    refine ⟨?_, fun _ => ?_⟩
    · simp [lastK]
    · rw [lastC_snoc]
      simp
theorem step_5 (v : V) (l : List Cfr) : doneD (stepK 5 ⟨v, l, 0⟩) v l = brI 5 v l := by
  by_cases hf : lastK l 0 = 2
  · obtain ⟨h1, h2⟩ := lastK_drop (l := l) (by rw [hf]; decide)
    by_cases hg : lastK l 1 = 1
    · rw [brI_yes (show FitC 5 l from ⟨hf, hg⟩)]
      refine done_ref (out := l.take (l.length - 2)) l ?_ (fun hb => (List.append_nil _).symm)
      show onRepeatD ⟨v, l, 0⟩ = _
      unfold onRepeatD
      rw [setL_wk0, close_yes _ _ _ (by decide) hf]
      dsimp only
      rw [close_yes _ _ _ (by decide) (by rw [h1]; exact hg)]
      dsimp only
      rw [h2 (by rw [hg]; decide), cell_setL, cell_setL, here_setL]
      rw [List.take_take, List.length_take, show min (min (l.length - 1) l.length - 1) (l.length - 1) = l.length - 2 by omega]
      rfl
    · rw [brI_no (fun e : FitC 5 l => hg e.2)]
      refine done_bad ?_ v l
      show (onRepeatD (setL (wk0 v) l)).bad = -22
      unfold onRepeatD
      rw [close_yes _ _ _ (by decide) hf]
      have hc := close_bad (wk0 v) (l.take (l.length - 1)) 1 (by rw [h1]; exact hg) rfl
      exact bad_here (bad_cell (bad_cell hc (by decide) _) (by decide) _) (by decide) _
  · rw [brI_no (fun e : FitC 5 l => hf e.1)]
    have hc := close_bad (wk0 v) l 2 hf rfl
    refine done_bad ?_ v l
    show (onRepeatD (setL (wk0 v) l)).bad = -22
    unfold onRepeatD
    exact bad_here (bad_cell (bad_cell (bad_close hc (by decide) _) (by decide) _) (by decide) _) (by decide) _
theorem step_back (i : Nat) (nm : Bs) (v : V) (l : List Cfr) (hfit : FitC i l ↔ lastK l 0 = 2) (hpl : planD i v l = ([xtD nm, (lastC l).at'], [], l.take (l.length - 1) ++ [])) : doneD (backD ⟨v, l, 0⟩ nm) v l = brI i v l := by
  by_cases hf : lastK l 0 = 2
  · rw [brI_yes (hfit.2 hf), hpl]
    refine done_ref (out := l.take (l.length - 1)) l ?_ (fun hb => (List.append_nil _).symm)
    unfold backD
    rw [setL_wk0, close_yes _ _ _ (by decide) hf]
    dsimp only
    rw [cell_setL, cell_setL]
    rfl
  · rw [brI_no (fun e => hf (hfit.1 e))]
    have hc := close_bad (wk0 v) l 2 hf rfl
    refine done_bad ?_ v l
    show (backD (setL (wk0 v) l) nm).bad = -22
    unfold backD
    exact bad_cell (bad_cell hc (by decide) _) (by decide) _
theorem step_8 (v : V) (l : List Cfr) (h : l.length < 32) : doneD (stepK 8 ⟨v, l, 0⟩) v l = brI 8 v l := by
  rw [brI_yes (show FitC 8 l from h)]
  refine done_ref (out := l ++ [⟨3, (cellD (wk0 v) (xtD nDo)).v.here, []⟩]) l ?_ (fun hb => ?_)
  · show openD (cellD ⟨v, l, 0⟩ (xtD nDo)) ⟨3, (cellD ⟨v, l, 0⟩ (xtD nDo)).v.here, []⟩ = _
    rw [setL_wk0, cell_setL, open_setL _ _ _ h]
    rfl
  · have h1 := cell_here (w := wk0 v) (n := xtD nDo) hb
    show _ = l.take (l.length - 0) ++ _
    rw [take_all, h1]
    rfl
theorem step_9 (v : V) (l : List Cfr) (h : l.length < 32) : doneD (stepK 9 ⟨v, l, 0⟩) v l = brI 9 v l := by
  rw [brI_yes (show FitC 9 l from h)]
  refine done_ref (out := l ++ [⟨3, (cellD (cellD (wk0 v) (xtD nQdo)) 0).v.here, [(cellD (wk0 v) (xtD nQdo)).v.here]⟩]) l ?_ (fun hb => ?_)
  · show openD (cellD (cellD ⟨v, l, 0⟩ (xtD nQdo)) 0) ⟨3, (cellD (cellD ⟨v, l, 0⟩ (xtD nQdo)) 0).v.here, [(cellD ⟨v, l, 0⟩ (xtD nQdo)).v.here]⟩ = _
    rw [setL_wk0, cell_setL, cell_setL, open_setL _ _ _ h]
    rfl
  · have hb2 : (cellD (cellD (wk0 v) (xtD nQdo)) 0).bad = 0 := hb
    have h1 := cell_here (cell_ok0 hb2)
    have h2 := cell_here hb2
    show _ = l.take (l.length - 0) ++ _
    rw [take_all, h2, h1, show (wk0 v).v.here + 8 + 8 = v.here + 16 by show v.here + 8 + 8 = _; omega]
    rfl
theorem step_end (i : Nat) (nm : Bs) (v : V) (l : List Cfr) (hfit : FitC i l ↔ lastK l 0 = 3) (hpl : planD i v l = ([xtD nm, (lastC l).at'], (lastC l).lv, l.take (l.length - 1) ++ [])) : doneD (endD ⟨v, l, 0⟩ nm) v l = brI i v l := by
  by_cases hf : lastK l 0 = 3
  · rw [brI_yes (hfit.2 hf), hpl]
    refine done_ref (out := l.take (l.length - 1)) l ?_ (fun hb => (List.append_nil _).symm)
    unfold endD
    rw [setL_wk0, close_yes _ _ _ (by decide) hf]
    dsimp only
    rw [cell_setL, cell_setL, heres_setL]
    rfl
  · rw [brI_no (fun e => hf (hfit.1 e))]
    have hc := close_bad (wk0 v) l 3 hf rfl
    refine done_bad ?_ v l
    show (endD (setL (wk0 v) l) nm).bad = -22
    unfold endD
    exact bad_heres (bad_cell (bad_cell hc (by decide) _) (by decide) _) (by decide) _
theorem step_12 (v : V) (l : List Cfr) : doneD (stepK 12 ⟨v, l, 0⟩) v l = brI 12 v l := by
  by_cases hf : FitC 12 l
  · rw [brI_yes (show FitC 12 l from hf)]
    have h1 : 0 ≤ loopAt l ∧ leavesAt l (loopAt l) < 32 := hf
    refine done_ref (out := addLv l (loopAt l).toNat (cellD (cellD (wk0 v) (xtD nUn)) (xtD nBr)).v.here) l ?_ (fun hb => ?_)
    · show onLeaveD ⟨v, l, 0⟩ = _
      unfold onLeaveD
      rw [if_neg (by show ¬ (loopAt l < 0 ∨ 32 ≤ leavesAt l (loopAt l)); omega), setL_wk0, cell_setL, cell_setL, cell_setL]
      rfl
    · have hb2 : (cellD (cellD (cellD (wk0 v) (xtD nUn)) (xtD nBr)) 0).bad = 0 := hb
      have h2 := cell_here (cell_ok0 hb2)
      have h3 := cell_here (cell_ok0 (cell_ok0 hb2))
      rw [h2, h3, show (wk0 v).v.here + 8 + 8 = v.here + 16 by show v.here + 8 + 8 = _; omega]
      rfl
  · rw [brI_no (show ¬ FitC 12 l from hf)]
    have h1 : ¬ (0 ≤ loopAt l ∧ leavesAt l (loopAt l) < 32) := hf
    refine done_bad ?_ v l
    show (onLeaveD ⟨v, l, 0⟩).bad = -22
    unfold onLeaveD
    rw [if_pos (by show loopAt l < 0 ∨ 32 ≤ leavesAt l (loopAt l); omega)]
    rfl
theorem step_all (i : Nat) (hi : i < 13) (v : V) (l : List Cfr) (hl : l.length ≤ 32) (h : i = 0 ∨ i = 3 ∨ i = 4 ∨ i = 8 ∨ i = 9 → l.length < 32) : doneD (stepK i ⟨v, l, 0⟩) v l = brI i v l := by
  match i, hi with
  | 0, _ => exact step_0 v l (h (by omega))
  | 1, _ => exact step_1 v l hl
  | 2, _ => exact step_2 v l
  | 3, _ => exact step_3 v l (h (by omega))
  | 4, _ => exact step_4 v l (h (by omega))
  | 5, _ => exact step_5 v l
  | 6, _ => exact step_back 6 nZb v l Iff.rfl rfl
  | 7, _ => exact step_back 7 nBr v l Iff.rfl rfl
  | 8, _ => exact step_8 v l (h (by omega))
  | 9, _ => exact step_9 v l (h (by omega))
  | 10, _ => exact step_end 10 nLp v l Iff.rfl rfl
  | 11, _ => exact step_end 11 nPl v l Iff.rfl rfl
  | 12, _ => exact step_12 v l
theorem full_no (i : Nat) (v : V) (l : List Cfr) (hi : i = 0 ∨ i = 3 ∨ i = 4 ∨ i = 8 ∨ i = 9) (h : 32 ≤ l.length) : brI i v l = (v, l, -22) := by
  refine brI_no (fun e => ?_)
  rcases hi with rfl | rfl | rfl | rfl | rfl
  · have : l.length < 32 := e; omega
  · have : l.length < 32 := e; omega
  · have : lastK l 0 = 2 ∧ l.length < 32 := e; omega
  · have : l.length < 32 := e; omega
  · have : l.length < 32 := e; omega
end Go.Proofs.Ytpkkplojpjakiaa
/- cflow: brackets of the program, and of the reference. (Printed by gcf4.py.) -/
namespace Go.Proofs.Ytpkkplojpjakiaa
set_option linter.unusedVariables false
set_option linter.unusedSimpArgs false
open Go Go.RowKit
open Go.Proofs.Ytpkkplojpjakiaa.Dict (St Bs bs_eq encWs closed_ws)
open Go.Proofs.Ytpkkplojpjakiaa.Mem (Mm encM encBs closed_bs encP encP_closed closed_m storeD fetchD commaD)
open Go.Proofs.Ytpkkplojpjakiaa.Stk (encS closed_s encI_closed)
set_option maxRecDepth 100000
attribute [local irreducible] Decidable.decide awp ARun regK toK
theorem bracket_of (i : Nat) (hi : i < 13) (v : V) (l : List Cfr) (name : Bs) (f : Nat) (hl : l.length ≤ 32) (hkey : keyAt .string (kStr name) (nmC.map kStr) 0 = some i) (hval : fnC[i]? = some (.val (.func (.func f) #[] #[]))) (hfull : name ∈ fullNames ↔ (i = 0 ∨ i = 3 ∨ i = 4 ∨ i = 8 ∨ i = 9)) (hF : FnL Try.prog f [.ptr 1000 0 0 0] [(25, [encK ⟨v, l, 0⟩])] (.tup []) [[encK (stepK i ⟨v, l, 0⟩)]]) : FnC Try.prog 25 [.agg (encV v), encLCf l, St name] (encVLE (brI i v l)) := by
  by_cases hx : name ∈ fullNames ∧ 32 ≤ l.length
  · rw [full_no i v l (hfull.1 hx.1) hx.2]
    exact bracket_full v l name i f hkey hval (pD_yes hx)
  · rw [← step_all i hi v l hl (fun h => Nat.lt_of_not_le (fun h2 => hx ⟨hfull.2 h, h2⟩))]
    exact bracket_hit v l name i f _ hkey hval (pD_no hx) hF
theorem bracket_i (i : Nat) (hi : i < 13) (v : V) (l : List Cfr) (name : Bs) (hn : nmC[i]? = some name) (hl : l.length ≤ 32) (hv : ∀ c, c ∈ l → c.lv.length ≤ 60) (h : Okk v 1000) : FnC Try.prog 25 [.agg (encV v), encLCf l, St name] (encVLE (brI i v l)) := by
  have h40 : Okk v 40 := h.le (by omega)
  have hl9 : l.length ≤ 900 := by omega
  have hv1 : ∀ c, c ∈ l → c.lv.length ≤ 100 := fun c hc => by have := hv c hc; omega
  match i, hi with
  | 0, _ =>
    obtain rfl := Option.some.inj hn
    exact bracket_of 0 (by omega) v l _ 76 hl (by kernel_rfl) rfl ⟨fun _ => by omega, fun _ => by simp [fullNames]⟩ (onIf_l ⟨v, l, 0⟩ hl9 h40)
  | 1, _ =>
    obtain rfl := Option.some.inj hn
    exact bracket_of 1 (by omega) v l _ 77 hl (by kernel_rfl) rfl ⟨fun e => absurd e (by simp [fullNames]), fun e => by omega⟩ (onElse_l ⟨v, l, 0⟩ hl9 h40)
  | 2, _ =>
    obtain rfl := Option.some.inj hn
    exact bracket_of 2 (by omega) v l _ 78 hl (by kernel_rfl) rfl ⟨fun e => absurd e (by simp [fullNames]), fun e => by omega⟩ (onThen_l ⟨v, l, 0⟩ hl9 h40)
  | 3, _ =>
    obtain rfl := Option.some.inj hn
    exact bracket_of 3 (by omega) v l _ 79 hl (by kernel_rfl) rfl ⟨fun _ => by omega, fun _ => by simp [fullNames]⟩ (onBegin_l ⟨v, l, 0⟩ hl9 h40)
  | 4, _ =>
    obtain rfl := Option.some.inj hn
    exact bracket_of 4 (by omega) v l _ 80 hl (by kernel_rfl) rfl ⟨fun _ => by omega, fun _ => by simp [fullNames]⟩ (onWhile_l ⟨v, l, 0⟩ hl9 h40)
  | 5, _ =>
    obtain rfl := Option.some.inj hn
    exact bracket_of 5 (by omega) v l _ 81 hl (by kernel_rfl) rfl ⟨fun e => absurd e (by simp [fullNames]), fun e => by omega⟩ (onRepeat_l ⟨v, l, 0⟩ hl9 h40)
  | 6, _ =>
    obtain rfl := Option.some.inj hn
    exact bracket_of 6 (by omega) v l _ 82 hl (by kernel_rfl) rfl ⟨fun e => absurd e (by simp [fullNames]), fun e => by omega⟩ (onUntil_l ⟨v, l, 0⟩ hl9 h40)
  | 7, _ =>
    obtain rfl := Option.some.inj hn
    exact bracket_of 7 (by omega) v l _ 83 hl (by kernel_rfl) rfl ⟨fun e => absurd e (by simp [fullNames]), fun e => by omega⟩ (onAgain_l ⟨v, l, 0⟩ hl9 h40)
  | 8, _ =>
    obtain rfl := Option.some.inj hn
    exact bracket_of 8 (by omega) v l _ 84 hl (by kernel_rfl) rfl ⟨fun _ => by omega, fun _ => by simp [fullNames]⟩ (onDo_l ⟨v, l, 0⟩ hl9 h40)
  | 9, _ =>
    obtain rfl := Option.some.inj hn
    exact bracket_of 9 (by omega) v l _ 85 hl (by kernel_rfl) rfl ⟨fun _ => by omega, fun _ => by simp [fullNames]⟩ (onAsk_l ⟨v, l, 0⟩ hl9 h40)
  | 10, _ =>
    obtain rfl := Option.some.inj hn
    exact bracket_of 10 (by omega) v l _ 86 hl (by kernel_rfl) rfl ⟨fun e => absurd e (by simp [fullNames]), fun e => by omega⟩ (onLoop_l ⟨v, l, 0⟩ hl9 (by first | exact h | exact h40) hv1)
  | 11, _ =>
    obtain rfl := Option.some.inj hn
    exact bracket_of 11 (by omega) v l _ 87 hl (by kernel_rfl) rfl ⟨fun e => absurd e (by simp [fullNames]), fun e => by omega⟩ (onPlus_l ⟨v, l, 0⟩ hl9 (by first | exact h | exact h40) hv1)
  | 12, _ =>
    obtain rfl := Option.some.inj hn
    exact bracket_of 12 (by omega) v l _ 88 hl (by kernel_rfl) rfl ⟨fun e => absurd e (by simp [fullNames]), fun e => by omega⟩ (onLeave_l ⟨v, l, 0⟩ hl9 h40 hv1)
theorem ref_bracket_i (i : Nat) (hi : i < 13) (v : V) (l : List Cfr) (name : Bs) (hn : nmC[i]? = some name) (hl : l.length ≤ 1000) (hv : ∀ c, c ∈ l → c.lv.length ≤ 60) (h : Okk v 100) : FnC Try.prog 26 [.agg (encV v), encLCf l, St name] (encVLE (brI i v l)) := by
  have hm : FnC Try.prog 55 [encLCf l, St name] (.val (.bool (pD (FitC i l)))) := by
    match i, hi with
    | 0, _ => exact may_0 l name (Option.some.inj hn).symm (by omega)
    | 1, _ => exact may_1 l name (Option.some.inj hn).symm (by omega)
    | 2, _ => exact may_2 l name (Option.some.inj hn).symm (by omega)
    | 3, _ => exact may_3 l name (Option.some.inj hn).symm (by omega)
    | 4, _ => exact may_4 l name (Option.some.inj hn).symm (by omega)
    | 5, _ => exact may_5 l name (Option.some.inj hn).symm (by omega)
    | 6, _ => exact may_6 l name (Option.some.inj hn).symm (by omega)
    | 7, _ => exact may_7 l name (Option.some.inj hn).symm (by omega)
    | 8, _ => exact may_8 l name (Option.some.inj hn).symm (by omega)
    | 9, _ => exact may_9 l name (Option.some.inj hn).symm (by omega)
    | 10, _ => exact may_10 l name (Option.some.inj hn).symm (by omega)
    | 11, _ => exact may_11 l name (Option.some.inj hn).symm (by omega)
    | 12, _ => exact may_12 l name (Option.some.inj hn).symm (by omega)
  by_cases hf : FitC i l
  · rw [pD_yes hf] at hm
    rw [brI_yes hf]
    by_cases h4 : i < 4
    · exact ref_bracket_yes0 i (by omega) h4 v l name hn hf hm h hl hv
    by_cases h8 : i < 8
    · exact ref_bracket_yes4 i (by omega) h8 v l name hn hf hm h hl hv
    by_cases h12 : i < 12
    · exact ref_bracket_yes8 i (by omega) h12 v l name hn hf hm h hl hv
    · obtain rfl : i = 12 := by omega
      exact ref_bracket_leave v l name (Option.some.inj hn).symm hf hm h hl hv
  · rw [pD_no hf] at hm
    rw [brI_no hf]
    exact ref_bracket_no0 v l name hm
noncomputable def brN (v : V) (l : List Cfr) (name : Bs) : V × List Cfr × Int := if pD (name ∈ nmC) then brI (nmC.idxOf name) v l else (v, l, -22)
theorem idx_nm {name : Bs} (h : name ∈ nmC) : nmC[nmC.idxOf name]? = some name ∧ nmC.idxOf name < 13 := by
  have h1 : nmC.idxOf name < nmC.length := List.idxOf_lt_length_of_mem h
  exact ⟨by rw [List.getElem?_eq_getElem h1, List.getElem_idxOf], h1⟩
theorem brN_yes {v : V} {l : List Cfr} {name : Bs} (h : name ∈ nmC) : brN v l name = brI (nmC.idxOf name) v l := by unfold brN; rw [pD_yes h]; rfl
theorem brN_no {v : V} {l : List Cfr} {name : Bs} (h : name ∉ nmC) : brN v l name = (v, l, -22) := by unfold brN; rw [pD_no h]; rfl
theorem bracket_c (v : V) (l : List Cfr) (name : Bs) (hl : l.length ≤ 32) (hv : ∀ c, c ∈ l → c.lv.length ≤ 60) (h : Okk v 1000) : FnC Try.prog 25 [.agg (encV v), encLCf l, St name] (encVLE (brN v l name)) := by
  by_cases hm : name ∈ nmC
  · rw [brN_yes hm]
    exact bracket_i _ (idx_nm hm).2 v l name (idx_nm hm).1 hl hv h
  · rw [brN_no hm]
    exact bracket_miss v l name (keyNone_str hm)
theorem ref_bracket_c (v : V) (l : List Cfr) (name : Bs) (hl : l.length ≤ 1000) (hv : ∀ c, c ∈ l → c.lv.length ≤ 60) (h : Okk v 100) : FnC Try.prog 26 [.agg (encV v), encLCf l, St name] (encVLE (brN v l name)) := by
  by_cases hm : name ∈ nmC
  · rw [brN_yes hm]
    exact ref_bracket_i _ (idx_nm hm).2 v l name (idx_nm hm).1 hl hv h
  · rw [brN_no hm]
    exact ref_bracket_no0 v l name (may_no l name hm (by omega))
end Go.Proofs.Ytpkkplojpjakiaa
/- cflow: machines whose memory is told by cells. No program here. -/
namespace Go.Proofs.Ytpkkplojpjakiaa
set_option linter.unusedVariables false
set_option linter.unusedSimpArgs false
open Go Go.RowKit
open Go.Proofs.Ytpkkplojpjakiaa.Dict (St Bs)
open Go.Proofs.Ytpkkplojpjakiaa.Mem (Mm commaD storeD fetchD writeD thereD cellAtD putB putB_len alignD padN)
set_option maxRecDepth 100000
structure Fl (v : V) (f : Nat → Int) (h : Nat) : Prop where
  b : v.m.b = cellsC f 256
  here : v.here = ((8 * h : Nat) : Int)
theorem comma_fl {m : Mm} {f : Nat → Int} {h : Nat} (n : Int) (hm : m.b = cellsC f 256) (hh : h < 256) : (commaD m ((8 * h : Nat) : Int) n).1.b = cellsC (updC f h n) 256 ∧ (commaD m ((8 * h : Nat) : Int) n).2.1 = ((8 * (h + 1) : Nat) : Int) ∧ (commaD m ((8 * h : Nat) : Int) n).2.2 = 0 := by
  have h1 : ((8 * h : Nat) : Int).tmod 8 = 0 := by rw [Int.tmod_eq_emod_of_nonneg (by omega)]; omega
  have hl : m.b.length = 2048 := by rw [hm, cellsC_len]
  have hs := store_flat n hm hh
  unfold storeD at hs
  rw [if_neg (fun e => e (cell_flat hm hh))] at hs
  unfold commaD
  rw [if_neg (fun e => e h1)]
  unfold Mem.layD
  rw [if_neg (by rw [hl, putB_len]; omega)]
  exact ⟨hs.1, by dsimp only; rw [putB_len]; omega, rfl⟩
theorem cell_fl {w : Kw} {f : Nat → Int} {h : Nat} (n : Int) (hw : Fl w.v f h) (h0 : w.bad = 0) (hh : h < 256) : Fl (cellD w n).v (updC f h n) (h + 1) ∧ (cellD w n).bad = 0 := by
  unfold cellD
  rw [if_pos h0]
  have hc := comma_fl n hw.b hh
  rw [← hw.here] at hc
  exact ⟨⟨hc.1, hc.2.1⟩, hc.2.2⟩
theorem here_fl {w : Kw} {f : Nat → Int} {h k : Nat} (hw : Fl w.v f h) (h0 : w.bad = 0) (hk : k < 256) : Fl (hereD w ((8 * k : Nat) : Int)).v (updC f k ((8 * h : Nat) : Int)) h ∧ (hereD w ((8 * k : Nat) : Int)).bad = 0 := by
  unfold hereD
  rw [if_pos h0]
  have hc := store_flat w.v.here hw.b hk
  rw [hw.here] at hc
  exact ⟨⟨by rw [hw.here]; exact hc.1, hw.here⟩, by rw [hw.here]; exact hc.2⟩
def lay (f : Nat → Int) (h : Nat) : List Int → (Nat → Int)
  | [] => f
  | a :: l => lay (updC f h a) (h + 1) l
def endsC (f : Nat → Int) (x : Int) : List Int → (Nat → Int)
  | [] => f
  | a :: l => endsC (updC f (a / 8).toNat x) x l
theorem cells_fl : ∀ (l : List Int) {w : Kw} {f : Nat → Int} {h : Nat}, Fl w.v f h → w.bad = 0 → h + l.length ≤ 256 → Fl (l.foldl cellD w).v (lay f h l) (h + l.length) ∧ (l.foldl cellD w).bad = 0
  | [], w, f, h, hw, h0, _ => ⟨hw, h0⟩
  | a :: l, w, f, h, hw, h0, hh => by
    rw [List.length_cons] at hh
    have h1 := cell_fl a hw h0 (by omega)
    have h2 := cells_fl l h1.1 h1.2 (by omega)
    rw [List.length_cons, show h + (l.length + 1) = h + 1 + l.length by omega]
    exact h2
def EndsOk (l : List Int) : Prop := ∀ a, a ∈ l → ∃ k : Nat, k < 256 ∧ a = ((8 * k : Nat) : Int)
theorem heres_fl : ∀ (l : List Int) {w : Kw} {f : Nat → Int} {h : Nat}, EndsOk l → Fl w.v f h → w.bad = 0 → Fl (heresD w l).v (endsC f ((8 * h : Nat) : Int) l) h ∧ (heresD w l).bad = 0
  | [], w, f, h, _, hw, h0 => ⟨hw, h0⟩
  | a :: l, w, f, h, he, hw, h0 => by
    obtain ⟨k, hk, rfl⟩ := he a (by simp)
    have h1 := here_fl (k := k) hw h0 hk
    have h2 := heres_fl l (fun b hb => he b (by simp [hb])) h1.1 h1.2
    show Fl (heresD (hereD w ((8 * k : Nat) : Int)) l).v (endsC (updC f (((8 * k : Nat) : Int) / 8).toNat ((8 * h : Nat) : Int)) ((8 * h : Nat) : Int) l) h ∧ _
    rw [show (((8 * k : Nat) : Int) / 8).toNat = k by omega]
    exact h2
theorem ref_fl {pl : List Int × List Int × List Cfr} {v : V} {f : Nat → Int} {h : Nat} (hv : Fl v f h) (hh : h + pl.1.length ≤ 256) (he : EndsOk pl.2.1) : Fl (refK pl v).v (endsC (lay f h pl.1) ((8 * (h + pl.1.length) : Nat) : Int) pl.2.1) (h + pl.1.length) ∧ (refK pl v).bad = 0 := by
  have h1 := cells_fl pl.1 (w := wk0 v) hv rfl hh
  exact heres_fl pl.2.1 he h1.1 h1.2
theorem brI_fl {i : Nat} {v : V} {l : List Cfr} {f : Nat → Int} {h : Nat} (hf : FitC i l) (hv : Fl v f h) (hh : h + (planD i v l).1.length ≤ 256) (he : EndsOk (planD i v l).2.1) : ∃ v', brI i v l = (v', (planD i v l).2.2, 0) ∧ Fl v' (endsC (lay f h (planD i v l).1) ((8 * (h + (planD i v l).1.length) : Nat) : Int) (planD i v l).2.1) (h + (planD i v l).1.length) := by
  have h1 := ref_fl hv hh he
  rw [brI_yes hf]
  unfold refBrD
  rw [if_pos h1.2]
  exact ⟨_, rfl, h1.1⟩
/-- Room for patches is left. -/
theorem okk_ref {pl : List Int × List Int × List Cfr} {v : V} {k : Nat} (h : Okk v (k + pl.1.length + pl.2.1.length)) : Okk (refK pl v).v k := by
  have h1 : Okk (cellsK v pl.1).v (k + pl.2.1.length) := cells_okk (w := wk0 v) pl.1 (h.le (by omega))
  exact okk_heres pl.2.1 h1
theorem okk_brI {i : Nat} {v : V} {l : List Cfr} {k : Nat} (h : Okk v (k + (planD i v l).1.length + (planD i v l).2.1.length)) : Okk (brI i v l).1 k := by
  unfold brI
  split
  · unfold refBrD
    split
    · exact okk_ref h
    · exact h.le (by omega)
  · exact h.le (by omega)
end Go.Proofs.Ytpkkplojpjakiaa
/- cflow: the document's example. -/
namespace Go.Proofs.Ytpkkplojpjakiaa
set_option linter.unusedVariables false
set_option linter.unusedSimpArgs false
open Go Go.RowKit
open Go.Proofs.Ytpkkplojpjakiaa.Dict (St Bs bs_eq encWs closed_ws)
open Go.Proofs.Ytpkkplojpjakiaa.Mem (Mm encM encBs closed_bs encP encP_closed closed_m storeD fetchD commaD writeD alignD padN putB_len enc2m)
open Go.Proofs.Ytpkkplojpjakiaa.Stk (encS closed_s encI_closed)
set_option maxRecDepth 100000
def v0 : V := vNew conf0
def f0 : Nat → Int := updC (valS 37) 0 10
theorem v0_fl : Fl v0 f0 171 := ⟨rfl, rfl⟩
theorem v0_okk (k : Nat) (hk : k ≤ 1000000) : Okk v0 k := ⟨by rw [v0_fl.b, cellsC_len]; omega, by show 0 + k ≤ 1000000; omega, by rw [v0_fl.here]; omega, by rw [v0_fl.here, v0_fl.b, cellsC_len]; omega⟩
theorem fit_nil (i : Nat) (h : i = 1 ∨ i = 2 ∨ i = 4 ∨ i = 5 ∨ i = 6 ∨ i = 7 ∨ i = 10 ∨ i = 11 ∨ i = 12) : ¬ FitC i [] := by
  rcases h with rfl | rfl | rfl | rfl | rfl | rfl | rfl | rfl | rfl
  · intro e; have : lastK [] 0 = 1 := e; cases this
  · intro e; have : lastK [] 0 = 1 := e; cases this
  · intro e; have : lastK [] 0 = 2 ∧ _ := e; cases this.1
  · intro e; have : lastK [] 0 = 2 ∧ _ := e; cases this.1
  · intro e; have : lastK [] 0 = 2 := e; cases this
  · intro e; have : lastK [] 0 = 2 := e; cases this
  · intro e; have : lastK [] 0 = 3 := e; cases this
  · intro e; have : lastK [] 0 = 3 := e; cases this
  · intro e; have : 0 ≤ loopAt [] ∧ _ := e; exact absurd this.1 (by decide)
theorem layD_ok {m : Mm} {here : Int} {b : List UInt8} (h : ¬ (m.b.length : Int) - here < b.length) : (Mem.layD m here b).2 = (here + b.length, 0) := by
  unfold Mem.layD
  rw [if_neg h]
theorem one_x : ∃ x : V, brI 0 v0 [] = (x, [⟨1, 1376, []⟩], 0) ∧ Fl x (lay f0 171 [xtD nZb, 0]) 173 ∧ Okk x 1000 := by
  have a1 : FitC 0 [] := by show (0 : Nat) < 32; omega
  obtain ⟨x, hx, fx⟩ := brI_fl a1 v0_fl (by show 171 + 2 ≤ 256; omega) (fun a h => by cases h)
  have ox : Okk x 1000 := by
    have := okk_brI (i := 0) (v := v0) (l := []) (k := 1000) (v0_okk _ (by show 1000 + 2 + 0 ≤ 1000000; omega))
    rw [hx] at this
    exact this
  refine ⟨x, ?_, fx, ox⟩
  rw [hx]
  show (x, [(⟨1, v0.here + 8, []⟩ : Cfr)], (0 : Int)) = _
  rw [show v0.here = 1368 from rfl]
  rfl
theorem two_y (x : V) (f : Nat → Int) (fx : Fl x f 173) : ∃ y : V, brI 2 x [⟨1, 1376, []⟩] = (y, [], 0) ∧ Fl y (updC f 172 1384) 173 := by
  have a2 : FitC 2 [⟨1, 1376, []⟩] := by show lastK [(⟨1, 1376, []⟩ : Cfr)] 0 = 1; rfl
  have e2 : planD 2 x [⟨1, 1376, []⟩] = ([], [((8 * 172 : Nat) : Int)], []) := rfl
  have h := brI_fl (v := x) a2 fx (by rw [e2]; show 173 + 0 ≤ 256; omega) (by
    rw [e2]
    intro a h
    rw [List.mem_singleton.1 h]
    exact ⟨172, by omega, rfl⟩)
  rw [e2] at h
  obtain ⟨y, hy, fy⟩ := h
  refine ⟨y, hy, ?_⟩
  have fy' : Fl y (updC f (((8 * 172 : Nat) : Int) / 8).toNat ((8 * (173 + 0) : Nat) : Int)) 173 := fy
  rw [show (((8 * 172 : Nat) : Int) / 8).toNat = 172 by omega, show ((8 * (173 + 0) : Nat) : Int) = 1384 by omega] at fy'
  exact fy'
theorem lit_z : ∃ z : V, outD (litK v0 5) v0 = (z, 0) ∧ z.here = 1384 := by
  have hz := cells_fl [xtD nLit, 5] (w := wk0 v0) v0_fl rfl (by show 171 + 2 ≤ 256; omega)
  exact ⟨_, if_pos hz.2, hz.1.here⟩
theorem str_s : ∃ s : V, outD (strK v0 [97, 98, 99]) v0 = (s, 0) ∧ s.here = 1392 := by
  have hs := cells_fl [xtD nStr, 3] (w := wk0 v0) v0_fl rfl (by show 171 + 2 ≤ 256; omega)
  have hk0 : strK0 v0 [97, 98, 99] = cellsK v0 [xtD nStr, 3] := rfl
  have b0 : (cellsK v0 [xtD nStr, 3]).bad = 0 := hs.2
  have f1 : Fl (cellsK v0 [xtD nStr, 3]).v (lay f0 171 [xtD nStr, 3]) 173 := hs.1
  clear hs
  unfold strK
  rw [hk0]
  clear hk0
  generalize cellsK v0 [xtD nStr, 3] = w at *
  have l1 : w.v.m.b.length = 2048 := by rw [f1.b, cellsC_len]
  have l2 : w.v.here = 1384 := f1.here
  have q1 := layD_ok (m := w.v.m) (here := w.v.here) (b := [97, 98, 99]) (by rw [l1, l2]; decide)
  have o1 := mlay_ok w.v.m w.v.here [97, 98, 99] (by rw [l2]; decide) (by rw [l1, l2]; decide)
  have q2 : (Mem.layD w.v.m w.v.here [97, 98, 99]).2.1 = 1387 := by rw [q1, l2]; rfl
  have q3 : (Mem.layD w.v.m w.v.here [97, 98, 99]).2.2 = 0 := by rw [q1]
  rw [if_pos b0, if_pos q3]
  refine ⟨_, if_pos rfl, ?_⟩
  show (alignD _ _).2.1 = 1392
  rw [q2]
  unfold alignD
  rw [layD_ok (by rw [o1.1, l1]; decide)]
  rfl
theorem facts13 : ∃ x y z s : V, brI 0 v0 [] = (x, [⟨1, 1376, []⟩], 0) ∧ brI 2 x [⟨1, 1376, []⟩] = (y, [], 0) ∧ brI 2 v0 [] = (v0, [], -22) ∧ fetchD y.m 1376 = (1384, 0) ∧ y.m.b.length ≤ 1000000 ∧ y.here = 1384 ∧ outD (litK v0 5) v0 = (z, 0) ∧ z.here = 1384 ∧ outD (strK v0 [97, 98, 99]) v0 = (s, 0) ∧ s.here = 1392 ∧ Okk x 1000 := by
  obtain ⟨x, hx, fx, ox⟩ := one_x
  obtain ⟨y, hy, fy⟩ := two_y x _ fx
  obtain ⟨z, hz, hz2⟩ := lit_z
  obtain ⟨s, hs, hs2⟩ := str_s
  have hf := fetch_flat (k := 172) fy.b (by omega) (by
    rw [show updC (lay f0 171 [xtD nZb, 0]) 172 1384 172 = 1384 from if_pos rfl]
    omega)
  rw [show updC (lay f0 171 [xtD nZb, 0]) 172 1384 172 = 1384 from if_pos rfl] at hf
  exact ⟨x, y, z, s, hx, hy, brI_no (fit_nil 2 (by omega)), hf, by rw [fy.b, cellsC_len]; omega, fy.here, hz, hz2, hs, hs2, ox⟩
end Go.Proofs.Ytpkkplojpjakiaa
