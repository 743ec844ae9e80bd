/- vG18, vG19, vG20, vG21, vG22. -/
import Derived.Test.YtgkjappmcgnabaaW1
import Derived.Test.YtgkjappmcgnabaaW2
import Derived.Test.YtgkjappmcgnabaaW3
import Derived.Test.YtgkjappmcgnabaaW4
import Derived.Test.YtgkjappmcgnabaavW5
import Derived.Test.YtgkjappmcgnabaavW6
import Derived.Test.YtgkjappmcgnabaavW7
import Derived.Test.YtgkjappmcgnabaavW8
import Derived.Test.YtgkjappmcgnabaavW9
import Derived.Test.YtgkjappmcgnabaavW10
import Derived.Test.YtgkjappmcgnabaavW11
import Derived.Test.YtgkjappmcgnabaavW12
/- vm: VmDoes returns true. -/
namespace Go.Proofs.Ytgkjappmcgnabaa
set_option linter.unusedVariables false
set_option linter.unusedSimpArgs false
open Go Go.RowKit
open Dict (St Bs bs_eq Wd encW encWs closed_ws)
open Mem (Mm encM encBs closed_bs)
open Stk (encS closed_s popD pushD pushD_ok pushD_over popD_snoc snoc_of)
set_option maxRecDepth 100000
theorem Held.withD {v : V} (h : Held v) {s : List Int} (hs : s.length ≤ 1000000) : Held (withD v s) := ⟨h.mb, h.mo, hs, h.rl, h.fl, h.wl, h.wi, h.ol, h.pl, h.ql, h.hl⟩
theorem Held.withR {v : V} (h : Held v) {s : List Int} (hs : s.length ≤ 1000000) : Held (withR v s) := ⟨h.mb, h.mo, h.dl, hs, h.fl, h.wl, h.wi, h.ol, h.pl, h.ql, h.hl⟩
theorem Held.withOut {v : V} (h : Held v) {s : Bs} (hs : s.length ≤ 1000000) : Held (withOut v s) := ⟨h.mb, h.mo, h.dl, h.rl, h.fl, h.wl, h.wi, hs, h.pl, h.ql, h.hl⟩
attribute [local irreducible] Decidable.decide awp ARun regK toK
theorem selfb (x : Int) : (x != x) = false := by simp
end Go.Proofs.Ytgkjappmcgnabaa
/- vm: VmStacks returns true. -/
namespace Go.Proofs.Ytgkjappmcgnabaa
set_option linter.unusedVariables false
set_option linter.unusedSimpArgs false
open Go Go.RowKit
open Dict (St Bs bs_eq Wd encW encWs closed_ws st_app)
open Mem (Mm encM encBs closed_bs)
open Stk (encS closed_s popD pushD pushD_ok pushD_over popD_snoc snoc_of)
set_option maxRecDepth 100000
theorem push_out (v : V) (n : Int) : (vpushD v n = (v, -3) ∧ v.cf.data ≤ (v.d.length : Int)) ∨ (vpushD v n = (withD v (v.d ++ [n]), 0) ∧ (v.d.length : Int) < v.cf.data) := by
  unfold vpushD
  by_cases h : v.cf.data ≤ (v.d.length : Int)
  · rw [pushD_over h]; exact .inl ⟨rfl, h⟩
  · rw [pushD_ok h]; exact .inr ⟨rfl, by omega⟩
theorem rpush_out (v : V) (n : Int) : (rpushD v n = (v, -5) ∧ v.cf.ret ≤ (v.r.length : Int)) ∨ (rpushD v n = (withR v (v.r ++ [n]), 0) ∧ (v.r.length : Int) < v.cf.ret) := by
  unfold rpushD
  by_cases h : v.cf.ret ≤ (v.r.length : Int)
  · rw [pushD_over h]; exact .inl ⟨rfl, h⟩
  · rw [pushD_ok h]; exact .inr ⟨rfl, by omega⟩
theorem print_out (v : V) (s : Bs) : (printD v s = (v, -260) ∧ v.cf.out < (v.out.length : Int) + s.length) ∨ (printD v s = (withOut v (v.out ++ s), 0) ∧ (v.out.length : Int) + s.length ≤ v.cf.out) := by
  unfold printD
  by_cases h : v.cf.out - (v.out.length : Int) < (s.length : Int)
  · rw [if_pos h]; exact .inl ⟨rfl, by omega⟩
  · rw [if_neg h]; exact .inr ⟨rfl, by omega⟩
theorem RightV.withD {v : V} (h : RightV v) {s : List Int} (hs : (s.length : Int) ≤ v.cf.data) : RightV (withD v s) := ⟨h.1, ⟨hs, h.2.1.2⟩, h.2.2⟩
theorem RightV.withR {v : V} (h : RightV v) {s : List Int} (hs : (s.length : Int) ≤ v.cf.ret) : RightV (withR v s) := ⟨h.1, ⟨h.2.1.1, hs, h.2.1.2.2⟩, h.2.2⟩
theorem RightV.withOut {v : V} (h : RightV v) {s : Bs} (hs : (s.length : Int) ≤ v.cf.out) : RightV (withOut v s) := ⟨h.1, h.2.1, ⟨h.2.2.1.1, h.2.2.1.2.1, hs, h.2.2.1.2.2.2⟩, h.2.2.2⟩
theorem pop_push (v : V) (n : Int) : vpopD (withD v (v.d ++ [n])) = (n, v, 0) := by
  have e : popD (v.d ++ [n]) = (n, v.d, 0) := popD_snoc _ _
  unfold vpopD
  show ((popD (v.d ++ [n])).1, Go.Proofs.Ytgkjappmcgnabaa.withD (Go.Proofs.Ytgkjappmcgnabaa.withD v (v.d ++ [n])) (popD (v.d ++ [n])).2.1, (popD (v.d ++ [n])).2.2) = _
  rw [e]
  rfl
theorem rpop_rpush (v : V) (n : Int) : rpopD (withR v (v.r ++ [n])) = (n, v, 0) := by
  have e : popD (v.r ++ [n]) = (n, v.r, 0) := popD_snoc _ _
  unfold rpopD
  show ((popD (v.r ++ [n])).1, Go.Proofs.Ytgkjappmcgnabaa.withR (Go.Proofs.Ytgkjappmcgnabaa.withR v (v.r ++ [n])) (popD (v.r ++ [n])).2.1, backE (popD (v.r ++ [n])).2.2) = _
  rw [e]
  rfl
theorem bb1 : (true != true) = false := by simp
theorem bb2 : (false != false) = false := by simp
attribute [local irreducible] Decidable.decide awp ARun regK toK
set_option maxHeartbeats 16000000 in
theorem stacks_c (v : V) (n : Int) (s : Bs) (hi : FlIn v.dict) : FnC Try.prog 6 [.agg (encV v), .val (.int .i64 n), St s] (.val (.bool true)) := by
  have c0 := shown_c
  have cm := may_c v hi
  by_cases hm : FewV v ∧ RightV v
  case neg =>
    rw [pD_no hm] at cm
    refine FnC.of_awp (T := tt) (ok := tok) Try.func6 (by kernel_rfl) rfl (by kernel_rfl) (closedL_cons (closedV v) (closedL_cons (.val _) (closedL_cons (.val _) closedL_nil))) (fun w0 st0 => ?_)
    dsimp only [frOf]
    (repeat' (first | refine awp_seq ?_ | refine awp_block ?_ | refine awp_region (fun _ => hmix) ?_ | refine ARun.op rfl (by first | exact True.intro | exact rfl | (unfold inR; omega) | omega | ((try unfold inR); simp only [decide_eq_true_eq, decide_eq_false_iff_not, beq_iff_eq, beq_eq_false_iff_ne, ne_eq, Bool.not_eq_true', Bool.not_eq_false', List.length_map, List.length_append, List.length_take, List.length_drop, List.length_replicate, List.length_cons, List.length_nil] at *; omega)) ?_ | refine callX (c0) rfl rfl rfl rfl ?_ | refine callX (cm) rfl rfl rfl rfl ?_ | ((first | refine ARun.fin (by first | (intro h; cases h; done) | (intro _; kernel_rfl)) ?_ | refine awp_skip ?_ | refine awp_exit ?_); dsimp only [thenA, blockA, AS.bump, List.length_cons, List.length_nil, reduceIte, Nat.reduceEqDiff]) | refine awp_condT rfl (by first | rfl | assumption | exact beq_int _ | exact bne_int _) ?_ | refine awp_condF rfl (by first | rfl | assumption | exact beq_int _ | exact bne_int _) ?_ | ((fail_if_success refine ARun.plain rfl ?_); first | refine ARun.knowT rfl rfl rfl (by first | rfl | assumption | exact beq_int _ | exact bne_int _) ?_ | refine ARun.knowF rfl rfl rfl (by first | rfl | assumption | exact beq_int _ | exact bne_int _) ?_)))
    exact awp_ret ⟨_, ResL.cons (ResA.tmp (.val _)) .nil, rfl⟩
  rw [pD_yes hm] at cm
  have hz : (ByteArray.mk s.toArray).size = s.length := rfl
  by_cases hs : 600 < s.length
  · have d : decide ((600 : Int) < ((ByteArray.mk s.toArray).size : Nat)) = true := decide_eq_true (by omega)
    refine FnC.of_awp (T := tt) (ok := tok) Try.func6 (by kernel_rfl) rfl (by kernel_rfl) (closedL_cons (closedV v) (closedL_cons (.val _) (closedL_cons (.val _) closedL_nil))) (fun w0 st0 => ?_)
    dsimp only [frOf]
    (repeat' (first | refine awp_seq ?_ | refine awp_block ?_ | refine awp_region (fun _ => hmix) ?_ | refine ARun.op rfl (by first | exact True.intro | exact rfl | (unfold inR; omega) | omega | ((try unfold inR); simp only [decide_eq_true_eq, decide_eq_false_iff_not, beq_iff_eq, beq_eq_false_iff_ne, ne_eq, Bool.not_eq_true', Bool.not_eq_false', List.length_map, List.length_append, List.length_take, List.length_drop, List.length_replicate, List.length_cons, List.length_nil] at *; omega)) ?_ | refine callX (c0) rfl rfl rfl rfl ?_ | refine callX (cm) rfl rfl rfl rfl ?_ | ((first | refine ARun.fin (by first | (intro h; cases h; done) | (intro _; kernel_rfl)) ?_ | refine awp_skip ?_ | refine awp_exit ?_); dsimp only [thenA, blockA, AS.bump, List.length_cons, List.length_nil, reduceIte, Nat.reduceEqDiff]) | refine awp_condT rfl (by first | rfl | assumption | exact beq_int _ | exact bne_int _) ?_ | refine awp_condF rfl (by first | rfl | assumption | exact beq_int _ | exact bne_int _) ?_ | ((fail_if_success refine ARun.plain rfl ?_); first | refine ARun.knowT rfl rfl rfl (by first | rfl | assumption | exact beq_int _ | exact bne_int _) ?_ | refine ARun.knowF rfl rfl rfl (by first | rfl | assumption | exact beq_int _ | exact bne_int _) ?_)))
    exact awp_ret ⟨_, ResL.cons (ResA.tmp (.val _)) .nil, rfl⟩
  have d : decide ((600 : Int) < ((ByteArray.mk s.toArray).size : Nat)) = false := decide_eq_false (by omega)
  have hv := hm.1.held hi
  have ho := hm.2.1.1.2.2.2.2.2
  have f6 := hm.1.f6
  have f3 := hm.1.f3
  have f4 := hm.1.f4
  have ed : (((v.d.map encI).length : Nat) : Int) = v.d.length := by rw [List.length_map]
  have er : (((v.r.map encI).length : Nat) : Int) = v.r.length := by rw [List.length_map]
  have eo : (((v.out.map encB).length : Nat) : Int) = v.out.length := by rw [List.length_map]
  have hsame := ref_same_c v v hv hv
  rw [pD_yes rfl] at hsame
  have hr0 := ref_right_c v hv
  rw [pD_yes hm.2] at hr0
  have b1 := bb1
  have b2 := bb2
  have z1 : ((0 : Int) == 0) = true := beq_int _
  have z2 : ((-3 : Int) == 0) = false := beq_eq_false_iff_ne.2 (by omega)
  have z3 : ((-5 : Int) == 0) = false := beq_eq_false_iff_ne.2 (by omega)
  have z4 : ((-260 : Int) == 0) = false := beq_eq_false_iff_ne.2 (by omega)
  have z5 : ((0 : Int) != 0) = false := bne_int _
  have z6 : ((-3 : Int) != 0) = true := by simp
  have z7 : ((-5 : Int) != 0) = true := by simp
  have z8 : ((-260 : Int) != 0) = true := by simp
  have nn := selfb n
  -- what comes of each
  have A : ∃ (x : V) (e : Int) (y : V × Int × Int), vpushD v n = (x, e) ∧ Held x ∧ RightV x ∧ ((e = -3 ∧ v = x ∧ (!((e == 0) == decide ((((v.d.map encI).length : Nat) : Int) < v.cf.data))) = false) ∨ (e = 0 ∧ vpopD x = (n, v, 0) ∧ (!((e == 0) == decide ((((v.d.map encI).length : Nat) : Int) < v.cf.data))) = false)) := by
    rcases push_out v n with ⟨h1, h2⟩ | ⟨h1, h2⟩
    · exact ⟨v, -3, (v, 0, 0), h1, hv, hm.2, .inl ⟨rfl, rfl, by rw [decide_eq_false (by omega)]; simp⟩⟩
    · exact ⟨_, 0, (v, 0, 0), h1, hv.withD (by rw [List.length_append, List.length_singleton]; omega), hm.2.withD (by rw [List.length_append, List.length_singleton]; omega), .inr ⟨rfl, pop_push v n, by rw [decide_eq_true (by omega)]; simp⟩⟩
  have B : ∃ (x : V) (e : Int), rpushD v n = (x, e) ∧ Held x ∧ RightV x ∧ ((e = -5 ∧ v = x ∧ (!((e == 0) == decide ((((v.r.map encI).length : Nat) : Int) < v.cf.ret))) = false) ∨ (e = 0 ∧ rpopD x = (n, v, 0) ∧ (!((e == 0) == decide ((((v.r.map encI).length : Nat) : Int) < v.cf.ret))) = false)) := by
    rcases rpush_out v n with ⟨h1, h2⟩ | ⟨h1, h2⟩
    · exact ⟨v, -5, h1, hv, hm.2, .inl ⟨rfl, rfl, by rw [decide_eq_false (by omega)]; simp⟩⟩
    · exact ⟨_, 0, h1, hv.withR (by rw [List.length_append, List.length_singleton]; omega), hm.2.withR (by rw [List.length_append, List.length_singleton]; omega), .inr ⟨rfl, rpop_rpush v n, by rw [decide_eq_true (by omega)]; simp⟩⟩
  have D : ∃ (x : V) (e : Int), printD v s = (x, e) ∧ Held x ∧ RightV x ∧ ((e = -260 ∧ v = x ∧ (!((e == 0) == decide ((((v.out.map encB).length : Nat) : Int) + ((ByteArray.mk s.toArray).size : Nat) ≤ v.cf.out))) = false) ∨ (e = 0 ∧ x.out = v.out ++ s ∧ (!((e == 0) == decide ((((v.out.map encB).length : Nat) : Int) + ((ByteArray.mk s.toArray).size : Nat) ≤ v.cf.out))) = false)) := by
    rcases print_out v s with ⟨h1, h2⟩ | ⟨h1, h2⟩
    · exact ⟨v, -260, h1, hv, hm.2, .inl ⟨rfl, rfl, by rw [decide_eq_false (by omega)]; simp⟩⟩
    · exact ⟨_, 0, h1, hv.withOut (by rw [List.length_append]; omega), hm.2.withOut (by rw [List.length_append]; omega), .inr ⟨rfl, rfl, by rw [decide_eq_true (by omega)]; simp⟩⟩
  have c1 := push_c v n hv.dl
  have c2 := rpush_c v n hv.rl
  have c3 := print_c v s hv.ol (by omega) (by omega)
  have hdl := hv.dl
  have hcat : (ByteArray.mk v.out.toArray).size + (ByteArray.mk s.toArray).size ≤ 1000000000 := by
    show v.out.length + s.length ≤ _
    omega
  clear hv hm hi hs f3 f4
  obtain ⟨x, e, _, a1, a2, a3, a4⟩ := A
  obtain ⟨x', e', b1', b2', b3', b4⟩ := B
  obtain ⟨x'', e'', d1, d2, d3, d4⟩ := D
  rw [a1] at c1
  rw [b1'] at c2
  rw [d1] at c3
  have r1 := ref_right_c x a2
  have r2 := ref_right_c x' b2'
  have r3 := ref_right_c x'' d2
  rw [pD_yes a3] at r1
  rw [pD_yes b3'] at r2
  rw [pD_yes d3] at r3
  have p1 := pop_c x a2.dl
  have p2 := rpop_c x' b2'.rl
  simp only [encVE, encIVE] at c1 c2 c3 p1 p2
  rcases a4 with ⟨rfl, rfl, g1⟩ | ⟨rfl, g0, g1⟩
  all_goals
    first
      | rw [g0] at p1
      | skip
  all_goals
    rcases b4 with ⟨rfl, rfl, g2⟩ | ⟨rfl, g0', g2⟩
  all_goals
    first
      | rw [g0'] at p2
      | skip
  all_goals
    rcases d4 with ⟨rfl, rfl, g3⟩ | ⟨rfl, g4, g3⟩
  all_goals
    first
      | (have k3 : ((ByteArray.mk x''.out.toArray).toList == ((ByteArray.mk v.out.toArray) ++ (ByteArray.mk s.toArray)).toList) = true := by rw [st_app, bs_eq, g4]; exact decide_eq_true rfl)
      | skip
  all_goals
    refine FnC.of_awp (T := tt) (ok := tok) Try.func6 (by kernel_rfl) rfl (by kernel_rfl) (closedL_cons (closedV v) (closedL_cons (.val _) (closedL_cons (.val _) closedL_nil))) (fun w0 st0 => ?_)
    dsimp only [frOf]
    (repeat' (first | refine awp_seq ?_ | refine awp_block ?_ | refine awp_region (fun _ => hmix) ?_ | refine ARun.op rfl (by first | exact True.intro | exact rfl | (unfold inR; omega) | omega | ((try unfold inR); simp only [decide_eq_true_eq, decide_eq_false_iff_not, beq_iff_eq, beq_eq_false_iff_ne, ne_eq, Bool.not_eq_true', Bool.not_eq_false', List.length_map, List.length_append, List.length_take, List.length_drop, List.length_replicate, List.length_cons, List.length_nil] at *; omega)) ?_ | refine callX (c0) rfl rfl rfl rfl ?_ | refine callX (cm) rfl rfl rfl rfl ?_ | refine callX (c1) rfl rfl rfl rfl ?_ | refine callX (c2) rfl rfl rfl rfl ?_ | refine callX (c3) rfl rfl rfl rfl ?_ | refine callX (r1) rfl rfl rfl rfl ?_ | refine callX (r2) rfl rfl rfl rfl ?_ | refine callX (r3) rfl rfl rfl rfl ?_ | refine callX (p1) rfl rfl rfl rfl ?_ | refine callX (p2) rfl rfl rfl rfl ?_ | refine callX (hr0) rfl rfl rfl rfl ?_ | refine callX (hsame) rfl rfl rfl rfl ?_ | refine ARun.bytesStr (by first | exact SrcA.sl rfl (.inr rfl) | exact SrcA.sl rfl (.inl rfl) | exact SrcA.ownW rfl rfl rfl rfl) rfl rfl rfl rfl rfl rfl rfl rfl (guardF_spec rfl) ?_ | refine ARun.bin rfl rfl (bin_cat hcat) rfl (guardF_spec rfl) ?_ | ((first | refine ARun.fin (by first | (intro h; cases h; done) | (intro _; kernel_rfl)) ?_ | refine awp_skip ?_ | refine awp_exit ?_); dsimp only [thenA, blockA, AS.bump, List.length_cons, List.length_nil, reduceIte, Nat.reduceEqDiff]) | refine awp_condT rfl (by first | rfl | assumption | exact beq_int _ | exact bne_int _) ?_ | refine awp_condF rfl (by first | rfl | assumption | exact beq_int _ | exact bne_int _) ?_ | ((fail_if_success refine ARun.plain rfl ?_); first | refine ARun.knowT rfl rfl rfl (by first | rfl | assumption | exact beq_int _ | exact bne_int _) ?_ | refine ARun.knowF rfl rfl rfl (by first | rfl | assumption | exact beq_int _ | exact bne_int _) ?_)))
    (refine awp_ret ⟨_, ResL.cons (ResA.tmp (.val _)) .nil, congrArg (fun b => AV.val (.bool b)) ?_⟩; first | rfl | (symm; assumption) | exact (beq_int _).symm)
end Go.Proofs.Ytgkjappmcgnabaa
/- vm: the document's New. -/
namespace Go.Proofs.Ytgkjappmcgnabaa
set_option linter.unusedVariables false
set_option linter.unusedSimpArgs false
open Go Go.RowKit
open Dict (St Bs bs_eq Wd encW encWs closed_ws encW_closed addD namedD)
open Mem (Mm encM encBs closed_bs putB putB_len byteAt uAt)
open Stk (encS)
set_option maxRecDepth 100000
def nmR (i : Nat) : Int := if i < 130 then (i : Int) else (i : Int) + 170
def valR (i : Nat) : Nat → Int := fun k => if k = 0 then 10 else if k = 2 then (if 9 ≤ i then 96 else 0) else if k = 3 then (if 10 ≤ i then 104 else 0) else if 4 ≤ k ∧ k < 4 + i then nmR (k - 4) else 0
def bothL : List Bs := nmsV ++ spcV
def wR (p : Bs × Nat) : Wd := ⟨p.1, 32 + 8 * (p.2 : Nat), flagsD p.1 (p.2 : Nat)⟩
def dictR (i : Nat) : List Wd := (bothL.take i).zipIdx.map wR
theorem dictR_end : dictR 167 = dictS 37 := by kernel_rfl
theorem bothL_len : bothL.length = 167 := by rfl
theorem bothL_short : (bothL.all fun nm => decide (nm.length ≤ 31)) = true := by kernel_rfl
theorem bothL_at : ((List.range 167).all fun i => match bothL[i]? with | some nm => (decide (nm = nHalt) == decide (i = 8)) && (decide (nm = nCaught) == decide (i = 9)) | none => false) = true := by kernel_rfl
theorem all_at {i : Nat} {nm : Bs} (h : bothL[i]? = some nm) : (nm = nHalt ↔ i = 8) ∧ (nm = nCaught ↔ i = 9) := by
  have hi : i < 167 := (List.getElem?_eq_some_iff.1 h).1
  have := List.all_eq_true.1 bothL_at i (List.mem_range.2 hi)
  rw [h] at this
  simp only [Bool.and_eq_true, beq_iff_eq] at this
  exact ⟨by simpa using this.1, by simpa using this.2⟩
theorem valR_end (k : Nat) : valR 167 k = updC (valS 37) 0 10 k := by
  unfold valR updC valS valN nmR
  repeat' split
  all_goals first | omega | rfl
theorem dictR_step {i : Nat} {nm : Bs} (h : bothL[i]? = some nm) : (dictR (i + 1)).map encW = (dictR i).map encW ++ [encW (wR (nm, i))] := by
  unfold dictR
  rw [zip_step h wR, List.map_append]
  rfl
/-- Two bytes of a cell that is 0. -/
theorem two_end {l : List UInt8} {k : Nat} {v : Int} (hk : l.length = 8 * k) (h0 : 0 ≤ v) (h1 : v < 65536) : ((l ++ putB 0).set (8 * k) (UInt8.ofNat (v % 256).toNat)).set (8 * k + 1) (UInt8.ofNat (v / 256).toNat) = l ++ putB v := by
  rw [show putB 0 = [0, 0, 0, 0, 0, 0, 0, 0] from rfl]
  have e : putB v = [UInt8.ofNat (v % 256).toNat, UInt8.ofNat (v / 256).toNat, 0, 0, 0, 0, 0, 0] := by
    have x0 : uAt v 0 % 256 = v % 256 := by show (v % 18446744073709551616) % 256 = _; omega
    have x1 : uAt v 1 % 256 = v / 256 := by show (v % 18446744073709551616 / 256) % 256 = _; omega
    have x2 : uAt v 2 % 256 = 0 := by show (v % 18446744073709551616 / 256 / 256) % 256 = _; omega
    have x3 : uAt v 3 % 256 = 0 := by show (v % 18446744073709551616 / 256 / 256 / 256) % 256 = _; omega
    have x4 : uAt v 4 % 256 = 0 := by show (v % 18446744073709551616 / 256 / 256 / 256 / 256) % 256 = _; omega
    have x5 : uAt v 5 % 256 = 0 := by show (v % 18446744073709551616 / 256 / 256 / 256 / 256 / 256) % 256 = _; omega
    have x6 : uAt v 6 % 256 = 0 := by show (v % 18446744073709551616 / 256 / 256 / 256 / 256 / 256 / 256) % 256 = _; omega
    have x7 : uAt v 7 % 256 = 0 := by show (v % 18446744073709551616 / 256 / 256 / 256 / 256 / 256 / 256 / 256) % 256 = _; omega
    show [byteAt v 0, byteAt v 1, byteAt v 2, byteAt v 3, byteAt v 4, byteAt v 5, byteAt v 6, byteAt v 7] = _
    unfold byteAt
    rw [x0, x1, x2, x3, x4, x5, x6, x7]
    rfl
  rw [e, List.set_append_right _ _ (by omega), List.set_append_right _ _ (by omega), hk]
  simp
theorem two_set {f : Nat → Int} {k : Nat} {v : Int} (hf : f k = 0) (h0 : 0 ≤ v) (h1 : v < 65536) : ∀ {n : Nat}, k < n → ((cellsC f n).set (8 * k) (UInt8.ofNat (v % 256).toNat)).set (8 * k + 1) (UInt8.ofNat (v / 256).toNat) = cellsC (updC f k v) n
  | 0, h => by omega
  | n + 1, h => by
    rw [cellsC, cellsC]
    by_cases hk : k = n
    · subst hk
      rw [hf, two_end (cellsC_len f k) h0 h1, cellsC_congr (f := updC f k v) (g := f) (fun j hj => if_neg (by omega)), show updC f k v k = v from if_pos rfl]
    · have hl := cellsC_len f n
      rw [List.set_append_left _ _ (by omega), List.set_append_left _ _ (by rw [List.length_set]; omega), two_set hf h0 h1 (by omega), show updC f k v n = f n from if_neg (by omega)]
theorem two_rows {f : Nat → Int} {n k : Nat} {v a b : Int} (hk : k < n) (hf : f k = 0) (h0 : 0 ≤ v) (h1 : v < 65536) (ha : a = v % 256) (hb : b = v / 256) {i j : Nat} (hi : i = 8 * k) (hj : j = 8 * k + 1) :
    (((cellsC f n).map encB).set i [.val (.int .u8 a)]).set j [.val (.int .u8 b)] = (cellsC (updC f k v) n).map encB := by
  subst hi hj
  rw [← two_set hf h0 h1 hk, List.map_set, List.map_set]
  have e1 : encB (UInt8.ofNat (v % 256).toNat) = [.val (.int .u8 a)] := by
    unfold encB
    rw [UInt8.toNat_ofNat', ha]
    have : (((v % 256).toNat % 2 ^ 8 : Nat) : Int) = v % 256 := by omega
    rw [this]
  have e2 : encB (UInt8.ofNat (v / 256).toNat) = [.val (.int .u8 b)] := by
    unfold encB
    rw [UInt8.toNat_ofNat', hb]
    have : (((v / 256).toNat % 2 ^ 8 : Nat) : Int) = v / 256 := by omega
    rw [this]
  rw [e1, e2]
theorem two_rows2 {f : Nat → Int} {n k : Nat} (v : Int) (hk : k < n) (hf : f k = 0) (h0 : 0 ≤ v) (h1 : v < 65536) {i j : Nat} (hi : i = 8 * k) (hj : j = 8 * k + 1) :
    ∃ l1 : List UInt8, l1.length = 8 * n ∧ ((cellsC f n).map encB).set i [.val (.int .u8 (IntKind.u8.wrap (v.tmod 256)))] = l1.map encB ∧ (l1.map encB).set j [.val (.int .u8 (IntKind.u8.wrap (IntKind.i64.wrap (v.tdiv 256))))] = (cellsC (updC f k v) n).map encB := by
  have ha : IntKind.u8.wrap (v.tmod 256) = v % 256 := by rw [Int.tmod_eq_emod_of_nonneg h0, IntKind.wrap_u8]; omega
  have hb : IntKind.u8.wrap (IntKind.i64.wrap (v.tdiv 256)) = v / 256 := by rw [Int.tdiv_eq_ediv_of_nonneg h0, show IntKind.i64.wrap (v / 256) = v / 256 by (rw [IntKind.wrap_i64]; omega), IntKind.wrap_u8]; omega
  have e1 : encB (UInt8.ofNat (v % 256).toNat) = [.val (.int .u8 (v % 256))] := by
    unfold encB
    rw [UInt8.toNat_ofNat']
    have : (((v % 256).toNat % 2 ^ 8 : Nat) : Int) = v % 256 := by omega
    rw [this]
  refine ⟨(cellsC f n).set i (UInt8.ofNat (v % 256).toNat), by rw [List.length_set, cellsC_len], ?_, ?_⟩
  · rw [ha, ← e1, List.map_set]
  · rw [hb, ← two_rows hk hf h0 h1 rfl rfl hi hj, List.map_set, e1]
end Go.Proofs.Ytgkjappmcgnabaa
/- vm: the document's New, walked. -/
namespace Go.Proofs.Ytgkjappmcgnabaa
set_option linter.unusedVariables false
set_option linter.unusedSimpArgs false
open Go Go.RowKit
open Dict (St Bs bs_eq Wd encW encWs closed_ws encW_closed addD namedD)
open Mem (Mm encM encBs closed_bs putB putB_len byteAt encP)
open Stk (encS)
set_option maxRecDepth 100000
theorem valR_zero (q : Nat) (hq : 0 < q) : (List.replicate (8 * q) ([Value.int .u8 0].map zv)).set 0 [.val (.int .u8 10)] = (cellsC (valR 0) q).map encB := by
  have e : cellsC (fun _ => 0) q = List.replicate (8 * q) 0 := cellsC_zero q
  have h := two_rows (f := fun _ => 0) (n := q) (k := 0) (v := 10) (a := 10) (b := 0) hq rfl (by omega) (by omega) rfl rfl (i := 0) (j := 1) rfl rfl
  rw [e] at h
  have h2 : (cellsC (updC (fun _ => 0) 0 10) q) = cellsC (valR 0) q := cellsC_congr (fun j _ => by
    unfold updC valR
    repeat' split
    all_goals first | omega | rfl)
  rw [h2] at h
  rw [← h]
  have e3 : (List.replicate (8 * q) (0 : UInt8)).map encB = List.replicate (8 * q) ([Value.int .u8 0].map zv) := by rw [List.map_replicate]; rfl
  rw [e3]
  refine (List.ext_getElem? fun i => ?_)
  rw [List.getElem?_set (i := 1)]
  split
  · rename_i h1
    subst h1
    rw [List.getElem?_set_ne (by omega), List.getElem?_replicate]
    simp
    rfl
  · rfl
attribute [local irreducible] Decidable.decide awp ARun regK toK
set_option maxHeartbeats 16000000 in
theorem ref_new_c (c : Cf) : FnC Try.prog 10 [.agg (encC c)] (.tup [.agg (encV (newV c).1), .val (.int .i64 (newV c).2)]) := by
  have c1 := ref_fits_c c
  by_cases hF : FitsP c
  case neg =>
    rw [fits_no hF] at c1
    rw [newV_no hF]
    refine FnC.of_awp (T := tt) (ok := tok) Try.func10 (by kernel_rfl) rfl (by kernel_rfl) (closedL_cons (.agg (encC_closed _)) closedL_nil) (fun w0 st0 => ?_)
    dsimp only [frOf]
    (repeat' (first | refine awp_seq ?_ | refine awp_block ?_ | refine awp_region (fun _ => hmix) ?_ | refine ARun.op rfl (by first | exact True.intro | exact rfl | (unfold inR; omega) | omega | ((try unfold inR); simp only [decide_eq_true_eq, decide_eq_false_iff_not, beq_iff_eq, beq_eq_false_iff_ne, ne_eq, Bool.not_eq_true', Bool.not_eq_false', List.length_map, List.length_append, List.length_take, List.length_drop, List.length_replicate, List.length_cons, List.length_nil] at *; omega)) ?_ | refine callX (c1) rfl rfl rfl rfl ?_ | ((first | refine ARun.fin (by first | (intro h; cases h; done) | (intro _; kernel_rfl)) ?_ | refine awp_skip ?_ | refine awp_exit ?_); dsimp only [thenA, blockA, AS.bump, List.length_cons, List.length_nil, reduceIte, Nat.reduceEqDiff]) | refine awp_condT rfl (by first | rfl | assumption | exact beq_int _ | exact bne_int _) ?_ | refine awp_condF rfl (by first | rfl | assumption | exact beq_int _ | exact bne_int _) ?_ | ((fail_if_success refine ARun.plain rfl ?_); first | refine ARun.knowT rfl rfl rfl (by first | rfl | assumption | exact beq_int _ | exact bne_int _) ?_ | refine ARun.knowF rfl rfl rfl (by first | rfl | assumption | exact beq_int _ | exact bne_int _) ?_)))
    exact awp_ret ⟨_, ResL.cons (ResA.agg rfl rfl rfl rfl rfl rfl rfl (RL.cons (.val _) (RL.cons (.val _) (RL.cons (.val _) (RL.cons (.val _) (RL.cons (.val _) (RL.cons (.nilSl (sz' := 1)) (RL.cons (.nilSl (sz' := 2)) (RL.cons (.val _) (RL.cons (.nilSl (sz' := 1)) (RL.cons (.nilSl (sz' := 1)) (RL.cons (.nilSl (sz' := 3)) (RL.cons (.nilSl (sz' := 3)) (RL.cons (.val _) (RL.cons (.nilSl (sz' := 1)) (RL.cons (.nilSl (sz' := 1)) (RL.cons (.val _) (RL.cons (.nilSl (sz' := 6)) (RL.cons (.val _) (RL.cons (.val _) (RL.cons (.val _) (RL.cons (.val _) (RL.cons (.val _) (RL.cons (.nilSl (sz' := 4)) (RL.nil _))))))))))))))))))))))))) (ResL.cons (ResA.tmp (.val _)) .nil), rfl⟩
  rw [fits_yes hF] at c1
  rw [newV_new hF]
  have c2 := ref_names_c
  have c3 := ref_specials_c
  have len1 := len_nms
  have len2 := len_spc
  have lenA := bothL_len
  have hm1 := hF.1
  have hm2 := hF.2.1
  cases c with
  | mk mem data ret words out =>
  dsimp only at hm1 hm2
  rw [Int.tmod_eq_emod_of_nonneg (by omega)] at hm2
  obtain ⟨q, rfl⟩ : ∃ q : Nat, mem = ((8 * q : Nat) : Int) := ⟨(mem / 8).toNat, by omega⟩
  have hq : 256 ≤ q ∧ q ≤ 8192 := by omega
  have hs0 : (List.replicate (8 * q) ([Value.int .u8 0].map zv)).set (0 + Int.toNat 0) [.val (.int .u8 10)] = (cellsC (valR 0) q).map encB := valR_zero q (by omega)
  have hA : nmsV.map encN ++ spcV.map encN = bothL.map encN := by unfold bothL; rw [List.map_append]
  have hne : spcV.map encN ≠ [] := by rw [Ne, List.map_eq_nil_iff]; exact fun e => by have := congrArg List.length e; cases this
  refine FnC.of_awp (T := tt) (ok := tok) Try.func10 (by kernel_rfl) rfl (by kernel_rfl) (closedL_cons (.agg (encC_closed _)) closedL_nil) (fun w0 st0 => ?_)
  dsimp only [frOf]
  (repeat' (first | refine awp_seq ?_ | refine awp_block ?_ | refine awp_region (fun _ => hmix) ?_ | refine ARun.op rfl (by first | exact True.intro | exact rfl | (unfold inR; omega) | omega | ((try unfold inR); simp only [decide_eq_true_eq, decide_eq_false_iff_not, beq_iff_eq, beq_eq_false_iff_ne, ne_eq, Bool.not_eq_true', Bool.not_eq_false', List.length_map, List.length_append, List.length_take, List.length_drop, List.length_replicate, List.length_cons, List.length_nil] at *; omega)) ?_ | refine callX (c1) rfl rfl rfl rfl ?_ | refine callX (c2) rfl rfl rfl rfl ?_ | refine callX (c3) rfl rfl rfl rfl ?_ | refine ARun.makeSliceN rfl rfl rfl rfl rfl rfl rfl rfl rfl rfl (by first | omega | (dsimp only [maxLen]; done) | (dsimp only [maxLen]; omega) | (simp only [List.length_append, List.length_map, List.length_take, List.length_drop, List.length_replicate, List.length_cons, List.length_nil, maxLen]; done) | (simp only [List.length_append, List.length_map, List.length_take, List.length_drop, List.length_replicate, List.length_cons, List.length_nil, maxLen]; omega) | (simp only [List.length_append, List.length_map, List.length_take, List.length_drop, List.length_replicate, List.length_cons, List.length_nil, maxLen] at *; done) | (simp only [List.length_append, List.length_map, List.length_take, List.length_drop, List.length_replicate, List.length_cons, List.length_nil, maxLen] at *; omega)) rfl (guardF_spec rfl) (by first | omega | (dsimp only [maxLen]; done) | (dsimp only [maxLen]; omega) | (simp only [List.length_append, List.length_map, List.length_take, List.length_drop, List.length_replicate, List.length_cons, List.length_nil, maxLen]; done) | (simp only [List.length_append, List.length_map, List.length_take, List.length_drop, List.length_replicate, List.length_cons, List.length_nil, maxLen]; omega) | (simp only [List.length_append, List.length_map, List.length_take, List.length_drop, List.length_replicate, List.length_cons, List.length_nil, maxLen] at *; done) | (simp only [List.length_append, List.length_map, List.length_take, List.length_drop, List.length_replicate, List.length_cons, List.length_nil, maxLen] at *; omega)) ?_ | refine ARun.indexAddr_own rfl rfl rfl rfl (by first | omega | (dsimp only [maxLen]; done) | (dsimp only [maxLen]; omega) | (simp only [List.length_append, List.length_map, List.length_take, List.length_drop, List.length_replicate, List.length_cons, List.length_nil, maxLen]; done) | (simp only [List.length_append, List.length_map, List.length_take, List.length_drop, List.length_replicate, List.length_cons, List.length_nil, maxLen]; omega) | (simp only [List.length_append, List.length_map, List.length_take, List.length_drop, List.length_replicate, List.length_cons, List.length_nil, maxLen] at *; done) | (simp only [List.length_append, List.length_map, List.length_take, List.length_drop, List.length_replicate, List.length_cons, List.length_nil, maxLen] at *; omega)) (by first | omega | (dsimp only [maxLen]; done) | (dsimp only [maxLen]; omega) | (simp only [List.length_append, List.length_map, List.length_take, List.length_drop, List.length_replicate, List.length_cons, List.length_nil, maxLen]; done) | (simp only [List.length_append, List.length_map, List.length_take, List.length_drop, List.length_replicate, List.length_cons, List.length_nil, maxLen]; omega) | (simp only [List.length_append, List.length_map, List.length_take, List.length_drop, List.length_replicate, List.length_cons, List.length_nil, maxLen] at *; done) | (simp only [List.length_append, List.length_map, List.length_take, List.length_drop, List.length_replicate, List.length_cons, List.length_nil, maxLen] at *; omega)) rfl rfl rfl rfl rfl (guardF_spec rfl) ?_ | refine ARun.storeEl rfl rfl rfl (by rw [List.length_replicate]; omega) (fun el h => by rw [(List.mem_replicate.1 h).2]; rfl) rfl rfl rfl rfl rfl hs0 (guardF_spec rfl) ?_ | refine ARun.append_fullS rfl (by first | exact SrcA.sl rfl (.inr rfl) | exact SrcA.sl rfl (.inl rfl) | exact SrcA.ownW rfl rfl rfl rfl) rfl rfl rfl (.inr rfl) (.inr hne) rfl rfl (by first | omega | (dsimp only [maxLen]; done) | (dsimp only [maxLen]; omega) | (simp only [List.length_append, List.length_map, List.length_take, List.length_drop, List.length_replicate, List.length_cons, List.length_nil, maxLen]; done) | (simp only [List.length_append, List.length_map, List.length_take, List.length_drop, List.length_replicate, List.length_cons, List.length_nil, maxLen]; omega) | (simp only [List.length_append, List.length_map, List.length_take, List.length_drop, List.length_replicate, List.length_cons, List.length_nil, maxLen] at *; done) | (simp only [List.length_append, List.length_map, List.length_take, List.length_drop, List.length_replicate, List.length_cons, List.length_nil, maxLen] at *; omega)) (by first | omega | (dsimp only [maxLen]; done) | (dsimp only [maxLen]; omega) | (simp only [List.length_append, List.length_map, List.length_take, List.length_drop, List.length_replicate, List.length_cons, List.length_nil, maxLen]; done) | (simp only [List.length_append, List.length_map, List.length_take, List.length_drop, List.length_replicate, List.length_cons, List.length_nil, maxLen]; omega) | (simp only [List.length_append, List.length_map, List.length_take, List.length_drop, List.length_replicate, List.length_cons, List.length_nil, maxLen] at *; done) | (simp only [List.length_append, List.length_map, List.length_take, List.length_drop, List.length_replicate, List.length_cons, List.length_nil, maxLen] at *; omega)) rfl (guardF_spec rfl) ?_ | ((first | refine ARun.fin (by first | (intro h; cases h; done) | (intro _; kernel_rfl)) ?_ | refine awp_skip ?_ | refine awp_exit ?_); dsimp only [thenA, blockA, AS.bump, List.length_cons, List.length_nil, reduceIte, Nat.reduceEqDiff]) | refine awp_condT rfl (by first | rfl | assumption | exact beq_int _ | exact bne_int _) ?_ | refine awp_condF rfl (by first | rfl | assumption | exact beq_int _ | exact bne_int _) ?_ | ((fail_if_success refine ARun.plain rfl ?_); first | refine ARun.knowT rfl rfl rfl (by first | rfl | assumption | exact beq_int _ | exact bne_int _) ?_ | refine ARun.knowF rfl rfl rfl (by first | rfl | assumption | exact beq_int _ | exact bne_int _) ?_ | refine ARun.fork rfl rfl rfl (fun h => ?_) (fun h => ?_)) | refine awp_cond rfl (fun h => ?_) (fun h => ?_)))
  clear c1 hne hs0
  refine awp_freeze 23 _ 1 (bothL.map encN) (by rw [← hA]; rfl) (own_closed_map encN_closed) (fr' := [(8, .val (.int .i64 ((0 : Nat) : Int))), (7, .sl 0 true []), (6, .sl 1 false (bothL.map encN)), (5, .own 18 10 0 (8 * q)), (1, .ptr 1 0 0 0), (2, .ptr 2 1 0 0)]) (hp' := [(18, some ⟨10, 1, (cellsC (valR 0) q).map encB⟩), (1, some ⟨0, 5, [encC ⟨((8 * q : Nat) : Int), data, ret, words, out⟩]⟩), (2, some ⟨1, 23, [[.val (.int .i64 0), .val (.int .i64 0), .val (.int .i64 0), .val (.int .i64 0), .val (.int .i64 0), .sl 0 true [], .sl 0 true [], .val (.int .i64 0), .sl 0 true [], .sl 0 true [], .sl 0 true [], .sl 0 true [], .val (.int .i64 0), .sl 0 true [], .sl 0 true [], .val (.bool false), .sl 0 true [], .val (.int .i64 0), .val (.int .i64 0), .val (.int .i64 0), .val (.int .i64 0), .val (.int .i64 0), .sl 0 true []]]⟩)]) ⟨.inl rfl, .inl rfl, .inr ⟨_, rfl, by rw [← hA], rfl⟩, .inl rfl, .inl rfl, .inl rfl, trivial⟩ ⟨⟨rfl, rfl⟩, ⟨rfl, rfl⟩, ⟨rfl, rfl⟩, trivial⟩ ?_
  refine awp_ownNil 7 3 rfl rfl rfl ?_
  refine awp_loopT (T := Nat × Nat × Nat) (fun t => ⟨[(8, .val (.int .i64 (t.1 : Nat))), (6, .sl 1 false (bothL.map encN)), (5, .own 18 10 0 (8 * q)), (7, .own 7 t.2.1 0 ((dictR t.1).map encW).length), (1, .ptr 1 0 0 0), (2, .ptr 2 1 0 0)], [(18, some ⟨10, 1, (cellsC (valR t.1) q).map encB⟩), (7, some ⟨t.2.1, 3, (dictR t.1).map encW⟩), (1, some ⟨0, 5, [encC ⟨((8 * q : Nat) : Int), data, ret, words, out⟩]⟩), (2, some ⟨1, 23, [[.val (.int .i64 0), .val (.int .i64 0), .val (.int .i64 0), .val (.int .i64 0), .val (.int .i64 0), .sl 0 true [], .sl 0 true [], .val (.int .i64 0), .sl 0 true [], .sl 0 true [], .sl 0 true [], .sl 0 true [], .val (.int .i64 0), .sl 0 true [], .sl 0 true [], .val (.bool false), .sl 0 true [], .val (.int .i64 0), .val (.int .i64 0), .val (.int .i64 0), .val (.int .i64 0), .val (.int .i64 0), .sl 0 true []]]⟩)], t.2.2⟩) (fun t => t.1 ≤ 167) (fun t => 167 - t.1) (0, _, _) (Nat.zero_le _) ⟨⟨rfl, rfl, rfl, rfl, rfl, rfl, trivial⟩, ⟨rfl, rfl, rfl, rfl, trivial⟩, Nat.le_refl _⟩ (fun t ht => ?_)
  obtain ⟨i, g, gc⟩ := t
  dsimp only at ht ⊢
  have hmapL : (bothL.map encN).length = 167 := by rw [List.length_map]; exact lenA
  have hcl := cellsC_len (valR i) q
  by_cases hlt : i < 167
  · have hc : decide (((i : Nat) : Int) < ((bothL.map encN).length : Nat)) = true := decide_eq_true (by omega)
    have hp : bothL[i]? = some bothL[i] := List.getElem?_eq_getElem (by omega)
    generalize bothL[i] = nm at hp
    obtain ⟨g1, g2⟩ := all_at hp
    have hnm : nm.length ≤ 31 := of_decide_eq_true (List.all_eq_true.1 bothL_short nm (List.mem_of_getElem? hp))
    have cf := ref_flags_c nm ((i : Nat) : Int)
    have hstep := dictR_step hp
    have hdl : (dictR i).length ≤ 167 := by unfold dictR; rw [List.length_map, List.length_zipIdx, List.length_take]; omega
    have hf1 : valR i (4 + i) = 0 := by unfold valR nmR; rw [if_neg (by omega), if_neg (by omega), if_neg (by omega), if_neg (by omega)]
    have hnr : 0 ≤ nmR i ∧ nmR i < 65536 := by unfold nmR; split <;> omega
    obtain ⟨L1, hl1, hsA, hsB⟩ := two_rows2 (f := valR i) (n := q) (k := 4 + i) (nmR i) (by omega) hf1 hnr.1 hnr.2 (i := 0 + (32 + 8 * ((i : Nat) : Int)).toNat) (j := 0 + (32 + 8 * ((i : Nat) : Int) + 1).toNat) (by omega) (by omega)
    have hcl2 := cellsC_len (updC (valR i) (4 + i) (nmR i)) q
    have q0 : ∀ a b : Bs, ((ByteArray.mk a.toArray).toList == (ByteArray.mk b.toArray).toList) = decide (a = b) := bs_eq
    have hrow : ∀ m : Nat, (m = 2 ∧ i = 8) ∨ (m = 3 ∧ i = 9) → ∀ (x y : Nat), x = 8 * m → y = 8 * m + 1 → ∃ l1 : List UInt8, l1.length = 8 * q ∧ ((cellsC (updC (valR i) (4 + i) (nmR i)) q).map encB).set x [.val (.int .u8 (IntKind.u8.wrap ((32 + 8 * ((i : Nat) : Int)).tmod 256)))] = l1.map encB ∧ (l1.map encB).set y [.val (.int .u8 (IntKind.u8.wrap (IntKind.i64.wrap ((32 + 8 * ((i : Nat) : Int)).tdiv 256))))] = (cellsC (valR (i + 1)) q).map encB := by
      intro m hm x y hx hy
      have := two_rows2 (f := updC (valR i) (4 + i) (nmR i)) (n := q) (k := m) (32 + 8 * ((i : Nat) : Int)) (by omega) (by
        unfold updC valR
        repeat' split
        all_goals first | omega | rfl) (by omega) (by omega) hx hy
      rw [cellsC_congr (f := updC (updC (valR i) (4 + i) (nmR i)) m (32 + 8 * ((i : Nat) : Int))) (g := valR (i + 1)) (fun k _ => by
        unfold updC valR nmR
        repeat' split
        all_goals first | omega | rfl)] at this
      exact this
    have hplain : i ≠ 8 → i ≠ 9 → (cellsC (updC (valR i) (4 + i) (nmR i)) q).map encB = (cellsC (valR (i + 1)) q).map encB := fun n1 n2 => congrArg (List.map encB) (cellsC_congr (fun k _ => by
        unfold updC valR nmR
        repeat' split
        all_goals first | omega | rfl))
    have hwl : (wR (nm, i)) = ⟨nm, 32 + 8 * ((i : Nat) : Int), flagsD nm ((i : Nat) : Int)⟩ := rfl
    rw [hwl] at hstep
    by_cases h130 : i < 130
    · have d1 : decide ((((nmsV.map encN).length : Nat) : Int) ≤ ((i : Nat) : Int)) = false := decide_eq_false (by omega)
      rw [show nmR i = ((i : Nat) : Int) from if_pos h130] at hsA hsB hrow hplain hcl2
      generalize flagsD nm ((i : Nat) : Int) = fl at cf hstep
      generalize (cellsC (updC (valR i) (4 + i) ((i : Nat) : Int)) q) = R1 at *
      by_cases h1 : nm = nHalt
      · have d2 : ((ByteArray.mk nm.toArray).toList == (ByteArray.mk #[40, 104, 97, 108, 116, 41]).toList) = true := by rw [show ByteArray.mk #[40, 104, 97, 108, 116, 41] = ByteArray.mk nHalt.toArray from rfl, bs_eq]; exact decide_eq_true h1
        have d3 : ((ByteArray.mk nm.toArray).toList == (ByteArray.mk #[40, 99, 97, 117, 103, 104, 116, 41]).toList) = false := by rw [show ByteArray.mk #[40, 99, 97, 117, 103, 104, 116, 41] = ByteArray.mk nCaught.toArray from rfl, bs_eq]; exact decide_eq_false (fun e => by have e1 := g1.1 h1; have e2 := g2.1 e; omega)
        obtain ⟨L2, hl2, hsC, hsD⟩ := hrow 2 (.inl ⟨rfl, g1.1 h1⟩) (0 + Int.toNat 16) (0 + Int.toNat 17) rfl rfl
        clear hrow hplain
        (repeat' (first | refine awp_seq ?_ | refine awp_block ?_ | refine awp_region (fun _ => hmix) ?_ | refine ARun.op rfl (by first | exact True.intro | exact rfl | (unfold inR; omega) | omega | ((try unfold inR); simp only [decide_eq_true_eq, decide_eq_false_iff_not, beq_iff_eq, beq_eq_false_iff_ne, ne_eq, Bool.not_eq_true', Bool.not_eq_false', List.length_map, List.length_append, List.length_take, List.length_drop, List.length_replicate, List.length_cons, List.length_nil] at *; omega)) ?_ | refine callX (c2) rfl rfl rfl rfl ?_ | refine callX (c3) rfl rfl rfl rfl ?_ | refine callX (cf) rfl rfl rfl rfl ?_ | refine ARun.indexAddr_own rfl rfl rfl rfl (by first | omega | (dsimp only [maxLen]; done) | (dsimp only [maxLen]; omega) | (simp only [List.length_append, List.length_map, List.length_take, List.length_drop, List.length_replicate, List.length_cons, List.length_nil, maxLen]; done) | (simp only [List.length_append, List.length_map, List.length_take, List.length_drop, List.length_replicate, List.length_cons, List.length_nil, maxLen]; omega) | (simp only [List.length_append, List.length_map, List.length_take, List.length_drop, List.length_replicate, List.length_cons, List.length_nil, maxLen] at *; done) | (simp only [List.length_append, List.length_map, List.length_take, List.length_drop, List.length_replicate, List.length_cons, List.length_nil, maxLen] at *; omega)) (by first | omega | (dsimp only [maxLen]; done) | (dsimp only [maxLen]; omega) | (simp only [List.length_append, List.length_map, List.length_take, List.length_drop, List.length_replicate, List.length_cons, List.length_nil, maxLen]; done) | (simp only [List.length_append, List.length_map, List.length_take, List.length_drop, List.length_replicate, List.length_cons, List.length_nil, maxLen]; omega) | (simp only [List.length_append, List.length_map, List.length_take, List.length_drop, List.length_replicate, List.length_cons, List.length_nil, maxLen] at *; done) | (simp only [List.length_append, List.length_map, List.length_take, List.length_drop, List.length_replicate, List.length_cons, List.length_nil, maxLen] at *; omega)) rfl rfl rfl rfl rfl (guardF_spec rfl) ?_ | refine ARun.storeEl rfl rfl rfl (by first | omega | (dsimp only [maxLen]; done) | (dsimp only [maxLen]; omega) | (simp only [List.length_append, List.length_map, List.length_take, List.length_drop, List.length_replicate, List.length_cons, List.length_nil, maxLen]; done) | (simp only [List.length_append, List.length_map, List.length_take, List.length_drop, List.length_replicate, List.length_cons, List.length_nil, maxLen]; omega) | (simp only [List.length_append, List.length_map, List.length_take, List.length_drop, List.length_replicate, List.length_cons, List.length_nil, maxLen] at *; done) | (simp only [List.length_append, List.length_map, List.length_take, List.length_drop, List.length_replicate, List.length_cons, List.length_nil, maxLen] at *; omega)) (by first | exact map_len (fun _ => rfl)) rfl rfl rfl rfl rfl (by assumption) (guardF_spec rfl) ?_ | refine ARun.indexAddr rfl rfl (by omega) (by first | with_reducible exact get_map hp | with_reducible exact get_map hp) rfl rfl rfl rfl rfl (guardF_spec rfl) ?_ | refine ARun.buildSliceO rfl rfl rfl rfl rfl rfl rfl (buildSF_spec rfl) rfl (guardF_spec rfl) ?_ | refine ARun.append_ownS rfl rfl rfl rfl (by first | exact SrcA.sl rfl (.inr rfl) | exact SrcA.sl rfl (.inl rfl) | exact SrcA.ownW rfl rfl rfl rfl) rfl rfl rfl rfl rfl rfl (by first | omega | (dsimp only [maxLen]; done) | (dsimp only [maxLen]; omega) | (simp only [List.length_append, List.length_map, List.length_take, List.length_drop, List.length_replicate, List.length_cons, List.length_nil, maxLen]; done) | (simp only [List.length_append, List.length_map, List.length_take, List.length_drop, List.length_replicate, List.length_cons, List.length_nil, maxLen]; omega) | (simp only [List.length_append, List.length_map, List.length_take, List.length_drop, List.length_replicate, List.length_cons, List.length_nil, maxLen] at *; done) | (simp only [List.length_append, List.length_map, List.length_take, List.length_drop, List.length_replicate, List.length_cons, List.length_nil, maxLen] at *; omega)) (by first | omega | (dsimp only [maxLen]; done) | (dsimp only [maxLen]; omega) | (simp only [List.length_append, List.length_map, List.length_take, List.length_drop, List.length_replicate, List.length_cons, List.length_nil, maxLen]; done) | (simp only [List.length_append, List.length_map, List.length_take, List.length_drop, List.length_replicate, List.length_cons, List.length_nil, maxLen]; omega) | (simp only [List.length_append, List.length_map, List.length_take, List.length_drop, List.length_replicate, List.length_cons, List.length_nil, maxLen] at *; done) | (simp only [List.length_append, List.length_map, List.length_take, List.length_drop, List.length_replicate, List.length_cons, List.length_nil, maxLen] at *; omega)) rfl (guardF_spec rfl) ?_ | ((first | refine ARun.fin (by first | (intro h; cases h; done) | (intro _; kernel_rfl)) ?_ | refine awp_skip ?_ | refine awp_exit ?_); dsimp only [thenA, blockA, AS.bump, List.length_cons, List.length_nil, reduceIte, Nat.reduceEqDiff]) | refine awp_condT rfl (by first | rfl | assumption | exact beq_int _ | exact bne_int _) ?_ | refine awp_condF rfl (by first | rfl | assumption | exact beq_int _ | exact bne_int _) ?_ | ((fail_if_success refine ARun.plain rfl ?_); first | refine ARun.knowT rfl rfl rfl (by first | rfl | assumption | exact beq_int _ | exact bne_int _) ?_ | refine ARun.knowF rfl rfl rfl (by first | rfl | assumption | exact beq_int _ | exact bne_int _) ?_ | refine ARun.fork rfl rfl rfl (fun h => ?_) (fun h => ?_)) | refine awp_cond rfl (fun h => ?_) (fun h => ?_)))
        exact ⟨(i + 1, _, _), ⟨⟨succI i, rfl, rfl, (by dsimp only; rw [hstep]; rfl), rfl, rfl, trivial⟩, ⟨rfl, (by dsimp only; rw [hstep]; rfl), rfl, rfl, trivial⟩, Nat.le_refl _⟩, hlt, (by dsimp only; omega)⟩
      have d2 : ((ByteArray.mk nm.toArray).toList == (ByteArray.mk #[40, 104, 97, 108, 116, 41]).toList) = false := by rw [show ByteArray.mk #[40, 104, 97, 108, 116, 41] = ByteArray.mk nHalt.toArray from rfl, bs_eq]; exact decide_eq_false h1
      by_cases h2 : nm = nCaught
      · have d3 : ((ByteArray.mk nm.toArray).toList == (ByteArray.mk #[40, 99, 97, 117, 103, 104, 116, 41]).toList) = true := by rw [show ByteArray.mk #[40, 99, 97, 117, 103, 104, 116, 41] = ByteArray.mk nCaught.toArray from rfl, bs_eq]; exact decide_eq_true h2
        obtain ⟨L2, hl2, hsC, hsD⟩ := hrow 3 (.inr ⟨rfl, g2.1 h2⟩) (0 + Int.toNat 24) (0 + Int.toNat 25) rfl rfl
        clear hrow hplain
        (repeat' (first | refine awp_seq ?_ | refine awp_block ?_ | refine awp_region (fun _ => hmix) ?_ | refine ARun.op rfl (by first | exact True.intro | exact rfl | (unfold inR; omega) | omega | ((try unfold inR); simp only [decide_eq_true_eq, decide_eq_false_iff_not, beq_iff_eq, beq_eq_false_iff_ne, ne_eq, Bool.not_eq_true', Bool.not_eq_false', List.length_map, List.length_append, List.length_take, List.length_drop, List.length_replicate, List.length_cons, List.length_nil] at *; omega)) ?_ | refine callX (c2) rfl rfl rfl rfl ?_ | refine callX (c3) rfl rfl rfl rfl ?_ | refine callX (cf) rfl rfl rfl rfl ?_ | refine ARun.indexAddr_own rfl rfl rfl rfl (by first | omega | (dsimp only [maxLen]; done) | (dsimp only [maxLen]; omega) | (simp only [List.length_append, List.length_map, List.length_take, List.length_drop, List.length_replicate, List.length_cons, List.length_nil, maxLen]; done) | (simp only [List.length_append, List.length_map, List.length_take, List.length_drop, List.length_replicate, List.length_cons, List.length_nil, maxLen]; omega) | (simp only [List.length_append, List.length_map, List.length_take, List.length_drop, List.length_replicate, List.length_cons, List.length_nil, maxLen] at *; done) | (simp only [List.length_append, List.length_map, List.length_take, List.length_drop, List.length_replicate, List.length_cons, List.length_nil, maxLen] at *; omega)) (by first | omega | (dsimp only [maxLen]; done) | (dsimp only [maxLen]; omega) | (simp only [List.length_append, List.length_map, List.length_take, List.length_drop, List.length_replicate, List.length_cons, List.length_nil, maxLen]; done) | (simp only [List.length_append, List.length_map, List.length_take, List.length_drop, List.length_replicate, List.length_cons, List.length_nil, maxLen]; omega) | (simp only [List.length_append, List.length_map, List.length_take, List.length_drop, List.length_replicate, List.length_cons, List.length_nil, maxLen] at *; done) | (simp only [List.length_append, List.length_map, List.length_take, List.length_drop, List.length_replicate, List.length_cons, List.length_nil, maxLen] at *; omega)) rfl rfl rfl rfl rfl (guardF_spec rfl) ?_ | refine ARun.storeEl rfl rfl rfl (by first | omega | (dsimp only [maxLen]; done) | (dsimp only [maxLen]; omega) | (simp only [List.length_append, List.length_map, List.length_take, List.length_drop, List.length_replicate, List.length_cons, List.length_nil, maxLen]; done) | (simp only [List.length_append, List.length_map, List.length_take, List.length_drop, List.length_replicate, List.length_cons, List.length_nil, maxLen]; omega) | (simp only [List.length_append, List.length_map, List.length_take, List.length_drop, List.length_replicate, List.length_cons, List.length_nil, maxLen] at *; done) | (simp only [List.length_append, List.length_map, List.length_take, List.length_drop, List.length_replicate, List.length_cons, List.length_nil, maxLen] at *; omega)) (by first | exact map_len (fun _ => rfl)) rfl rfl rfl rfl rfl (by assumption) (guardF_spec rfl) ?_ | refine ARun.indexAddr rfl rfl (by omega) (by first | with_reducible exact get_map hp | with_reducible exact get_map hp) rfl rfl rfl rfl rfl (guardF_spec rfl) ?_ | refine ARun.buildSliceO rfl rfl rfl rfl rfl rfl rfl (buildSF_spec rfl) rfl (guardF_spec rfl) ?_ | refine ARun.append_ownS rfl rfl rfl rfl (by first | exact SrcA.sl rfl (.inr rfl) | exact SrcA.sl rfl (.inl rfl) | exact SrcA.ownW rfl rfl rfl rfl) rfl rfl rfl rfl rfl rfl (by first | omega | (dsimp only [maxLen]; done) | (dsimp only [maxLen]; omega) | (simp only [List.length_append, List.length_map, List.length_take, List.length_drop, List.length_replicate, List.length_cons, List.length_nil, maxLen]; done) | (simp only [List.length_append, List.length_map, List.length_take, List.length_drop, List.length_replicate, List.length_cons, List.length_nil, maxLen]; omega) | (simp only [List.length_append, List.length_map, List.length_take, List.length_drop, List.length_replicate, List.length_cons, List.length_nil, maxLen] at *; done) | (simp only [List.length_append, List.length_map, List.length_take, List.length_drop, List.length_replicate, List.length_cons, List.length_nil, maxLen] at *; omega)) (by first | omega | (dsimp only [maxLen]; done) | (dsimp only [maxLen]; omega) | (simp only [List.length_append, List.length_map, List.length_take, List.length_drop, List.length_replicate, List.length_cons, List.length_nil, maxLen]; done) | (simp only [List.length_append, List.length_map, List.length_take, List.length_drop, List.length_replicate, List.length_cons, List.length_nil, maxLen]; omega) | (simp only [List.length_append, List.length_map, List.length_take, List.length_drop, List.length_replicate, List.length_cons, List.length_nil, maxLen] at *; done) | (simp only [List.length_append, List.length_map, List.length_take, List.length_drop, List.length_replicate, List.length_cons, List.length_nil, maxLen] at *; omega)) rfl (guardF_spec rfl) ?_ | ((first | refine ARun.fin (by first | (intro h; cases h; done) | (intro _; kernel_rfl)) ?_ | refine awp_skip ?_ | refine awp_exit ?_); dsimp only [thenA, blockA, AS.bump, List.length_cons, List.length_nil, reduceIte, Nat.reduceEqDiff]) | refine awp_condT rfl (by first | rfl | assumption | exact beq_int _ | exact bne_int _) ?_ | refine awp_condF rfl (by first | rfl | assumption | exact beq_int _ | exact bne_int _) ?_ | ((fail_if_success refine ARun.plain rfl ?_); first | refine ARun.knowT rfl rfl rfl (by first | rfl | assumption | exact beq_int _ | exact bne_int _) ?_ | refine ARun.knowF rfl rfl rfl (by first | rfl | assumption | exact beq_int _ | exact bne_int _) ?_ | refine ARun.fork rfl rfl rfl (fun h => ?_) (fun h => ?_)) | refine awp_cond rfl (fun h => ?_) (fun h => ?_)))
        exact ⟨(i + 1, _, _), ⟨⟨succI i, rfl, rfl, (by dsimp only; rw [hstep]; rfl), rfl, rfl, trivial⟩, ⟨rfl, (by dsimp only; rw [hstep]; rfl), rfl, rfl, trivial⟩, Nat.le_refl _⟩, hlt, (by dsimp only; omega)⟩
      have d3 : ((ByteArray.mk nm.toArray).toList == (ByteArray.mk #[40, 99, 97, 117, 103, 104, 116, 41]).toList) = false := by rw [show ByteArray.mk #[40, 99, 97, 117, 103, 104, 116, 41] = ByteArray.mk nCaught.toArray from rfl, bs_eq]; exact decide_eq_false h2
      have hpl := hplain (fun e => h1 (g1.2 e)) (fun e => h2 (g2.2 e))
      rw [hpl] at hsB
      clear hrow hplain
      (repeat' (first | refine awp_seq ?_ | refine awp_block ?_ | refine awp_region (fun _ => hmix) ?_ | refine ARun.op rfl (by first | exact True.intro | exact rfl | (unfold inR; omega) | omega | ((try unfold inR); simp only [decide_eq_true_eq, decide_eq_false_iff_not, beq_iff_eq, beq_eq_false_iff_ne, ne_eq, Bool.not_eq_true', Bool.not_eq_false', List.length_map, List.length_append, List.length_take, List.length_drop, List.length_replicate, List.length_cons, List.length_nil] at *; omega)) ?_ | refine callX (c2) rfl rfl rfl rfl ?_ | refine callX (c3) rfl rfl rfl rfl ?_ | refine callX (cf) rfl rfl rfl rfl ?_ | refine ARun.indexAddr_own rfl rfl rfl rfl (by first | omega | (dsimp only [maxLen]; done) | (dsimp only [maxLen]; omega) | (simp only [List.length_append, List.length_map, List.length_take, List.length_drop, List.length_replicate, List.length_cons, List.length_nil, maxLen]; done) | (simp only [List.length_append, List.length_map, List.length_take, List.length_drop, List.length_replicate, List.length_cons, List.length_nil, maxLen]; omega) | (simp only [List.length_append, List.length_map, List.length_take, List.length_drop, List.length_replicate, List.length_cons, List.length_nil, maxLen] at *; done) | (simp only [List.length_append, List.length_map, List.length_take, List.length_drop, List.length_replicate, List.length_cons, List.length_nil, maxLen] at *; omega)) (by first | omega | (dsimp only [maxLen]; done) | (dsimp only [maxLen]; omega) | (simp only [List.length_append, List.length_map, List.length_take, List.length_drop, List.length_replicate, List.length_cons, List.length_nil, maxLen]; done) | (simp only [List.length_append, List.length_map, List.length_take, List.length_drop, List.length_replicate, List.length_cons, List.length_nil, maxLen]; omega) | (simp only [List.length_append, List.length_map, List.length_take, List.length_drop, List.length_replicate, List.length_cons, List.length_nil, maxLen] at *; done) | (simp only [List.length_append, List.length_map, List.length_take, List.length_drop, List.length_replicate, List.length_cons, List.length_nil, maxLen] at *; omega)) rfl rfl rfl rfl rfl (guardF_spec rfl) ?_ | refine ARun.storeEl rfl rfl rfl (by first | omega | (dsimp only [maxLen]; done) | (dsimp only [maxLen]; omega) | (simp only [List.length_append, List.length_map, List.length_take, List.length_drop, List.length_replicate, List.length_cons, List.length_nil, maxLen]; done) | (simp only [List.length_append, List.length_map, List.length_take, List.length_drop, List.length_replicate, List.length_cons, List.length_nil, maxLen]; omega) | (simp only [List.length_append, List.length_map, List.length_take, List.length_drop, List.length_replicate, List.length_cons, List.length_nil, maxLen] at *; done) | (simp only [List.length_append, List.length_map, List.length_take, List.length_drop, List.length_replicate, List.length_cons, List.length_nil, maxLen] at *; omega)) (by first | exact map_len (fun _ => rfl)) rfl rfl rfl rfl rfl (by assumption) (guardF_spec rfl) ?_ | refine ARun.indexAddr rfl rfl (by omega) (by first | with_reducible exact get_map hp | with_reducible exact get_map hp) rfl rfl rfl rfl rfl (guardF_spec rfl) ?_ | refine ARun.buildSliceO rfl rfl rfl rfl rfl rfl rfl (buildSF_spec rfl) rfl (guardF_spec rfl) ?_ | refine ARun.append_ownS rfl rfl rfl rfl (by first | exact SrcA.sl rfl (.inr rfl) | exact SrcA.sl rfl (.inl rfl) | exact SrcA.ownW rfl rfl rfl rfl) rfl rfl rfl rfl rfl rfl (by first | omega | (dsimp only [maxLen]; done) | (dsimp only [maxLen]; omega) | (simp only [List.length_append, List.length_map, List.length_take, List.length_drop, List.length_replicate, List.length_cons, List.length_nil, maxLen]; done) | (simp only [List.length_append, List.length_map, List.length_take, List.length_drop, List.length_replicate, List.length_cons, List.length_nil, maxLen]; omega) | (simp only [List.length_append, List.length_map, List.length_take, List.length_drop, List.length_replicate, List.length_cons, List.length_nil, maxLen] at *; done) | (simp only [List.length_append, List.length_map, List.length_take, List.length_drop, List.length_replicate, List.length_cons, List.length_nil, maxLen] at *; omega)) (by first | omega | (dsimp only [maxLen]; done) | (dsimp only [maxLen]; omega) | (simp only [List.length_append, List.length_map, List.length_take, List.length_drop, List.length_replicate, List.length_cons, List.length_nil, maxLen]; done) | (simp only [List.length_append, List.length_map, List.length_take, List.length_drop, List.length_replicate, List.length_cons, List.length_nil, maxLen]; omega) | (simp only [List.length_append, List.length_map, List.length_take, List.length_drop, List.length_replicate, List.length_cons, List.length_nil, maxLen] at *; done) | (simp only [List.length_append, List.length_map, List.length_take, List.length_drop, List.length_replicate, List.length_cons, List.length_nil, maxLen] at *; omega)) rfl (guardF_spec rfl) ?_ | ((first | refine ARun.fin (by first | (intro h; cases h; done) | (intro _; kernel_rfl)) ?_ | refine awp_skip ?_ | refine awp_exit ?_); dsimp only [thenA, blockA, AS.bump, List.length_cons, List.length_nil, reduceIte, Nat.reduceEqDiff]) | refine awp_condT rfl (by first | rfl | assumption | exact beq_int _ | exact bne_int _) ?_ | refine awp_condF rfl (by first | rfl | assumption | exact beq_int _ | exact bne_int _) ?_ | ((fail_if_success refine ARun.plain rfl ?_); first | refine ARun.knowT rfl rfl rfl (by first | rfl | assumption | exact beq_int _ | exact bne_int _) ?_ | refine ARun.knowF rfl rfl rfl (by first | rfl | assumption | exact beq_int _ | exact bne_int _) ?_ | refine ARun.fork rfl rfl rfl (fun h => ?_) (fun h => ?_)) | refine awp_cond rfl (fun h => ?_) (fun h => ?_)))
      exact ⟨(i + 1, _, _), ⟨⟨succI i, rfl, rfl, (by dsimp only; rw [hstep]; rfl), rfl, rfl, trivial⟩, ⟨rfl, (by dsimp only; rw [hstep]; rfl), rfl, rfl, trivial⟩, Nat.le_refl _⟩, hlt, (by dsimp only; omega)⟩
    · have d1 : decide ((((nmsV.map encN).length : Nat) : Int) ≤ ((i : Nat) : Int)) = true := decide_eq_true (by omega)
      have e130 : nmR i = 300 + ((i : Nat) : Int) - (((nmsV.map encN).length : Nat) : Int) := by rw [show nmR i = ((i : Nat) : Int) + 170 from if_neg h130, len1]; omega
      have h1 : nm ≠ nHalt := fun e => by have := g1.1 e; omega
      have h2 : nm ≠ nCaught := fun e => by have := g2.1 e; omega
      have d2 : ((ByteArray.mk nm.toArray).toList == (ByteArray.mk #[40, 104, 97, 108, 116, 41]).toList) = false := by rw [show ByteArray.mk #[40, 104, 97, 108, 116, 41] = ByteArray.mk nHalt.toArray from rfl, bs_eq]; exact decide_eq_false h1
      have d3 : ((ByteArray.mk nm.toArray).toList == (ByteArray.mk #[40, 99, 97, 117, 103, 104, 116, 41]).toList) = false := by rw [show ByteArray.mk #[40, 99, 97, 117, 103, 104, 116, 41] = ByteArray.mk nCaught.toArray from rfl, bs_eq]; exact decide_eq_false h2
      rw [hplain (by omega) (by omega)] at hsB
      rw [e130] at hsA hsB
      clear hrow hplain
      generalize flagsD nm ((i : Nat) : Int) = fl at cf hstep
      (repeat' (first | refine awp_seq ?_ | refine awp_block ?_ | refine awp_region (fun _ => hmix) ?_ | refine ARun.op rfl (by first | exact True.intro | exact rfl | (unfold inR; omega) | omega | ((try unfold inR); simp only [decide_eq_true_eq, decide_eq_false_iff_not, beq_iff_eq, beq_eq_false_iff_ne, ne_eq, Bool.not_eq_true', Bool.not_eq_false', List.length_map, List.length_append, List.length_take, List.length_drop, List.length_replicate, List.length_cons, List.length_nil] at *; omega)) ?_ | refine callX (c2) rfl rfl rfl rfl ?_ | refine callX (c3) rfl rfl rfl rfl ?_ | refine callX (cf) rfl rfl rfl rfl ?_ | refine ARun.indexAddr_own rfl rfl rfl rfl (by first | omega | (dsimp only [maxLen]; done) | (dsimp only [maxLen]; omega) | (simp only [List.length_append, List.length_map, List.length_take, List.length_drop, List.length_replicate, List.length_cons, List.length_nil, maxLen]; done) | (simp only [List.length_append, List.length_map, List.length_take, List.length_drop, List.length_replicate, List.length_cons, List.length_nil, maxLen]; omega) | (simp only [List.length_append, List.length_map, List.length_take, List.length_drop, List.length_replicate, List.length_cons, List.length_nil, maxLen] at *; done) | (simp only [List.length_append, List.length_map, List.length_take, List.length_drop, List.length_replicate, List.length_cons, List.length_nil, maxLen] at *; omega)) (by first | omega | (dsimp only [maxLen]; done) | (dsimp only [maxLen]; omega) | (simp only [List.length_append, List.length_map, List.length_take, List.length_drop, List.length_replicate, List.length_cons, List.length_nil, maxLen]; done) | (simp only [List.length_append, List.length_map, List.length_take, List.length_drop, List.length_replicate, List.length_cons, List.length_nil, maxLen]; omega) | (simp only [List.length_append, List.length_map, List.length_take, List.length_drop, List.length_replicate, List.length_cons, List.length_nil, maxLen] at *; done) | (simp only [List.length_append, List.length_map, List.length_take, List.length_drop, List.length_replicate, List.length_cons, List.length_nil, maxLen] at *; omega)) rfl rfl rfl rfl rfl (guardF_spec rfl) ?_ | refine ARun.storeEl rfl rfl rfl (by first | omega | (dsimp only [maxLen]; done) | (dsimp only [maxLen]; omega) | (simp only [List.length_append, List.length_map, List.length_take, List.length_drop, List.length_replicate, List.length_cons, List.length_nil, maxLen]; done) | (simp only [List.length_append, List.length_map, List.length_take, List.length_drop, List.length_replicate, List.length_cons, List.length_nil, maxLen]; omega) | (simp only [List.length_append, List.length_map, List.length_take, List.length_drop, List.length_replicate, List.length_cons, List.length_nil, maxLen] at *; done) | (simp only [List.length_append, List.length_map, List.length_take, List.length_drop, List.length_replicate, List.length_cons, List.length_nil, maxLen] at *; omega)) (by first | exact map_len (fun _ => rfl)) rfl rfl rfl rfl rfl (by assumption) (guardF_spec rfl) ?_ | refine ARun.indexAddr rfl rfl (by omega) (by first | with_reducible exact get_map hp | with_reducible exact get_map hp) rfl rfl rfl rfl rfl (guardF_spec rfl) ?_ | refine ARun.buildSliceO rfl rfl rfl rfl rfl rfl rfl (buildSF_spec rfl) rfl (guardF_spec rfl) ?_ | refine ARun.append_ownS rfl rfl rfl rfl (by first | exact SrcA.sl rfl (.inr rfl) | exact SrcA.sl rfl (.inl rfl) | exact SrcA.ownW rfl rfl rfl rfl) rfl rfl rfl rfl rfl rfl (by first | omega | (dsimp only [maxLen]; done) | (dsimp only [maxLen]; omega) | (simp only [List.length_append, List.length_map, List.length_take, List.length_drop, List.length_replicate, List.length_cons, List.length_nil, maxLen]; done) | (simp only [List.length_append, List.length_map, List.length_take, List.length_drop, List.length_replicate, List.length_cons, List.length_nil, maxLen]; omega) | (simp only [List.length_append, List.length_map, List.length_take, List.length_drop, List.length_replicate, List.length_cons, List.length_nil, maxLen] at *; done) | (simp only [List.length_append, List.length_map, List.length_take, List.length_drop, List.length_replicate, List.length_cons, List.length_nil, maxLen] at *; omega)) (by first | omega | (dsimp only [maxLen]; done) | (dsimp only [maxLen]; omega) | (simp only [List.length_append, List.length_map, List.length_take, List.length_drop, List.length_replicate, List.length_cons, List.length_nil, maxLen]; done) | (simp only [List.length_append, List.length_map, List.length_take, List.length_drop, List.length_replicate, List.length_cons, List.length_nil, maxLen]; omega) | (simp only [List.length_append, List.length_map, List.length_take, List.length_drop, List.length_replicate, List.length_cons, List.length_nil, maxLen] at *; done) | (simp only [List.length_append, List.length_map, List.length_take, List.length_drop, List.length_replicate, List.length_cons, List.length_nil, maxLen] at *; omega)) rfl (guardF_spec rfl) ?_ | ((first | refine ARun.fin (by first | (intro h; cases h; done) | (intro _; kernel_rfl)) ?_ | refine awp_skip ?_ | refine awp_exit ?_); dsimp only [thenA, blockA, AS.bump, List.length_cons, List.length_nil, reduceIte, Nat.reduceEqDiff]) | refine awp_condT rfl (by first | rfl | assumption | exact beq_int _ | exact bne_int _) ?_ | refine awp_condF rfl (by first | rfl | assumption | exact beq_int _ | exact bne_int _) ?_ | ((fail_if_success refine ARun.plain rfl ?_); first | refine ARun.knowT rfl rfl rfl (by first | rfl | assumption | exact beq_int _ | exact bne_int _) ?_ | refine ARun.knowF rfl rfl rfl (by first | rfl | assumption | exact beq_int _ | exact bne_int _) ?_ | refine ARun.fork rfl rfl rfl (fun h => ?_) (fun h => ?_)) | refine awp_cond rfl (fun h => ?_) (fun h => ?_)))
      exact ⟨(i + 1, _, _), ⟨⟨succI i, rfl, rfl, (by dsimp only; rw [hstep]; rfl), rfl, rfl, trivial⟩, ⟨rfl, (by dsimp only; rw [hstep]; rfl), rfl, rfl, trivial⟩, Nat.le_refl _⟩, hlt, (by dsimp only; omega)⟩
  · have hii : i = 167 := by omega
    subst hii
    have hc : decide (((167 : Nat) : Int) < ((bothL.map encN).length : Nat)) = false := decide_eq_false (by omega)
    have hbl : ((cellsC (valR 167) q).map encB).length = 8 * q := by rw [List.length_map, hcl]
    have eR : cellsC (valR 167) q = cellsC (updC (valS 37) 0 10) q := cellsC_congr (fun k _ => valR_end k)
    (repeat' (first | refine awp_seq ?_ | refine awp_block ?_ | refine awp_region (fun _ => hmix) ?_ | refine ARun.op rfl (by first | exact True.intro | exact rfl | (unfold inR; omega) | omega | ((try unfold inR); simp only [decide_eq_true_eq, decide_eq_false_iff_not, beq_iff_eq, beq_eq_false_iff_ne, ne_eq, Bool.not_eq_true', Bool.not_eq_false', List.length_map, List.length_append, List.length_take, List.length_drop, List.length_replicate, List.length_cons, List.length_nil] at *; omega)) ?_ | ((first | refine ARun.fin (by first | (intro h; cases h; done) | (intro _; kernel_rfl)) ?_ | refine awp_skip ?_ | refine awp_exit ?_); dsimp only [thenA, blockA, AS.bump, List.length_cons, List.length_nil, reduceIte, Nat.reduceEqDiff]) | refine awp_condT rfl (by first | rfl | assumption | exact beq_int _ | exact bne_int _) ?_ | refine awp_condF rfl (by first | rfl | assumption | exact beq_int _ | exact bne_int _) ?_ | ((fail_if_success refine ARun.plain rfl ?_); first | refine ARun.knowT rfl rfl rfl (by first | rfl | assumption | exact beq_int _ | exact bne_int _) ?_ | refine ARun.knowF rfl rfl rfl (by first | rfl | assumption | exact beq_int _ | exact bne_int _) ?_ | refine ARun.fork rfl rfl rfl (fun h => ?_) (fun h => ?_)) | refine awp_cond rfl (fun h => ?_) (fun h => ?_)))
    refine awp_ret ⟨_, ResL.cons (ResA.agg rfl rfl rfl rfl rfl rfl rfl (RL.cons (.val _) (RL.cons (.val _) (RL.cons (.val _) (RL.cons (.val _) (RL.cons (.val _) (RL.cons (.owned rfl rfl hbl (own_closed_map encB_closed)) (RL.cons (.nilSl (sz' := 2)) (RL.cons (.val _) (RL.cons (.nilSl (sz' := 1)) (RL.cons (.nilSl (sz' := 1)) (RL.cons (.nilSl (sz' := 3)) (RL.cons (.owned rfl rfl rfl (own_closed_map encW_closed)) (RL.cons (.val _) (RL.cons (.nilSl (sz' := 1)) (RL.cons (.nilSl (sz' := 1)) (RL.cons (.val _) (RL.cons (.nilSl (sz' := 6)) (RL.cons (.val _) (RL.cons (.val _) (RL.cons (.val _) (RL.cons (.val _) (RL.cons (.val _) (RL.cons (.nilSl (sz' := 4)) (RL.nil _))))))))))))))))))))))))) (ResL.cons (ResA.tmp (.val _)) .nil), ?_⟩
    show AV.tup [.agg (encV (vNew ⟨((8 * q : Nat) : Int), data, ret, words, out⟩)), _] = _
    unfold encV vNew
    dsimp only
    rw [show (((8 * q : Nat) : Int)).toNat / 8 = q by omega, ← eR, ← dictR_end]
    rfl
end Go.Proofs.Ytgkjappmcgnabaa
/- vm: VmTells and VmBegins return true. -/
namespace Go.Proofs.Ytgkjappmcgnabaa
set_option linter.unusedVariables false
set_option linter.unusedSimpArgs false
open Go Go.RowKit
open Dict (St Bs bs_eq Wd encW encWs closed_ws encW_closed findD encFd)
open Mem (Mm encM encBs closed_bs fetchD)
open Stk (encS)
set_option maxRecDepth 100000
theorem newV_held (c : Cf) : Held (newV c).1 := by
  by_cases hF : FitsP c
  · rw [newV_new hF]; exact vNew_held hF
  · rw [newV_no hF]; exact held_zero
attribute [local irreducible] Decidable.decide awp ARun regK toK
theorem ref08_self_c (l : List Bs) (hl : l.length ≤ 1000000) : FnC Try.prog 11 [.sl 1 false (l.map encN), .sl 1 false (l.map encN)] (.val (.bool true)) := by
  refine FnC.of_awp (T := tt) (ok := tok) Try.func11 (by kernel_rfl) rfl (by kernel_rfl) (closedL_cons (closed_ns l) (closedL_cons (closed_ns l) closedL_nil)) (fun w0 st0 => ?_)
  dsimp only [frOf]
  have d1 : ((((l.map encN).length : Nat) : Int) != (((l.map encN).length : Nat) : Int)) = false := bne_int _
  (repeat' (first | refine awp_seq ?_ | refine awp_block ?_ | refine awp_region (fun _ => hmix) ?_ | refine ARun.op rfl (by first | exact True.intro | exact rfl | (unfold inR; omega) | omega | ((try unfold inR); simp only [decide_eq_true_eq, decide_eq_false_iff_not, beq_iff_eq, beq_eq_false_iff_ne, ne_eq, Bool.not_eq_true', Bool.not_eq_false', List.length_map, List.length_append, List.length_take, List.length_drop, List.length_replicate, List.length_cons, List.length_nil] at *; omega)) ?_ | ((first | refine ARun.fin (by first | (intro h; cases h; done) | (intro _; kernel_rfl)) ?_ | refine awp_skip ?_ | refine awp_exit ?_); dsimp only [thenA, blockA, AS.bump, List.length_cons, List.length_nil, reduceIte, Nat.reduceEqDiff]) | refine awp_condT rfl (by first | rfl | assumption | exact beq_int _ | exact bne_int _) ?_ | refine awp_condF rfl (by first | rfl | assumption | exact beq_int _ | exact bne_int _) ?_ | ((fail_if_success refine ARun.plain rfl ?_); first | refine ARun.knowT rfl rfl rfl (by first | rfl | assumption | exact beq_int _ | exact bne_int _) ?_ | refine ARun.knowF rfl rfl rfl (by first | rfl | assumption | exact beq_int _ | exact bne_int _) ?_ | refine ARun.fork rfl rfl rfl (fun h => ?_) (fun h => ?_)) | refine awp_cond rfl (fun h => ?_) (fun h => ?_)))
  refine awp_loopT (T := Nat × Nat) (fun t => ⟨[(5, .val (.int .i64 (t.1 : Nat))), (0, .sl 1 false (l.map encN)), (1, .sl 1 false (l.map encN))], [], t.2⟩) (fun t => t.1 ≤ l.length) (fun t => l.length - t.1) (0, _) (Nat.zero_le _) ⟨⟨rfl, rfl, rfl, trivial⟩, trivial, Nat.le_refl _⟩ (fun t ht => ?_)
  obtain ⟨k, gc⟩ := t
  dsimp only at ht ⊢
  clear d1
  by_cases hlt : k < l.length
  · have hp : l[k]? = some l[k] := List.getElem?_eq_getElem hlt
    have hc : decide (((k : Nat) : Int) < (((l.map encN).length : Nat) : Int)) = true := by simp; omega
    generalize l[k] = a at hp
    have d3 : (!((ByteArray.mk a.toArray).toList == (ByteArray.mk a.toArray).toList)) = false := by simp
    (repeat' (first | refine awp_seq ?_ | refine awp_block ?_ | refine awp_region (fun _ => hmix) ?_ | refine ARun.op rfl (by first | exact True.intro | exact rfl | (unfold inR; omega) | omega | ((try unfold inR); simp only [decide_eq_true_eq, decide_eq_false_iff_not, beq_iff_eq, beq_eq_false_iff_ne, ne_eq, Bool.not_eq_true', Bool.not_eq_false', List.length_map, List.length_append, List.length_take, List.length_drop, List.length_replicate, List.length_cons, List.length_nil] at *; omega)) ?_ | refine ARun.indexAddr rfl rfl (by omega) (by first | with_reducible exact get_map hp | with_reducible exact hp1 | with_reducible exact hq1) rfl rfl rfl rfl rfl (guardF_spec rfl) ?_ | ((first | refine ARun.fin (by first | (intro h; cases h; done) | (intro _; kernel_rfl)) ?_ | refine awp_skip ?_ | refine awp_exit ?_); dsimp only [thenA, blockA, AS.bump, List.length_cons, List.length_nil, reduceIte, Nat.reduceEqDiff]) | refine awp_condT rfl (by first | rfl | assumption | exact beq_int _ | exact bne_int _) ?_ | refine awp_condF rfl (by first | rfl | assumption | exact beq_int _ | exact bne_int _) ?_ | ((fail_if_success refine ARun.plain rfl ?_); first | refine ARun.knowT rfl rfl rfl (by first | rfl | assumption | exact beq_int _ | exact bne_int _) ?_ | refine ARun.knowF rfl rfl rfl (by first | rfl | assumption | exact beq_int _ | exact bne_int _) ?_ | refine ARun.fork rfl rfl rfl (fun h => ?_) (fun h => ?_)) | refine awp_cond rfl (fun h => ?_) (fun h => ?_)))
    exact ⟨(k + 1, _), ⟨⟨succI k, rfl, rfl, trivial⟩, trivial, Nat.le_refl _⟩, hlt, (by dsimp only; omega)⟩
  · have hkk : k = l.length := by omega
    subst hkk
    have hc : decide (((l.length : Nat) : Int) < (((l.map encN).length : Nat) : Int)) = false := by simp
    (repeat' (first | refine awp_seq ?_ | refine awp_block ?_ | refine awp_region (fun _ => hmix) ?_ | refine ARun.op rfl (by first | exact True.intro | exact rfl | (unfold inR; omega) | omega | ((try unfold inR); simp only [decide_eq_true_eq, decide_eq_false_iff_not, beq_iff_eq, beq_eq_false_iff_ne, ne_eq, Bool.not_eq_true', Bool.not_eq_false', List.length_map, List.length_append, List.length_take, List.length_drop, List.length_replicate, List.length_cons, List.length_nil] at *; omega)) ?_ | ((first | refine ARun.fin (by first | (intro h; cases h; done) | (intro _; kernel_rfl)) ?_ | refine awp_skip ?_ | refine awp_exit ?_); dsimp only [thenA, blockA, AS.bump, List.length_cons, List.length_nil, reduceIte, Nat.reduceEqDiff]) | refine awp_condT rfl (by first | rfl | assumption | exact beq_int _ | exact bne_int _) ?_ | refine awp_condF rfl (by first | rfl | assumption | exact beq_int _ | exact bne_int _) ?_ | ((fail_if_success refine ARun.plain rfl ?_); first | refine ARun.knowT rfl rfl rfl (by first | rfl | assumption | exact beq_int _ | exact bne_int _) ?_ | refine ARun.knowF rfl rfl rfl (by first | rfl | assumption | exact beq_int _ | exact bne_int _) ?_ | refine ARun.fork rfl rfl rfl (fun h => ?_) (fun h => ?_)) | refine awp_cond rfl (fun h => ?_) (fun h => ?_)))
    exact awp_ret ⟨_, ResL.cons (ResA.tmp (.val _)) .nil, rfl⟩
set_option maxHeartbeats 16000000 in
theorem tells_c (c : Cf) (a b : V) (ha : FlIn a.dict) (hb : FlIn b.dict) : FnC Try.prog 3 [.agg (encC c), .agg (encV a), .agg (encV b)] (.val (.bool true)) := by
  have c0 := shown_c
  have cm := few_c a
  by_cases hm : FewV a
  case neg =>
    rw [pD_no hm] at cm
    refine FnC.of_awp (T := tt) (ok := tok) Try.func3 (by kernel_rfl) rfl (by kernel_rfl) (closedL_cons (.agg (encC_closed c)) (closedL_cons (closedV a) (closedL_cons (closedV b) closedL_nil))) (fun w0 st0 => ?_)
    dsimp only [frOf]
    (repeat' (first | refine awp_seq ?_ | refine awp_block ?_ | refine awp_region (fun _ => hmix) ?_ | refine ARun.op rfl (by first | exact True.intro | exact rfl | (unfold inR; omega) | omega | ((try unfold inR); simp only [decide_eq_true_eq, decide_eq_false_iff_not, beq_iff_eq, beq_eq_false_iff_ne, ne_eq, Bool.not_eq_true', Bool.not_eq_false', List.length_map, List.length_append, List.length_take, List.length_drop, List.length_replicate, List.length_cons, List.length_nil] at *; omega)) ?_ | refine callX (c0) rfl rfl rfl rfl ?_ | refine callX (cm) rfl rfl rfl rfl ?_ | ((first | refine ARun.fin (by first | (intro h; cases h; done) | (intro _; kernel_rfl)) ?_ | refine awp_skip ?_ | refine awp_exit ?_); dsimp only [thenA, blockA, AS.bump, List.length_cons, List.length_nil, reduceIte, Nat.reduceEqDiff]) | refine awp_condT rfl (by first | rfl | assumption | exact beq_int _ | exact bne_int _) ?_ | refine awp_condF rfl (by first | rfl | assumption | exact beq_int _ | exact bne_int _) ?_ | ((fail_if_success refine ARun.plain rfl ?_); first | refine ARun.knowT rfl rfl rfl (by first | rfl | assumption | exact beq_int _ | exact bne_int _) ?_ | refine ARun.knowF rfl rfl rfl (by first | rfl | assumption | exact beq_int _ | exact bne_int _) ?_)))
    exact awp_ret ⟨_, ResL.cons (ResA.tmp (.val _)) .nil, rfl⟩
  rw [pD_yes hm] at cm
  have cn := few_c b
  by_cases hn : FewV b
  case neg =>
    rw [pD_no hn] at cn
    refine FnC.of_awp (T := tt) (ok := tok) Try.func3 (by kernel_rfl) rfl (by kernel_rfl) (closedL_cons (.agg (encC_closed c)) (closedL_cons (closedV a) (closedL_cons (closedV b) closedL_nil))) (fun w0 st0 => ?_)
    dsimp only [frOf]
    (repeat' (first | refine awp_seq ?_ | refine awp_block ?_ | refine awp_region (fun _ => hmix) ?_ | refine ARun.op rfl (by first | exact True.intro | exact rfl | (unfold inR; omega) | omega | ((try unfold inR); simp only [decide_eq_true_eq, decide_eq_false_iff_not, beq_iff_eq, beq_eq_false_iff_ne, ne_eq, Bool.not_eq_true', Bool.not_eq_false', List.length_map, List.length_append, List.length_take, List.length_drop, List.length_replicate, List.length_cons, List.length_nil] at *; omega)) ?_ | refine callX (c0) rfl rfl rfl rfl ?_ | refine callX (cm) rfl rfl rfl rfl ?_ | refine callX (cn) rfl rfl rfl rfl ?_ | ((first | refine ARun.fin (by first | (intro h; cases h; done) | (intro _; kernel_rfl)) ?_ | refine awp_skip ?_ | refine awp_exit ?_); dsimp only [thenA, blockA, AS.bump, List.length_cons, List.length_nil, reduceIte, Nat.reduceEqDiff]) | refine awp_condT rfl (by first | rfl | assumption | exact beq_int _ | exact bne_int _) ?_ | refine awp_condF rfl (by first | rfl | assumption | exact beq_int _ | exact bne_int _) ?_ | ((fail_if_success refine ARun.plain rfl ?_); first | refine ARun.knowT rfl rfl rfl (by first | rfl | assumption | exact beq_int _ | exact bne_int _) ?_ | refine ARun.knowF rfl rfl rfl (by first | rfl | assumption | exact beq_int _ | exact bne_int _) ?_)))
    exact awp_ret ⟨_, ResL.cons (ResA.tmp (.val _)) .nil, rfl⟩
  rw [pD_yes hn] at cn
  have ha' := hm.held ha
  have hb' := hn.held hb
  have h3 := newV_held c
  have c1 := new_c c
  have c2 := ref_new_c c
  have c3 := ref08_self_c nmsV (by have := len_nms; rw [List.length_map] at this; omega)
  have c4 := ref08_self_c spcV (by have := len_spc; rw [List.length_map] at this; omega)
  have c5 := start_c
  have c6 := ref_start_c
  have c7 := fits_c c
  have c8 := ref_fits_c c
  have c9 := ref_same_c _ _ h3 h3
  rw [pD_yes rfl] at c9
  have ca := right_c a ha'
  have cb := ref_right_c a ha'
  have cc := same_c a b ha' hb'
  have cd := ref_same_c a b ha' hb'
  have ce := names_c
  have cf := ref_names_c
  have cg := specials_c
  have ch := ref_specials_c
  generalize pD (RightV a) = r1 at *
  generalize pD (a = b) = r2 at *
  generalize fitsD c = r3 at *
  generalize newV c = r4 at *
  generalize nmsV.map encN = l1 at *
  generalize spcV.map encN = l2 at *
  have e1 : (r1 == r1) = true := by simp
  have e2 : (r2 == r2) = true := by simp
  have e3 : (r3 == r3) = true := by simp
  have e4 : (r4.2 == r4.2) = true := by simp
  have e5 : ((1368 : Int) == 1368) = true := by simp
  clear ha' hb' h3 ha hb hm hn
  by_cases h1 : 8192 < c.mem
  · have d1 : decide ((8192 : Int) < c.mem) = true := decide_eq_true h1
    by_cases h2 : c.mem ≤ 65536
    · have d2 : decide (c.mem ≤ 65536) = true := decide_eq_true h2
      refine FnC.of_awp (T := tt) (ok := tok) Try.func3 (by kernel_rfl) rfl (by kernel_rfl) (closedL_cons (.agg (encC_closed c)) (closedL_cons (closedV a) (closedL_cons (closedV b) closedL_nil))) (fun w0 st0 => ?_)
      dsimp only [frOf]
      (repeat' (first | refine awp_seq ?_ | refine awp_block ?_ | refine awp_region (fun _ => hmix) ?_ | refine ARun.op rfl (by first | exact True.intro | exact rfl | (unfold inR; omega) | omega | ((try unfold inR); simp only [decide_eq_true_eq, decide_eq_false_iff_not, beq_iff_eq, beq_eq_false_iff_ne, ne_eq, Bool.not_eq_true', Bool.not_eq_false', List.length_map, List.length_append, List.length_take, List.length_drop, List.length_replicate, List.length_cons, List.length_nil] at *; omega)) ?_ | refine callX (c0) rfl rfl rfl rfl ?_ | refine callX (cm) rfl rfl rfl rfl ?_ | refine callX (cn) rfl rfl rfl rfl ?_ | ((first | refine ARun.fin (by first | (intro h; cases h; done) | (intro _; kernel_rfl)) ?_ | refine awp_skip ?_ | refine awp_exit ?_); dsimp only [thenA, blockA, AS.bump, List.length_cons, List.length_nil, reduceIte, Nat.reduceEqDiff]) | refine awp_condT rfl (by first | rfl | assumption | exact beq_int _ | exact bne_int _) ?_ | refine awp_condF rfl (by first | rfl | assumption | exact beq_int _ | exact bne_int _) ?_ | ((fail_if_success refine ARun.plain rfl ?_); first | refine ARun.knowT rfl rfl rfl (by first | rfl | assumption | exact beq_int _ | exact bne_int _) ?_ | refine ARun.knowF rfl rfl rfl (by first | rfl | assumption | exact beq_int _ | exact bne_int _) ?_)))
      exact awp_ret ⟨_, ResL.cons (ResA.tmp (.val _)) .nil, rfl⟩
    · have d2 : decide (c.mem ≤ 65536) = false := decide_eq_false h2
      refine FnC.of_awp (T := tt) (ok := tok) Try.func3 (by kernel_rfl) rfl (by kernel_rfl) (closedL_cons (.agg (encC_closed c)) (closedL_cons (closedV a) (closedL_cons (closedV b) closedL_nil))) (fun w0 st0 => ?_)
      dsimp only [frOf]
      (repeat' (first | refine awp_seq ?_ | refine awp_block ?_ | refine awp_region (fun _ => hmix) ?_ | refine ARun.op rfl (by first | exact True.intro | exact rfl | (unfold inR; omega) | omega | ((try unfold inR); simp only [decide_eq_true_eq, decide_eq_false_iff_not, beq_iff_eq, beq_eq_false_iff_ne, ne_eq, Bool.not_eq_true', Bool.not_eq_false', List.length_map, List.length_append, List.length_take, List.length_drop, List.length_replicate, List.length_cons, List.length_nil] at *; omega)) ?_ | refine callX (c0) rfl rfl rfl rfl ?_ | refine callX (cm) rfl rfl rfl rfl ?_ | refine callX (cn) rfl rfl rfl rfl ?_ | refine callX (c1) rfl rfl rfl rfl ?_ | refine callX (c2) rfl rfl rfl rfl ?_ | refine callW (c3) rfl (by (repeat (refine WkL.cons (by first | exact Wk.same _ | exact Wk.nilSl | exact Wk.weak _ _ _ | exact Wk.aggL (by (repeat (refine WkL.cons (by first | exact Wk.same _ | exact Wk.nilSl | exact Wk.weak _ _ _) ?_)); exact WkL.nil)) ?_)); exact WkL.nil) rfl rfl ?_ | refine callW (c4) rfl (by (repeat (refine WkL.cons (by first | exact Wk.same _ | exact Wk.nilSl | exact Wk.weak _ _ _ | exact Wk.aggL (by (repeat (refine WkL.cons (by first | exact Wk.same _ | exact Wk.nilSl | exact Wk.weak _ _ _) ?_)); exact WkL.nil)) ?_)); exact WkL.nil) rfl rfl ?_ | refine callX (c5) rfl rfl rfl rfl ?_ | refine callX (c6) rfl rfl rfl rfl ?_ | refine callX (c7) rfl rfl rfl rfl ?_ | refine callX (c8) rfl rfl rfl rfl ?_ | refine callX (c9) rfl rfl rfl rfl ?_ | refine callX (ca) rfl rfl rfl rfl ?_ | refine callX (cb) rfl rfl rfl rfl ?_ | refine callX (cc) rfl rfl rfl rfl ?_ | refine callX (cd) rfl rfl rfl rfl ?_ | refine callX (ce) rfl rfl rfl rfl ?_ | refine callX (cf) rfl rfl rfl rfl ?_ | refine callX (cg) rfl rfl rfl rfl ?_ | refine callX (ch) rfl rfl rfl rfl ?_ | ((first | refine ARun.fin (by first | (intro h; cases h; done) | (intro _; kernel_rfl)) ?_ | refine awp_skip ?_ | refine awp_exit ?_); dsimp only [thenA, blockA, AS.bump, List.length_cons, List.length_nil, reduceIte, Nat.reduceEqDiff]) | refine awp_condT rfl (by first | rfl | assumption | exact beq_int _ | exact bne_int _) ?_ | refine awp_condF rfl (by first | rfl | assumption | exact beq_int _ | exact bne_int _) ?_ | ((fail_if_success refine ARun.plain rfl ?_); first | refine ARun.knowT rfl rfl rfl (by first | rfl | assumption | exact beq_int _ | exact bne_int _) ?_ | refine ARun.knowF rfl rfl rfl (by first | rfl | assumption | exact beq_int _ | exact bne_int _) ?_)))
      (refine awp_ret ⟨_, ResL.cons (ResA.tmp (.val _)) .nil, congrArg (fun b => AV.val (.bool b)) ?_⟩; first | rfl | (symm; assumption) | exact (beq_int _).symm)
  · have d1 : decide ((8192 : Int) < c.mem) = false := decide_eq_false h1
    refine FnC.of_awp (T := tt) (ok := tok) Try.func3 (by kernel_rfl) rfl (by kernel_rfl) (closedL_cons (.agg (encC_closed c)) (closedL_cons (closedV a) (closedL_cons (closedV b) closedL_nil))) (fun w0 st0 => ?_)
    dsimp only [frOf]
    (repeat' (first | refine awp_seq ?_ | refine awp_block ?_ | refine awp_region (fun _ => hmix) ?_ | refine ARun.op rfl (by first | exact True.intro | exact rfl | (unfold inR; omega) | omega | ((try unfold inR); simp only [decide_eq_true_eq, decide_eq_false_iff_not, beq_iff_eq, beq_eq_false_iff_ne, ne_eq, Bool.not_eq_true', Bool.not_eq_false', List.length_map, List.length_append, List.length_take, List.length_drop, List.length_replicate, List.length_cons, List.length_nil] at *; omega)) ?_ | refine callX (c0) rfl rfl rfl rfl ?_ | refine callX (cm) rfl rfl rfl rfl ?_ | refine callX (cn) rfl rfl rfl rfl ?_ | refine callX (c1) rfl rfl rfl rfl ?_ | refine callX (c2) rfl rfl rfl rfl ?_ | refine callW (c3) rfl (by (repeat (refine WkL.cons (by first | exact Wk.same _ | exact Wk.nilSl | exact Wk.weak _ _ _ | exact Wk.aggL (by (repeat (refine WkL.cons (by first | exact Wk.same _ | exact Wk.nilSl | exact Wk.weak _ _ _) ?_)); exact WkL.nil)) ?_)); exact WkL.nil) rfl rfl ?_ | refine callW (c4) rfl (by (repeat (refine WkL.cons (by first | exact Wk.same _ | exact Wk.nilSl | exact Wk.weak _ _ _ | exact Wk.aggL (by (repeat (refine WkL.cons (by first | exact Wk.same _ | exact Wk.nilSl | exact Wk.weak _ _ _) ?_)); exact WkL.nil)) ?_)); exact WkL.nil) rfl rfl ?_ | refine callX (c5) rfl rfl rfl rfl ?_ | refine callX (c6) rfl rfl rfl rfl ?_ | refine callX (c7) rfl rfl rfl rfl ?_ | refine callX (c8) rfl rfl rfl rfl ?_ | refine callX (c9) rfl rfl rfl rfl ?_ | refine callX (ca) rfl rfl rfl rfl ?_ | refine callX (cb) rfl rfl rfl rfl ?_ | refine callX (cc) rfl rfl rfl rfl ?_ | refine callX (cd) rfl rfl rfl rfl ?_ | refine callX (ce) rfl rfl rfl rfl ?_ | refine callX (cf) rfl rfl rfl rfl ?_ | refine callX (cg) rfl rfl rfl rfl ?_ | refine callX (ch) rfl rfl rfl rfl ?_ | ((first | refine ARun.fin (by first | (intro h; cases h; done) | (intro _; kernel_rfl)) ?_ | refine awp_skip ?_ | refine awp_exit ?_); dsimp only [thenA, blockA, AS.bump, List.length_cons, List.length_nil, reduceIte, Nat.reduceEqDiff]) | refine awp_condT rfl (by first | rfl | assumption | exact beq_int _ | exact bne_int _) ?_ | refine awp_condF rfl (by first | rfl | assumption | exact beq_int _ | exact bne_int _) ?_ | ((fail_if_success refine ARun.plain rfl ?_); first | refine ARun.knowT rfl rfl rfl (by first | rfl | assumption | exact beq_int _ | exact bne_int _) ?_ | refine ARun.knowF rfl rfl rfl (by first | rfl | assumption | exact beq_int _ | exact bne_int _) ?_)))
    (refine awp_ret ⟨_, ResL.cons (ResA.tmp (.val _)) .nil, congrArg (fun b => AV.val (.bool b)) ?_⟩; first | rfl | (symm; assumption) | exact (beq_int _).symm)
theorem finds_nms : ((List.range 130).all fun i => match nmsV[i]? with | some nm => (findD (dictS 37) nm).2.2 == decide (12 ≤ i) && (decide (i < 12) || decide ((findD (dictS 37) nm).1.xt = 32 + 8 * (i : Int))) | none => false) = true := by kernel_rfl
theorem finds_spc : ((List.range 37).all fun i => match spcV[i]? with | some nm => (findD (dictS 37) nm).2.2 && decide ((findD (dictS 37) nm).1.xt = 1072 + 8 * (i : Int)) | none => false) = true := by kernel_rfl
theorem find_nm {i : Nat} {nm : Bs} (h : nmsV[i]? = some nm) : (findD (dictS 37) nm).2.2 = decide (12 ≤ i) ∧ (12 ≤ i → (findD (dictS 37) nm).1.xt = 32 + 8 * (i : Int)) := by
  have hi : i < 130 := (List.getElem?_eq_some_iff.1 h).1
  have := List.all_eq_true.1 finds_nms i (List.mem_range.2 hi)
  rw [h] at this
  simp only [Bool.and_eq_true, Bool.or_eq_true, beq_iff_eq, decide_eq_true_eq] at this
  exact ⟨this.1, fun q => this.2.resolve_left (by omega)⟩
theorem find_spc {i : Nat} {nm : Bs} (h : spcV[i]? = some nm) : (findD (dictS 37) nm).2.2 = true ∧ (findD (dictS 37) nm).1.xt = 1072 + 8 * (i : Int) := by
  have hi : i < 37 := (List.getElem?_eq_some_iff.1 h).1
  have := List.all_eq_true.1 finds_spc i (List.mem_range.2 hi)
  rw [h] at this
  simp only [Bool.and_eq_true, decide_eq_true_eq] at this
  exact this
set_option maxHeartbeats 16000000 in
theorem begins_c (c : Cf) (k : Int) (hk : 0 ≤ k ∧ k ≤ 255) : FnC Try.prog 4 [.agg (encC c), .val (.int .u8 k)] (.val (.bool true)) := by
  have c0 := shown_c
  have c1 := new_c c
  have c2 := fits_c c
  by_cases hF : FitsP c
  case neg =>
    rw [newV_no hF] at c1
    rw [fits_no hF] at c2
    have d1 : ((-24 : Int) != 0) = true := by simp
    refine FnC.of_awp (T := tt) (ok := tok) Try.func4 (by kernel_rfl) rfl (by kernel_rfl) (closedL_cons (.agg (encC_closed c)) (closedL_cons (.val _) closedL_nil)) (fun w0 st0 => ?_)
    dsimp only [frOf]
    (repeat' (first | refine awp_seq ?_ | refine awp_block ?_ | refine awp_region (fun _ => hmix) ?_ | refine ARun.op rfl (by first | exact True.intro | exact rfl | (unfold inR; omega) | omega | ((try unfold inR); simp only [decide_eq_true_eq, decide_eq_false_iff_not, beq_iff_eq, beq_eq_false_iff_ne, ne_eq, Bool.not_eq_true', Bool.not_eq_false', List.length_map, List.length_append, List.length_take, List.length_drop, List.length_replicate, List.length_cons, List.length_nil] at *; omega)) ?_ | refine callX (c0) rfl rfl rfl rfl ?_ | refine callX (c1) rfl rfl rfl rfl ?_ | refine callX (c2) rfl rfl rfl rfl ?_ | ((first | refine ARun.fin (by first | (intro h; cases h; done) | (intro _; kernel_rfl)) ?_ | refine awp_skip ?_ | refine awp_exit ?_); dsimp only [thenA, blockA, AS.bump, List.length_cons, List.length_nil, reduceIte, Nat.reduceEqDiff]) | refine awp_condT rfl (by first | rfl | assumption | exact beq_int _ | exact bne_int _) ?_ | refine awp_condF rfl (by first | rfl | assumption | exact beq_int _ | exact bne_int _) ?_ | ((fail_if_success refine ARun.plain rfl ?_); first | refine ARun.knowT rfl rfl rfl (by first | rfl | assumption | exact beq_int _ | exact bne_int _) ?_ | refine ARun.knowF rfl rfl rfl (by first | rfl | assumption | exact beq_int _ | exact bne_int _) ?_)))
    (refine awp_ret ⟨_, ResL.cons (ResA.tmp (.val _)) .nil, congrArg (fun b => AV.val (.bool b)) ?_⟩; first | rfl | (symm; assumption) | exact (beq_int _).symm)
  rw [newV_new hF] at c1
  have d1 : ((0 : Int) != 0) = false := by simp
  obtain ⟨i, hi1, hi2⟩ : ∃ i : Nat, k.tmod 130 = (i : Int) ∧ i < 130 := ⟨(k % 130).toNat, by rw [Int.tmod_eq_emod_of_nonneg hk.1]; omega, by omega⟩
  obtain ⟨j, hj1, hj2⟩ : ∃ j : Nat, k.tmod 37 = (j : Int) ∧ j < 37 := ⟨(k % 37).toNat, by rw [Int.tmod_eq_emod_of_nonneg hk.1]; omega, by omega⟩
  have c3 := names_c
  have c4 := specials_c
  have e1 := len_nms
  have e2 := len_spc
  have h1 := vNew_right hF
  have h2 := vNew_held hF
  have hp : nmsV[i]? = some nmsV[i] := List.getElem?_eq_getElem (by rw [List.length_map] at e1; omega)
  have hq : spcV[j]? = some spcV[j] := List.getElem?_eq_getElem (by rw [List.length_map] at e2; omega)
  have n1 := nms_len hp
  have n2 := spc_len hq
  obtain ⟨g1, g2⟩ := find_nm hp
  obtain ⟨g3, g4⟩ := find_spc hq
  have hni : Dict.NameIn (vNew c).dict := fun w hw => ⟨by have := (dict_at hw).2; omega, (dict_at hw).1.2⟩
  have c5 := Dict.ref_find_c (vNew c).dict nmsV[i] h2.wl (by omega) hni
  have c6 := Dict.ref_find_c (vNew c).dict spcV[j] h2.wl (by omega) hni
  have c7 := kind_c (vNew c) (32 + 8 * (i : Int)) h2.mb
  have c8 := kind_c (vNew c) (1072 + 8 * (j : Int)) h2.mb
  have f1 := vNew_fetch hF (k := 4 + i) (by omega)
  have f2 := vNew_fetch hF (k := 134 + j) (by omega)
  rw [show updC (valS 37) 0 10 (4 + i) = (i : Int) by
    unfold updC valS valN
    repeat' split
    all_goals first | omega | rfl] at f1
  rw [show updC (valS 37) 0 10 (134 + j) = 300 + (j : Int) by
    unfold updC valS valN
    repeat' split
    all_goals first | omega | rfl] at f2
  rw [show (((8 * (4 + i) : Nat)) : Int) = 32 + 8 * (i : Int) by omega] at f1
  rw [show (((8 * (134 + j) : Nat)) : Int) = 1072 + 8 * (j : Int) by omega] at f2
  rw [show kindD (vNew c) (32 + 8 * (i : Int)) = ((i : Int), 0) by unfold kindD; rw [f1, if_neg (by simp), if_pos (by dsimp only; omega)]] at c7
  rw [show kindD (vNew c) (1072 + 8 * (j : Int)) = (300 + (j : Int), 0) by unfold kindD; rw [f2, if_neg (by simp), if_pos (by dsimp only; omega)]] at c8
  have c9 := ref_right_c (vNew c) h2
  rw [pD_yes h1] at c9
  have ca := start_c
  have hp1 := get_map (f := encN) hp
  have hq1 := get_map (f := encN) hq
  generalize nmsV[i] = nm at *
  generalize spcV[j] = sm at *
  simp only [encFd] at c5 c6
  rw [show (vNew c).dict = dictS 37 from rfl] at c5 c6
  generalize findD (dictS 37) nm = r1 at *
  generalize findD (dictS 37) sm = r2 at *
  have dl : (((dictS 37).map encW).length : Nat) = 167 := by rw [List.length_map]; exact dict_len
  obtain ⟨⟨a1, a2, a3⟩, a4, a5⟩ := r1
  obtain ⟨⟨b1, b2, b3⟩, b4, b5⟩ := r2
  dsimp only at g1 g2 g3 g4
  subst g3 g4
  clear f1 f2 h1 h2 hni hF n1 n2
  rw [show vNew c = ⟨c, (vNew c).m, 1368, [], [], [], dictS 37, 0, [], [], false, [], 0, 0, 0, 0, 0, []⟩ from rfl] at c1 c7 c8 c9
  generalize (vNew c).m = mm at *
  generalize dictS 37 = ds at *
  generalize nmsV.map encN = l1 at *
  generalize spcV.map encN = l2 at *
  have t1 : (((l1.length : Nat) : Int) != 130) = false := by simp [e1]
  have t2 : (((l2.length : Nat) : Int) != 37) = false := by simp [e2]
  have t3 : (((i : Nat) : Int) == (i : Nat)) = true := beq_int _
  have t4 : ((300 + ((j : Nat) : Int)) == 300 + ((j : Nat) : Int)) = true := beq_int _
  have t5 : ((32 + 8 * ((i : Nat) : Int)) == 32 + 8 * ((i : Nat) : Int)) = true := beq_int _
  have t6 : ((((ds.map encW).length : Nat) : Int) == 167) = true := beq_iff_eq.2 (by omega)
  by_cases h12 : 12 ≤ i
  · rw [decide_eq_true h12] at g1
    subst g1
    obtain rfl := g2 h12
    have d12 : decide ((12 : Int) ≤ ((i : Nat) : Int)) = true := decide_eq_true (by omega)
    have bb : (true == decide ((12 : Int) ≤ ((i : Nat) : Int))) = true := by rw [d12]; simp
    refine FnC.of_awp (T := tt) (ok := tok) Try.func4 (by kernel_rfl) rfl (by kernel_rfl) (closedL_cons (.agg (encC_closed c)) (closedL_cons (.val _) closedL_nil)) (fun w0 st0 => ?_)
    dsimp only [frOf]
    (repeat' (first | refine awp_seq ?_ | refine awp_block ?_ | refine awp_region_ne 11 rfl (fun _ => hmix) ?_ | refine ARun.op rfl (by first | exact True.intro | exact rfl | (unfold inR; omega) | omega | ((try unfold inR); simp only [decide_eq_true_eq, decide_eq_false_iff_not, beq_iff_eq, beq_eq_false_iff_ne, ne_eq, Bool.not_eq_true', Bool.not_eq_false', List.length_map, List.length_append, List.length_take, List.length_drop, List.length_replicate, List.length_cons, List.length_nil] at *; omega)) ?_ | refine callX (c0) rfl rfl rfl rfl ?_ | refine callX (c1) rfl rfl rfl rfl ?_ | refine callX (c2) rfl rfl rfl rfl ?_ | refine callX (c3) rfl rfl rfl rfl ?_ | refine callX (c4) rfl rfl rfl rfl ?_ | ((first | refine ARun.fin (by first | (intro h; cases h; done) | (intro _; kernel_rfl)) ?_ | refine awp_skip ?_ | refine awp_exit ?_); dsimp only [thenA, blockA, AS.bump, List.length_cons, List.length_nil, reduceIte, Nat.reduceEqDiff]) | refine awp_condT rfl (by first | rfl | assumption | exact beq_int _ | exact bne_int _) ?_ | refine awp_condF rfl (by first | rfl | assumption | exact beq_int _ | exact bne_int _) ?_ | ((fail_if_success refine ARun.plain rfl ?_); first | refine ARun.knowT rfl rfl rfl (by first | rfl | assumption | exact beq_int _ | exact bne_int _) ?_ | refine ARun.knowF rfl rfl rfl (by first | rfl | assumption | exact beq_int _ | exact bne_int _) ?_ | refine ARun.fork rfl rfl rfl (fun h => ?_) (fun h => ?_)) | refine awp_cond rfl (fun h => ?_) (fun h => ?_)))
    rw [hi1, hj1]
    (repeat' (first | refine awp_seq ?_ | refine awp_block ?_ | refine awp_region (fun _ => hmix) ?_ | refine ARun.op rfl (by first | exact True.intro | exact rfl | (unfold inR; omega) | omega | ((try unfold inR); simp only [decide_eq_true_eq, decide_eq_false_iff_not, beq_iff_eq, beq_eq_false_iff_ne, ne_eq, Bool.not_eq_true', Bool.not_eq_false', List.length_map, List.length_append, List.length_take, List.length_drop, List.length_replicate, List.length_cons, List.length_nil] at *; omega)) ?_ | refine callX (c0) rfl rfl rfl rfl ?_ | refine callX (c1) rfl rfl rfl rfl ?_ | refine callX (c2) rfl rfl rfl rfl ?_ | refine callX (c3) rfl rfl rfl rfl ?_ | refine callX (c4) rfl rfl rfl rfl ?_ | refine callX (c5) rfl rfl rfl rfl ?_ | refine callX (c6) rfl rfl rfl rfl ?_ | refine callX (c7) rfl rfl rfl rfl ?_ | refine callX (c8) rfl rfl rfl rfl ?_ | refine callX (c9) rfl rfl rfl rfl ?_ | refine callX (ca) rfl rfl rfl rfl ?_ | refine ARun.indexAddr rfl rfl (by omega) (by first | with_reducible exact get_map hp | with_reducible exact hp1 | with_reducible exact hq1) rfl rfl rfl rfl rfl (guardF_spec rfl) ?_ | ((first | refine ARun.fin (by first | (intro h; cases h; done) | (intro _; kernel_rfl)) ?_ | refine awp_skip ?_ | refine awp_exit ?_); dsimp only [thenA, blockA, AS.bump, List.length_cons, List.length_nil, reduceIte, Nat.reduceEqDiff]) | refine awp_condT rfl (by first | rfl | assumption | exact beq_int _ | exact bne_int _) ?_ | refine awp_condF rfl (by first | rfl | assumption | exact beq_int _ | exact bne_int _) ?_ | ((fail_if_success refine ARun.plain rfl ?_); first | refine ARun.knowT rfl rfl rfl (by first | rfl | assumption | exact beq_int _ | exact bne_int _) ?_ | refine ARun.knowF rfl rfl rfl (by first | rfl | assumption | exact beq_int _ | exact bne_int _) ?_)))
    (refine awp_ret ⟨_, ResL.cons (ResA.tmp (.val _)) .nil, congrArg (fun b => AV.val (.bool b)) ?_⟩; first | rfl | (symm; assumption) | exact (beq_int _).symm)
  · rw [decide_eq_false h12] at g1
    subst g1
    have d12 : decide ((12 : Int) ≤ ((i : Nat) : Int)) = false := decide_eq_false (by omega)
    have bb : (false == decide ((12 : Int) ≤ ((i : Nat) : Int))) = true := by rw [d12]; simp
    refine FnC.of_awp (T := tt) (ok := tok) Try.func4 (by kernel_rfl) rfl (by kernel_rfl) (closedL_cons (.agg (encC_closed c)) (closedL_cons (.val _) closedL_nil)) (fun w0 st0 => ?_)
    dsimp only [frOf]
    (repeat' (first | refine awp_seq ?_ | refine awp_block ?_ | refine awp_region_ne 11 rfl (fun _ => hmix) ?_ | refine ARun.op rfl (by first | exact True.intro | exact rfl | (unfold inR; omega) | omega | ((try unfold inR); simp only [decide_eq_true_eq, decide_eq_false_iff_not, beq_iff_eq, beq_eq_false_iff_ne, ne_eq, Bool.not_eq_true', Bool.not_eq_false', List.length_map, List.length_append, List.length_take, List.length_drop, List.length_replicate, List.length_cons, List.length_nil] at *; omega)) ?_ | refine callX (c0) rfl rfl rfl rfl ?_ | refine callX (c1) rfl rfl rfl rfl ?_ | refine callX (c2) rfl rfl rfl rfl ?_ | refine callX (c3) rfl rfl rfl rfl ?_ | refine callX (c4) rfl rfl rfl rfl ?_ | ((first | refine ARun.fin (by first | (intro h; cases h; done) | (intro _; kernel_rfl)) ?_ | refine awp_skip ?_ | refine awp_exit ?_); dsimp only [thenA, blockA, AS.bump, List.length_cons, List.length_nil, reduceIte, Nat.reduceEqDiff]) | refine awp_condT rfl (by first | rfl | assumption | exact beq_int _ | exact bne_int _) ?_ | refine awp_condF rfl (by first | rfl | assumption | exact beq_int _ | exact bne_int _) ?_ | ((fail_if_success refine ARun.plain rfl ?_); first | refine ARun.knowT rfl rfl rfl (by first | rfl | assumption | exact beq_int _ | exact bne_int _) ?_ | refine ARun.knowF rfl rfl rfl (by first | rfl | assumption | exact beq_int _ | exact bne_int _) ?_ | refine ARun.fork rfl rfl rfl (fun h => ?_) (fun h => ?_)) | refine awp_cond rfl (fun h => ?_) (fun h => ?_)))
    rw [hi1, hj1]
    (repeat' (first | refine awp_seq ?_ | refine awp_block ?_ | refine awp_region (fun _ => hmix) ?_ | refine ARun.op rfl (by first | exact True.intro | exact rfl | (unfold inR; omega) | omega | ((try unfold inR); simp only [decide_eq_true_eq, decide_eq_false_iff_not, beq_iff_eq, beq_eq_false_iff_ne, ne_eq, Bool.not_eq_true', Bool.not_eq_false', List.length_map, List.length_append, List.length_take, List.length_drop, List.length_replicate, List.length_cons, List.length_nil] at *; omega)) ?_ | refine callX (c0) rfl rfl rfl rfl ?_ | refine callX (c1) rfl rfl rfl rfl ?_ | refine callX (c2) rfl rfl rfl rfl ?_ | refine callX (c3) rfl rfl rfl rfl ?_ | refine callX (c4) rfl rfl rfl rfl ?_ | refine callX (c5) rfl rfl rfl rfl ?_ | refine callX (c6) rfl rfl rfl rfl ?_ | refine callX (c7) rfl rfl rfl rfl ?_ | refine callX (c8) rfl rfl rfl rfl ?_ | refine callX (c9) rfl rfl rfl rfl ?_ | refine callX (ca) rfl rfl rfl rfl ?_ | refine ARun.indexAddr rfl rfl (by omega) (by first | with_reducible exact get_map hp | with_reducible exact hp1 | with_reducible exact hq1) rfl rfl rfl rfl rfl (guardF_spec rfl) ?_ | ((first | refine ARun.fin (by first | (intro h; cases h; done) | (intro _; kernel_rfl)) ?_ | refine awp_skip ?_ | refine awp_exit ?_); dsimp only [thenA, blockA, AS.bump, List.length_cons, List.length_nil, reduceIte, Nat.reduceEqDiff]) | refine awp_condT rfl (by first | rfl | assumption | exact beq_int _ | exact bne_int _) ?_ | refine awp_condF rfl (by first | rfl | assumption | exact beq_int _ | exact bne_int _) ?_ | ((fail_if_success refine ARun.plain rfl ?_); first | refine ARun.knowT rfl rfl rfl (by first | rfl | assumption | exact beq_int _ | exact bne_int _) ?_ | refine ARun.knowF rfl rfl rfl (by first | rfl | assumption | exact beq_int _ | exact bne_int _) ?_)))
    (refine awp_ret ⟨_, ResL.cons (ResA.tmp (.val _)) .nil, congrArg (fun b => AV.val (.bool b)) ?_⟩; first | rfl | (symm; assumption) | exact (beq_int _).symm)
end Go.Proofs.Ytgkjappmcgnabaa
