/- yJ3, yJ4, yJ5, yJ6, yJ7. -/
import Derived.Test.YtfphgelollhdhaaGreatW1
import Derived.Test.YtfphgelollhdhaaGreatW2
import Derived.Test.YtfphgelollhdhaaGreatW3
import Derived.Test.YtfphgelollhdhaaGreatW4
import Derived.Test.YtfphgelollhdhaaGreatyW5
import Derived.Test.YtfphgelollhdhaaGreatyW6
import Derived.Test.YtfphgelollhdhaaGreatyW7
import Derived.Test.YtfphgelollhdhaaGreatyW8
import Derived.Test.YtfphgelollhdhaaGreatyW9
import Derived.Test.YtfphgelollhdhaaGreatyW10
import Derived.Test.YtfphgelollhdhaaGreatyW11
import Derived.Test.YtfphgelollhdhaaGreatyW12
import Derived.Test.YtfphgelollhdhaaGreatyW13
import Derived.Test.YtfphgelollhdhaaGreatyW14
import Derived.Test.YtfphgelollhdhaaGreatyW15
import Derived.Test.YtfphgelollhdhaaGreatyW16
import Derived.Test.YtfphgelollhdhaaGreatyW17
import Derived.Test.YtfphgelollhdhaaGreatyW18
import Derived.Test.YtfphgelollhdhaaGreatyW19
import Derived.Test.YtfphgelollhdhaaGreatyW20
set_option linter.unusedVariables false
set_option linter.unusedSimpArgs false
namespace Go.Proofs.YtfphgelollhdhaaGreat.Gen
open Go Go.RowKit
set_option maxRecDepth 100000
abbrev NC (x : Nod) : List AV := [.val (.int .i64 x.k), .val (.int .i64 x.n), encTr x.a, encTr x.b]
theorem NC_closed (x : Nod) : ∀ v, v ∈ NC x → Closed v := closedL_cons (.val _) (closedL_cons (.val _) (closedL_cons (closed_tr _) (closedL_cons (closed_tr _) closedL_nil)))
def SizC (t : List Nod) : Prop := FnC Tryz.prog 12 [encTr t] (.val (.int .i64 (sizS t)))
theorem kinds {x : Nod} (h : okD x = true) : (x.k = 1 ∨ x.k = 2 ∨ x.k = 9 ∨ x.k = 10 ∨ x.k = 11) ∨ (x.k = 3 ∧ (x.n = 1 ∨ x.n = 0)) ∨ x.k = 4 ∨ x.k = 5 ∨ x.k = 6 ∨ ((x.k = 7 ∨ x.k = 8) ∧ (x.n = 0 ∨ x.n = 1)) := by
 rcases okD_cases h with h | h | h | h | h
 ·exact .inl h.1
 ·exact .inr (.inl ⟨h.1, h.2.imp id (·.1)⟩)
 ·rcases h.1 with h | h
  ·exact .inr (.inr (.inl h))
  ·exact .inr (.inr (.inr (.inl h)))
 ·exact .inr (.inr (.inr (.inr (.inl h))))
 ·exact .inr (.inr (.inr (.inr (.inr ⟨h.1, h.2.1⟩))))
theorem sizB0 {x : Nod} (h : okD x = true) (hk : x.k ≠ 6) (hn : x.k = 3 → x.n ≠ 1) : sizS x.b = 0 := by
 rcases okD_cases h with h | h | h | h | h
 ·rw [h.2.2, sizS]
 ·rcases h.2 with h2 | h2
  ·exact absurd h2 (hn h.1)
  ·rw [h2.2, sizS]
 ·rw [h.2, sizS]
 ·exact absurd h hk
 ·rw [h.2.2, sizS]
attribute [local irreducible] Decidable.decide awp ARun regK toK
set_option maxHeartbeats 4000000 in
theorem one_c (x : Nod) (ok : okD x = true) (hb : cntN x ≤ 100000) (ca : SizC x.a) (cb : SizC x.b) : FnC Tryz.prog 24 [.agg (NC x)] (.val (.int .i64 (oneS x))) := by
 have b1 := sizS_bound x.a
 have b2 := sizS_bound x.b
 have b3 := cnt_ab x
 have b4 := sizB0 ok
 unfold SizC at ca cb
 rcases kinds ok with hk | ⟨hk, hn⟩ | hk | hk | hk | ⟨hk, hn⟩
 ·rcases hk with hk | hk | hk | hk | hk
  ·skip
   have e2 : (x.k == 2) = false := beq_eq_false_iff_ne.2 (by omega)
   have e10 : (x.k == 10) = false := beq_eq_false_iff_ne.2 (by omega)
   have e11 : (x.k == 11) = false := beq_eq_false_iff_ne.2 (by omega)
   have e1 : (x.k == 1) = true := beq_iff_eq.2 hk
   have e9 : (x.k == 9) = false := beq_eq_false_iff_ne.2 (by omega)
   have e6 : (x.k == 6) = false := beq_eq_false_iff_ne.2 (by omega)
   have e3 : (x.k == 3) = false := beq_eq_false_iff_ne.2 (by omega)
   have e7 : (x.k == 7) = false := beq_eq_false_iff_ne.2 (by omega)
   have e8 : (x.k == 8) = false := beq_eq_false_iff_ne.2 (by omega)
   have b5 := b4 (by omega) (by omega)
   refine goF Tryz.func24 (closedL_cons (.agg (NC_closed x)) closedL_nil) (fun w0 st0 => ?_)
   dsimp only [frOf]
   (repeat' (first | refine goA ?_ | refine cX ca ?_ | refine cX cb ?_ | refine goB ?_ | fail))
   (refine awp_ret ⟨_, ResL.cons (ResA.tmp (.val _)) .nil, congrArg (fun n => AV.val (.int .i64 n)) ?_⟩; rw [oneS_eq]; (repeat' split) <;> omega)
  ·skip
   have e2 : (x.k == 2) = true := beq_iff_eq.2 hk
   have e10 : (x.k == 10) = false := beq_eq_false_iff_ne.2 (by omega)
   have e11 : (x.k == 11) = false := beq_eq_false_iff_ne.2 (by omega)
   have e1 : (x.k == 1) = false := beq_eq_false_iff_ne.2 (by omega)
   have e9 : (x.k == 9) = false := beq_eq_false_iff_ne.2 (by omega)
   have e6 : (x.k == 6) = false := beq_eq_false_iff_ne.2 (by omega)
   have e3 : (x.k == 3) = false := beq_eq_false_iff_ne.2 (by omega)
   have e7 : (x.k == 7) = false := beq_eq_false_iff_ne.2 (by omega)
   have e8 : (x.k == 8) = false := beq_eq_false_iff_ne.2 (by omega)
   have b5 := b4 (by omega) (by omega)
   refine goF Tryz.func24 (closedL_cons (.agg (NC_closed x)) closedL_nil) (fun w0 st0 => ?_)
   dsimp only [frOf]
   (repeat' (first | refine goA ?_ | refine cX ca ?_ | refine cX cb ?_ | refine goB ?_ | fail))
   (refine awp_ret ⟨_, ResL.cons (ResA.tmp (.val _)) .nil, congrArg (fun n => AV.val (.int .i64 n)) ?_⟩; rw [oneS_eq]; (repeat' split) <;> omega)
  ·skip
   have e2 : (x.k == 2) = false := beq_eq_false_iff_ne.2 (by omega)
   have e10 : (x.k == 10) = false := beq_eq_false_iff_ne.2 (by omega)
   have e11 : (x.k == 11) = false := beq_eq_false_iff_ne.2 (by omega)
   have e1 : (x.k == 1) = false := beq_eq_false_iff_ne.2 (by omega)
   have e9 : (x.k == 9) = true := beq_iff_eq.2 hk
   have e6 : (x.k == 6) = false := beq_eq_false_iff_ne.2 (by omega)
   have e3 : (x.k == 3) = false := beq_eq_false_iff_ne.2 (by omega)
   have e7 : (x.k == 7) = false := beq_eq_false_iff_ne.2 (by omega)
   have e8 : (x.k == 8) = false := beq_eq_false_iff_ne.2 (by omega)
   have b5 := b4 (by omega) (by omega)
   refine goF Tryz.func24 (closedL_cons (.agg (NC_closed x)) closedL_nil) (fun w0 st0 => ?_)
   dsimp only [frOf]
   (repeat' (first | refine goA ?_ | refine cX ca ?_ | refine cX cb ?_ | refine goB ?_ | fail))
   (refine awp_ret ⟨_, ResL.cons (ResA.tmp (.val _)) .nil, congrArg (fun n => AV.val (.int .i64 n)) ?_⟩; rw [oneS_eq]; (repeat' split) <;> omega)
  ·skip
   have e2 : (x.k == 2) = false := beq_eq_false_iff_ne.2 (by omega)
   have e10 : (x.k == 10) = true := beq_iff_eq.2 hk
   have e11 : (x.k == 11) = false := beq_eq_false_iff_ne.2 (by omega)
   have e1 : (x.k == 1) = false := beq_eq_false_iff_ne.2 (by omega)
   have e9 : (x.k == 9) = false := beq_eq_false_iff_ne.2 (by omega)
   have e6 : (x.k == 6) = false := beq_eq_false_iff_ne.2 (by omega)
   have e3 : (x.k == 3) = false := beq_eq_false_iff_ne.2 (by omega)
   have e7 : (x.k == 7) = false := beq_eq_false_iff_ne.2 (by omega)
   have e8 : (x.k == 8) = false := beq_eq_false_iff_ne.2 (by omega)
   have b5 := b4 (by omega) (by omega)
   refine goF Tryz.func24 (closedL_cons (.agg (NC_closed x)) closedL_nil) (fun w0 st0 => ?_)
   dsimp only [frOf]
   (repeat' (first | refine goA ?_ | refine cX ca ?_ | refine cX cb ?_ | refine goB ?_ | fail))
   (refine awp_ret ⟨_, ResL.cons (ResA.tmp (.val _)) .nil, congrArg (fun n => AV.val (.int .i64 n)) ?_⟩; rw [oneS_eq]; (repeat' split) <;> omega)
  ·skip
   have e2 : (x.k == 2) = false := beq_eq_false_iff_ne.2 (by omega)
   have e10 : (x.k == 10) = false := beq_eq_false_iff_ne.2 (by omega)
   have e11 : (x.k == 11) = true := beq_iff_eq.2 hk
   have e1 : (x.k == 1) = false := beq_eq_false_iff_ne.2 (by omega)
   have e9 : (x.k == 9) = false := beq_eq_false_iff_ne.2 (by omega)
   have e6 : (x.k == 6) = false := beq_eq_false_iff_ne.2 (by omega)
   have e3 : (x.k == 3) = false := beq_eq_false_iff_ne.2 (by omega)
   have e7 : (x.k == 7) = false := beq_eq_false_iff_ne.2 (by omega)
   have e8 : (x.k == 8) = false := beq_eq_false_iff_ne.2 (by omega)
   have b5 := b4 (by omega) (by omega)
   refine goF Tryz.func24 (closedL_cons (.agg (NC_closed x)) closedL_nil) (fun w0 st0 => ?_)
   dsimp only [frOf]
   (repeat' (first | refine goA ?_ | refine cX ca ?_ | refine cX cb ?_ | refine goB ?_ | fail))
   (refine awp_ret ⟨_, ResL.cons (ResA.tmp (.val _)) .nil, congrArg (fun n => AV.val (.int .i64 n)) ?_⟩; rw [oneS_eq]; (repeat' split) <;> omega)
 ·rcases hn with hn | hn
  ·skip
   have e2 : (x.k == 2) = false := beq_eq_false_iff_ne.2 (by omega)
   have e10 : (x.k == 10) = false := beq_eq_false_iff_ne.2 (by omega)
   have e11 : (x.k == 11) = false := beq_eq_false_iff_ne.2 (by omega)
   have e1 : (x.k == 1) = false := beq_eq_false_iff_ne.2 (by omega)
   have e9 : (x.k == 9) = false := beq_eq_false_iff_ne.2 (by omega)
   have e6 : (x.k == 6) = false := beq_eq_false_iff_ne.2 (by omega)
   have e3 : (x.k == 3) = true := beq_iff_eq.2 hk
   have e7 : (x.k == 7) = false := beq_eq_false_iff_ne.2 (by omega)
   have e8 : (x.k == 8) = false := beq_eq_false_iff_ne.2 (by omega)
   have e0 : (x.n == 1) = true := beq_iff_eq.2 hn
   refine goF Tryz.func24 (closedL_cons (.agg (NC_closed x)) closedL_nil) (fun w0 st0 => ?_)
   dsimp only [frOf]
   (repeat' (first | refine goA ?_ | refine cX ca ?_ | refine cX cb ?_ | refine goB ?_ | fail))
   (refine awp_ret ⟨_, ResL.cons (ResA.tmp (.val _)) .nil, congrArg (fun n => AV.val (.int .i64 n)) ?_⟩; rw [oneS_eq]; (repeat' split) <;> omega)
  ·skip
   have e2 : (x.k == 2) = false := beq_eq_false_iff_ne.2 (by omega)
   have e10 : (x.k == 10) = false := beq_eq_false_iff_ne.2 (by omega)
   have e11 : (x.k == 11) = false := beq_eq_false_iff_ne.2 (by omega)
   have e1 : (x.k == 1) = false := beq_eq_false_iff_ne.2 (by omega)
   have e9 : (x.k == 9) = false := beq_eq_false_iff_ne.2 (by omega)
   have e6 : (x.k == 6) = false := beq_eq_false_iff_ne.2 (by omega)
   have e3 : (x.k == 3) = true := beq_iff_eq.2 hk
   have e7 : (x.k == 7) = false := beq_eq_false_iff_ne.2 (by omega)
   have e8 : (x.k == 8) = false := beq_eq_false_iff_ne.2 (by omega)
   have b5 := b4 (by omega) (by omega)
   have e0 : (x.n == 1) = false := beq_eq_false_iff_ne.2 (by omega)
   refine goF Tryz.func24 (closedL_cons (.agg (NC_closed x)) closedL_nil) (fun w0 st0 => ?_)
   dsimp only [frOf]
   (repeat' (first | refine goA ?_ | refine cX ca ?_ | refine cX cb ?_ | refine goB ?_ | fail))
   (refine awp_ret ⟨_, ResL.cons (ResA.tmp (.val _)) .nil, congrArg (fun n => AV.val (.int .i64 n)) ?_⟩; rw [oneS_eq]; (repeat' split) <;> omega)
 ·skip
  have e2 : (x.k == 2) = false := beq_eq_false_iff_ne.2 (by omega)
  have e10 : (x.k == 10) = false := beq_eq_false_iff_ne.2 (by omega)
  have e11 : (x.k == 11) = false := beq_eq_false_iff_ne.2 (by omega)
  have e1 : (x.k == 1) = false := beq_eq_false_iff_ne.2 (by omega)
  have e9 : (x.k == 9) = false := beq_eq_false_iff_ne.2 (by omega)
  have e6 : (x.k == 6) = false := beq_eq_false_iff_ne.2 (by omega)
  have e3 : (x.k == 3) = false := beq_eq_false_iff_ne.2 (by omega)
  have e7 : (x.k == 7) = false := beq_eq_false_iff_ne.2 (by omega)
  have e8 : (x.k == 8) = false := beq_eq_false_iff_ne.2 (by omega)
  have b5 := b4 (by omega) (by omega)
  refine goF Tryz.func24 (closedL_cons (.agg (NC_closed x)) closedL_nil) (fun w0 st0 => ?_)
  dsimp only [frOf]
  (repeat' (first | refine goA ?_ | refine cX ca ?_ | refine cX cb ?_ | refine goB ?_ | fail))
  (refine awp_ret ⟨_, ResL.cons (ResA.tmp (.val _)) .nil, congrArg (fun n => AV.val (.int .i64 n)) ?_⟩; rw [oneS_eq]; (repeat' split) <;> omega)
 ·skip
  have e2 : (x.k == 2) = false := beq_eq_false_iff_ne.2 (by omega)
  have e10 : (x.k == 10) = false := beq_eq_false_iff_ne.2 (by omega)
  have e11 : (x.k == 11) = false := beq_eq_false_iff_ne.2 (by omega)
  have e1 : (x.k == 1) = false := beq_eq_false_iff_ne.2 (by omega)
  have e9 : (x.k == 9) = false := beq_eq_false_iff_ne.2 (by omega)
  have e6 : (x.k == 6) = false := beq_eq_false_iff_ne.2 (by omega)
  have e3 : (x.k == 3) = false := beq_eq_false_iff_ne.2 (by omega)
  have e7 : (x.k == 7) = false := beq_eq_false_iff_ne.2 (by omega)
  have e8 : (x.k == 8) = false := beq_eq_false_iff_ne.2 (by omega)
  have b5 := b4 (by omega) (by omega)
  refine goF Tryz.func24 (closedL_cons (.agg (NC_closed x)) closedL_nil) (fun w0 st0 => ?_)
  dsimp only [frOf]
  (repeat' (first | refine goA ?_ | refine cX ca ?_ | refine cX cb ?_ | refine goB ?_ | fail))
  (refine awp_ret ⟨_, ResL.cons (ResA.tmp (.val _)) .nil, congrArg (fun n => AV.val (.int .i64 n)) ?_⟩; rw [oneS_eq]; (repeat' split) <;> omega)
 ·skip
  have e2 : (x.k == 2) = false := beq_eq_false_iff_ne.2 (by omega)
  have e10 : (x.k == 10) = false := beq_eq_false_iff_ne.2 (by omega)
  have e11 : (x.k == 11) = false := beq_eq_false_iff_ne.2 (by omega)
  have e1 : (x.k == 1) = false := beq_eq_false_iff_ne.2 (by omega)
  have e9 : (x.k == 9) = false := beq_eq_false_iff_ne.2 (by omega)
  have e6 : (x.k == 6) = true := beq_iff_eq.2 hk
  have e3 : (x.k == 3) = false := beq_eq_false_iff_ne.2 (by omega)
  have e7 : (x.k == 7) = false := beq_eq_false_iff_ne.2 (by omega)
  have e8 : (x.k == 8) = false := beq_eq_false_iff_ne.2 (by omega)
  refine goF Tryz.func24 (closedL_cons (.agg (NC_closed x)) closedL_nil) (fun w0 st0 => ?_)
  dsimp only [frOf]
  (repeat' (first | refine goA ?_ | refine cX ca ?_ | refine cX cb ?_ | refine goB ?_ | fail))
  (refine awp_ret ⟨_, ResL.cons (ResA.tmp (.val _)) .nil, congrArg (fun n => AV.val (.int .i64 n)) ?_⟩; rw [oneS_eq]; (repeat' split) <;> omega)
 ·rcases hk with hk | hk <;> rcases hn with hn | hn
  ·skip
   have e2 : (x.k == 2) = false := beq_eq_false_iff_ne.2 (by omega)
   have e10 : (x.k == 10) = false := beq_eq_false_iff_ne.2 (by omega)
   have e11 : (x.k == 11) = false := beq_eq_false_iff_ne.2 (by omega)
   have e1 : (x.k == 1) = false := beq_eq_false_iff_ne.2 (by omega)
   have e9 : (x.k == 9) = false := beq_eq_false_iff_ne.2 (by omega)
   have e6 : (x.k == 6) = false := beq_eq_false_iff_ne.2 (by omega)
   have e3 : (x.k == 3) = false := beq_eq_false_iff_ne.2 (by omega)
   have e7 : (x.k == 7) = true := beq_iff_eq.2 hk
   have e8 : (x.k == 8) = false := beq_eq_false_iff_ne.2 (by omega)
   have b5 := b4 (by omega) (by omega)
   have e0 : (x.n == 1) = false := beq_eq_false_iff_ne.2 (by omega)
   refine goF Tryz.func24 (closedL_cons (.agg (NC_closed x)) closedL_nil) (fun w0 st0 => ?_)
   dsimp only [frOf]
   (repeat' (first | refine goA ?_ | refine cX ca ?_ | refine cX cb ?_ | refine goB ?_ | fail))
   (refine awp_ret ⟨_, ResL.cons (ResA.tmp (.val _)) .nil, congrArg (fun n => AV.val (.int .i64 n)) ?_⟩; rw [oneS_eq]; (repeat' split) <;> omega)
  ·skip
   have e2 : (x.k == 2) = false := beq_eq_false_iff_ne.2 (by omega)
   have e10 : (x.k == 10) = false := beq_eq_false_iff_ne.2 (by omega)
   have e11 : (x.k == 11) = false := beq_eq_false_iff_ne.2 (by omega)
   have e1 : (x.k == 1) = false := beq_eq_false_iff_ne.2 (by omega)
   have e9 : (x.k == 9) = false := beq_eq_false_iff_ne.2 (by omega)
   have e6 : (x.k == 6) = false := beq_eq_false_iff_ne.2 (by omega)
   have e3 : (x.k == 3) = false := beq_eq_false_iff_ne.2 (by omega)
   have e7 : (x.k == 7) = true := beq_iff_eq.2 hk
   have e8 : (x.k == 8) = false := beq_eq_false_iff_ne.2 (by omega)
   have b5 := b4 (by omega) (by omega)
   have e0 : (x.n == 1) = true := beq_iff_eq.2 hn
   refine goF Tryz.func24 (closedL_cons (.agg (NC_closed x)) closedL_nil) (fun w0 st0 => ?_)
   dsimp only [frOf]
   (repeat' (first | refine goA ?_ | refine cX ca ?_ | refine cX cb ?_ | refine goB ?_ | fail))
   (refine awp_ret ⟨_, ResL.cons (ResA.tmp (.val _)) .nil, congrArg (fun n => AV.val (.int .i64 n)) ?_⟩; rw [oneS_eq]; (repeat' split) <;> omega)
  ·skip
   have e2 : (x.k == 2) = false := beq_eq_false_iff_ne.2 (by omega)
   have e10 : (x.k == 10) = false := beq_eq_false_iff_ne.2 (by omega)
   have e11 : (x.k == 11) = false := beq_eq_false_iff_ne.2 (by omega)
   have e1 : (x.k == 1) = false := beq_eq_false_iff_ne.2 (by omega)
   have e9 : (x.k == 9) = false := beq_eq_false_iff_ne.2 (by omega)
   have e6 : (x.k == 6) = false := beq_eq_false_iff_ne.2 (by omega)
   have e3 : (x.k == 3) = false := beq_eq_false_iff_ne.2 (by omega)
   have e7 : (x.k == 7) = false := beq_eq_false_iff_ne.2 (by omega)
   have e8 : (x.k == 8) = true := beq_iff_eq.2 hk
   have b5 := b4 (by omega) (by omega)
   have e0 : (x.n == 1) = false := beq_eq_false_iff_ne.2 (by omega)
   refine goF Tryz.func24 (closedL_cons (.agg (NC_closed x)) closedL_nil) (fun w0 st0 => ?_)
   dsimp only [frOf]
   (repeat' (first | refine goA ?_ | refine cX ca ?_ | refine cX cb ?_ | refine goB ?_ | fail))
   (refine awp_ret ⟨_, ResL.cons (ResA.tmp (.val _)) .nil, congrArg (fun n => AV.val (.int .i64 n)) ?_⟩; rw [oneS_eq]; (repeat' split) <;> omega)
  ·skip
   have e2 : (x.k == 2) = false := beq_eq_false_iff_ne.2 (by omega)
   have e10 : (x.k == 10) = false := beq_eq_false_iff_ne.2 (by omega)
   have e11 : (x.k == 11) = false := beq_eq_false_iff_ne.2 (by omega)
   have e1 : (x.k == 1) = false := beq_eq_false_iff_ne.2 (by omega)
   have e9 : (x.k == 9) = false := beq_eq_false_iff_ne.2 (by omega)
   have e6 : (x.k == 6) = false := beq_eq_false_iff_ne.2 (by omega)
   have e3 : (x.k == 3) = false := beq_eq_false_iff_ne.2 (by omega)
   have e7 : (x.k == 7) = false := beq_eq_false_iff_ne.2 (by omega)
   have e8 : (x.k == 8) = true := beq_iff_eq.2 hk
   have b5 := b4 (by omega) (by omega)
   have e0 : (x.n == 1) = true := beq_iff_eq.2 hn
   refine goF Tryz.func24 (closedL_cons (.agg (NC_closed x)) closedL_nil) (fun w0 st0 => ?_)
   dsimp only [frOf]
   (repeat' (first | refine goA ?_ | refine cX ca ?_ | refine cX cb ?_ | refine goB ?_ | fail))
   (refine awp_ret ⟨_, ResL.cons (ResA.tmp (.val _)) .nil, congrArg (fun n => AV.val (.int .i64 n)) ?_⟩; rw [oneS_eq]; (repeat' split) <;> omega)
set_option maxHeartbeats 4000000 in
theorem siz_all : ∀ (m : Nat) (l : List Nod), cntL l < m → okDs l = true → cntL l ≤ 100000 → SizC l := by
 intro m
 induction m with
 | zero => exact fun l h => absurd h (Nat.not_lt_zero _)
 | succ m ih =>
  intro l hm hok hc
  have hl := cnt_len l
  unfold SizC
  refine goF Tryz.func12 (closedL_cons (closed_tr _) closedL_nil) (fun w0 st0 => ?_)
  dsimp only [frOf]
  (repeat' (first | refine goA ?_ | refine goB ?_ | ((fail_if_success refine ARun.plain rfl ?_); refine ARun.fork rfl rfl rfl (fun h => ?_) (fun h => ?_)) | refine awp_cond rfl (fun h => ?_) (fun h => ?_)))
  refine awp_loopT (T := Nat × Nat) (fun t => ⟨[(7, .val (.int .i64 (t.1 : Nat))), (6, .val (.int .i64 ((l.map encD).length : Nat))), (3, .val (.int .i64 (sizS (l.take t.1)))), (0, encTr l)], [], t.2⟩) (fun t => t.1 ≤ l.length) (fun t => l.length - t.1) (0, _) (Nat.zero_le _) ⟨⟨rfl, rfl, congrArg (fun n => AV.val (.int .i64 n)) (by rw [List.take_zero, sizS]), rfl, trivial⟩, trivial, Nat.le_refl _⟩ (fun t ht => ?_)
  obtain ⟨k, gc⟩ := t
  dsimp only at ht ⊢
  by_cases hlt : k < l.length
  ·have hp : l[k]? = some l[k] := List.getElem?_eq_getElem hlt
   have hc2 : decide (((k : Nat) : Int) < (((l.map encD).length : Nat) : Int)) = true := by simp; omega
   generalize l[k] = x at hp
   have ok1 := okDs_mem hok x (List.mem_of_getElem? hp)
   have n1 := cnt_mem hp
   have n2 := cnt_ab x
   have c1 := one_c x ok1 (by omega) (ih x.a (by omega) (okD_ab ok1).1 (by omega)) (ih x.b (by omega) (okD_ab ok1).2 (by omega))
   have q1 := sizS_bound (l.take k)
   have q2 := cnt_take l k
   have q3 := oneS_bound x
   have gx := get_nd hp
   have hsz : AV.val (.int .i64 (sizS (l.take k) + oneS x)) = AV.val (.int .i64 (sizS (l.take (k + 1)))) := by rw [siz_take hp]
   (repeat' (first | refine goA ?_ | refine cX c1 ?_ | refine ARun.indexAddr rfl rfl (by omega) (by with_reducible exact gx) rfl rfl rfl rfl rfl (guardF_spec rfl) ?_ | refine goB ?_ | fail))
   exact ⟨(k + 1, _), ⟨⟨succI k, rfl, hsz, rfl, trivial⟩, trivial, Nat.le_refl _⟩, by dsimp only; omega, (by dsimp only; omega)⟩
  ·have hkk : k = l.length := by omega
   subst hkk
   have hc2 : decide (((l.length : Nat) : Int) < (((l.map encD).length : Nat) : Int)) = false := by simp
   rw [List.take_length]
   (repeat' (first | refine goA ?_ | refine goB ?_ | fail))
   exact awp_ret ⟨_, ResL.cons (ResA.tmp (.val _)) .nil, rfl⟩
theorem siz_c (l : List Nod) (h : okDs l = true) (hc : cntL l ≤ 100000) : SizC l := siz_all (cntL l + 1) l (Nat.lt_succ_self _) h hc
end Go.Proofs.YtfphgelollhdhaaGreat.Gen
namespace Go.Proofs.YtfphgelollhdhaaGreat.Gen
open Go Go.RowKit
set_option maxRecDepth 100000
abbrev LCb (b g : Nat) (at_ self en : Int) (n : Nat) : List AV := [.val (.int .i64 at_), .val (.int .i64 self), .val (.int .i64 en), .own b g 0 n]
abbrev LC (at_ self en : Int) (n : Nat) : List AV := LCb 1001 1 at_ self en n
abbrev bsL (at_ self en : Int) (out : List Int) : List LB := [(4, [LC at_ self en (out.map encI).length]), (1, out.map encI)]
abbrev bsE (at_ self en : Int) (out : List Int) : List (List (List AV)) := [[LC at_ self en (out.map encI).length], out.map encI]
theorem map_cl (l : List Int) : ∀ el x, el ∈ l.map encI → x ∈ el → Closed x := own_closed_map encI_closed
theorem rl_lc (sX : AS) (at_ self en : Int) (n : Nat) : RlR 2 sX [LC at_ self en n] [LC at_ self en n] :=
 RlR.cons (RlL.cons (.reif (.val _)) (RlL.cons (.reif (.val _)) (RlL.cons (.reif (.val _)) (RlL.cons (.own 1 0 n rfl) (RlL.nil _ _))))) (RlR.nil _ _)
theorem fin_l {rs : Array ResultVar} {at_ self en : Int} {n g : Nat} {out : List Int} {x y els : List (List AV)} {s : AS} (hr : rs.toList = []) (h1 : lkH s.hp 1000 = some ⟨0, 4, [LCb 1001 g at_ self en n]⟩) (h2 : lkH s.hp 1001 = some ⟨g, 1, els⟩) (he : els = out.map encI) (hn : n = (out.map encI).length) :
  endsM rs (.tup []) [(4, x), (1, y)] (bsE at_ self en out) s := by
 subst hn
 subst he
 exact ⟨1001, g, [], rfl, by rw [hr]; exact .nil, rfl, ⟨_, h1, RelR.cons (RelL.cons (.reif (.val _)) (RelL.cons (.reif (.val _)) (RelL.cons (.reif (.val _)) (RelL.cons (.row 0 _) (RelL.nil _))))) (RelR.nil _)⟩, ⟨_, h2, RelR.id (fun el v q1 q2 => .reif (.closed _ (map_cl _ el v q1 q2)))⟩⟩
theorem ln_lc {b g bR gR : Nat} (at_ self en : Int) (n : Nat) : RelL (Ln [(b, g), (bR, gR)]) (LCb bR gR at_ self en n) (LC at_ self en n) :=
 RelL.cons (.wk (.same _) (.val _)) (RelL.cons (.wk (.same _) (.val _)) (RelL.cons (.wk (.same _) (.val _)) (RelL.cons (.own (j := 1) 0 n rfl) (RelL.nil _))))
theorem lb_lc {b g bR gR : Nat} (at_ self en : Int) (n : Nat) : RelL (Lb [(b, g), (bR, gR)]) (LCb bR gR at_ self en n) (LC at_ self en n) :=
 RelL.cons (.same _ (.val _)) (RelL.cons (.same _ (.val _)) (RelL.cons (.same _ (.val _)) (RelL.cons (.own (j := 1) 0 n rfl) (RelL.nil _))))
section
variable {P : Program} {T : Nat → Option TI} {ok : ∀ t ti, T t = some ti → tiOf P t = some ti} {nn : Nat} {w0 : World} {st0 lent : Nat → Prop} {rdd : Option Nat × Bool} {c00 : RC}
 {ops : Array Oper} {K : AS → List (List Nat × List Nat) → Prop} {k : Nat} {rest : List Oper} {fr : List (Nat × AV)} {hp : List (Nat × Option Blk)} {gc : Nat} {fps : List (List Nat × List Nat)}
 {d : Nat} {ty : TypeId} {pos : String} {after : Array Edge} {gd : Option (Nat × Bool)} {v : AV}
theorem callLay {dst : Option Nat} {fx : Operand} {args : Array Operand} {ats : Array TypeId} {f : FuncId} {cavs : List AV} {at_ self en en' : Int} {out out' : List Int} (b bR : Nat) {g gR n : Nat} {eR : List (List AV)} (hF : FnM P f cavs (bsL at_ self en out) (.tup []) (bsE at_ self en' out')) (hf : evA fr fx = .val (.func (.func f) #[] #[]))
  (hlk : lkH hp b = some ⟨g, 4, [LCb bR gR at_ self en n]⟩) (hlkR : lkH hp bR = some ⟨gR, 1, eR⟩) (hn : n = (out.map encI).length) (he : eR = out.map encI)
  (ha : RelL (Ln [(b, g), (bR, gR)]) (args.toList.map (evA fr)) cavs) (hne : nodupB [b, bR] = true) (hd : dOk nn dst = true) (hg : guardF ops fr ⟨dst, .call ⟨.value fx, args, ats⟩, ty, pos, after, gd⟩ = some true)
  (nx : ARun ⟨P, T, ok, nn, w0, st0, lent, rdd, c00⟩ ops K (k + 1) rest ⟨putFr fr dst (.tup []), (b, some ⟨g, 4, [LCb bR (gc + k) at_ self en' (out'.map encI).length]⟩) :: (bR, some ⟨gc + k, 1, out'.map encI⟩) :: hp, gc⟩ (fps ++ [([b, bR], [b, bR])])) : ARun ⟨P, T, ok, nn, w0, st0, lent, rdd, c00⟩ ops K k (⟨dst, .call ⟨.value fx, args, ats⟩, ty, pos, after, gd⟩ :: rest) ⟨fr, hp, gc⟩ fps := by
 subst hn
 subst he
 exact callSt b g 4 bR gR 1 _ _ hF hf hlk hlkR ha hne (ln_lc _ _ _ _) (lb_lc _ _ _ _) (map_cl _) (map_cl _) (.same _ (.tup closedL_nil)) rfl rfl hd hg nx
theorem callAsk {fx : Operand} {args : Array Operand} {ats : Array TypeId} {f : FuncId} {cavs : List AV} {at_ self en r : Int} {out : List Int} (b bR : Nat) {g gR n : Nat} {eR : List (List AV)} (hF : FnL P f cavs (bsL at_ self en out) (.val (.int .i64 r)) (bsE at_ self en out)) (hf : evA fr fx = .val (.func (.func f) #[] #[]))
  (hlk : lkH hp b = some ⟨g, 4, [LCb bR gR at_ self en n]⟩) (hlkR : lkH hp bR = some ⟨gR, 1, eR⟩) (hn : n = (out.map encI).length) (he : eR = out.map encI)
  (ha : RelL (Ln [(b, g), (bR, gR)]) (args.toList.map (evA fr)) cavs) (hne : nodupB [b, bR] = true) (hd : Nat.blt d nn = true) (hg : guardF ops fr ⟨some d, .call ⟨.value fx, args, ats⟩, ty, pos, after, gd⟩ = some true)
  (nx : ARun ⟨P, T, ok, nn, w0, st0, lent, rdd, c00⟩ ops K (k + 1) rest ⟨(d, .val (.int .i64 r)) :: fr, (b, some ⟨g, 4, [LCb bR gR at_ self en (out.map encI).length]⟩) :: (bR, some ⟨gR, 1, out.map encI⟩) :: hp, gc⟩ (fps ++ [([b, bR], [b, bR])])) : ARun ⟨P, T, ok, nn, w0, st0, lent, rdd, c00⟩ ops K k (⟨some d, .call ⟨.value fx, args, ats⟩, ty, pos, after, gd⟩ :: rest) ⟨fr, hp, gc⟩ fps := by
 subst hn
 subst he
 exact callLX (first := []) (cap := []) [(b, ⟨g, 4, [LCb bR gR at_ self en (out.map encI).length]⟩), (bR, ⟨gR, 1, out.map encI⟩)] [(b, ⟨g, 4, [LCb bR gR at_ self en (out.map encI).length]⟩), (bR, ⟨gR, 1, out.map encI⟩)] hF (.inl ⟨hf, rfl, rfl⟩) ⟨hlk, hlkR, trivial⟩ (by rw [List.nil_append, List.append_nil]; exact ha) ⟨⟨rfl, rfl, RelR.cons (ln_lc _ _ _ _) (RelR.nil _)⟩, ⟨rfl, rfl, RelR.id (fun el x q1 q2 => .wk (.same _) (map_cl _ el x q1 q2))⟩, trivial⟩ ⟨⟨rfl, rfl, rfl, RelR.cons (lb_lc _ _ _ _) (RelR.nil _)⟩, ⟨rfl, rfl, rfl, RelR.id (fun el x q1 q2 => .same _ (map_cl _ el x q1 q2))⟩, trivial⟩ (.same _ (.val _)) hne hd hg nx
end
attribute [local irreducible] Decidable.decide awp ARun regK toK
theorem here_l (at_ self en : Int) (out : List Int) (h : out.length ≤ 1000000) : FnL Tryz.prog 108 [.ptr 1000 0 0 0] (bsL at_ self en out) (.val (.int .i64 (wr (at_ + 8 * (out.length : Int))))) (bsE at_ self en out) := by
 refine FnL.of_awp (T := tt) (ok := tok) Tryz.func108 (by kernel_rfl) rfl (by kernel_rfl) (by kernel_rfl) (fun w0 st0 lent c0 => ?_)
 dsimp only [frOf, hpFrom, List.length_cons, List.length_nil]
 have e0 : (((out.map encI).length : Nat) : Int) = out.length := by rw [List.length_map]
 rw [← e0]
 (repeat' (first | refine goA ?_ | refine ARun.nilCheckP rfl rfl (guardF_spec rfl) ?_ | refine ARun.bin rfl rfl bin_add rfl (guardF_spec rfl) ?_ | refine goB ?_ | ((fail_if_success refine ARun.plain rfl ?_); refine ARun.fork rfl rfl rfl (fun h => ?_) (fun h => ?_)) | refine awp_cond rfl (fun h => ?_) (fun h => ?_)))
 exact awp_ret ⟨_, ResL.cons (ResA.tmp (.val _)) .nil, rfl, ⟨_, rfl, rl_lc _ _ _ _ _⟩, ⟨_, rfl, RlR.closed (map_cl _)⟩, trivial⟩
theorem behind_l (at_ self en n : Int) (out : List Int) (h : out.length ≤ 1000000) (hn : 0 ≤ n ∧ n ≤ 1000000) : FnL Tryz.prog 76 [.ptr 1000 0 0 0, .val (.int .i64 n)] (bsL at_ self en out) (.val (.int .i64 (wr (wr (at_ + 8 * (out.length : Int)) + 8 * n)))) (bsE at_ self en out) := by
 have c1 := here_l at_ self en out h
 refine FnL.of_awp (T := tt) (ok := tok) Tryz.func76 (by kernel_rfl) rfl (by kernel_rfl) (by kernel_rfl) (fun w0 st0 lent c0 => ?_)
 dsimp only [frOf, hpFrom, List.length_cons, List.length_nil]
 (repeat' (first | refine goA ?_ | refine ARun.nilCheckP rfl rfl (guardF_spec rfl) ?_ | refine callAsk 1000 1001 c1 rfl rfl rfl rfl rfl askT rfl rfl rfl ?_ | refine ARun.bin rfl rfl bin_add rfl (guardF_spec rfl) ?_ | refine goB ?_ | ((fail_if_success refine ARun.plain rfl ?_); refine ARun.fork rfl rfl rfl (fun h => ?_) (fun h => ?_)) | refine awp_cond rfl (fun h => ?_) (fun h => ?_)))
 exact awp_ret ⟨_, ResL.cons (ResA.tmp (.val _)) .nil, rfl, ⟨_, rfl, rl_lc _ _ _ _ _⟩, ⟨_, rfl, RlR.closed (map_cl _)⟩, trivial⟩
theorem lay_m (at_ self en : Int) (out cs : List Int) (h : out.length ≤ 1000000) (hc : cs.length ≤ 1000) : FnM Tryz.prog 19 [.ptr 1000 0 0 0, encS cs] (bsL at_ self en out) (.tup []) (bsE at_ self en (out ++ cs)) := by
 refine FnM.of_awp (T := tt) (ok := tok) Tryz.func19 (by kernel_rfl) rfl (by kernel_rfl) (by kernel_rfl) rfl (fun w0 st0 lent c0 => ?_)
 dsimp only [frOf, hpFrom, List.length_cons, List.length_nil]
 (repeat' (first | refine goA ?_ | refine ARun.nilCheckP rfl rfl (guardF_spec rfl) ?_ | refine appO rfl ?_ | refine goB ?_ | ((fail_if_success refine ARun.plain rfl ?_); refine ARun.fork rfl rfl rfl (fun h => ?_) (fun h => ?_)) | refine awp_cond rfl (fun h => ?_) (fun h => ?_)))
 refine fin_l (out := out ++ cs) rfl rfl rfl ?_ ?_
 ·rw [List.map_append]
 ·rw [List.map_append]
end Go.Proofs.YtfphgelollhdhaaGreat.Gen
namespace Go.Proofs.YtfphgelollhdhaaGreat.Gen
open Go Go.RowKit
set_option maxRecDepth 100000
def XS : Xts := ⟨xtD [40, 108, 105, 116, 41], xtD [40, 48, 98, 114, 97, 110, 99, 104, 41], xtD [40, 98, 114, 97, 110, 99, 104, 41], xtD [40, 100, 111, 41], xtD [40, 63, 100, 111, 41], xtD [40, 108, 111, 111, 112, 41], xtD [40, 43, 108, 111, 111, 112, 41], xtD [85, 78, 76, 79, 79, 80], xtD [40, 101, 120, 105, 116, 41]⟩
theorem xt_lit : FnC Tryz.prog 20 [St [40, 108, 105, 116, 41]] (.val (.int .i64 XS.lit)) := xt_c _
theorem xt_zb : FnC Tryz.prog 20 [St [40, 48, 98, 114, 97, 110, 99, 104, 41]] (.val (.int .i64 XS.zb)) := xt_c _
theorem xt_br : FnC Tryz.prog 20 [St [40, 98, 114, 97, 110, 99, 104, 41]] (.val (.int .i64 XS.br)) := xt_c _
theorem xt_doo : FnC Tryz.prog 20 [St [40, 100, 111, 41]] (.val (.int .i64 XS.doo)) := xt_c _
theorem xt_qdo : FnC Tryz.prog 20 [St [40, 63, 100, 111, 41]] (.val (.int .i64 XS.qdo)) := xt_c _
theorem xt_lp : FnC Tryz.prog 20 [St [40, 108, 111, 111, 112, 41]] (.val (.int .i64 XS.lp)) := xt_c _
theorem xt_plp : FnC Tryz.prog 20 [St [40, 43, 108, 111, 111, 112, 41]] (.val (.int .i64 XS.plp)) := xt_c _
theorem xt_unl : FnC Tryz.prog 20 [St [85, 78, 76, 79, 79, 80]] (.val (.int .i64 XS.unl)) := xt_c _
theorem xt_ex : FnC Tryz.prog 20 [St [40, 101, 120, 105, 116, 41]] (.val (.int .i64 XS.ex)) := xt_c _
theorem rxt_lit : FnC Tryz.prog 11 [St [40, 108, 105, 116, 41]] (.val (.int .i64 XS.lit)) := ref_xt_c _
theorem rxt_zb : FnC Tryz.prog 11 [St [40, 48, 98, 114, 97, 110, 99, 104, 41]] (.val (.int .i64 XS.zb)) := ref_xt_c _
theorem rxt_ex : FnC Tryz.prog 11 [St [40, 101, 120, 105, 116, 41]] (.val (.int .i64 XS.ex)) := ref_xt_c _
def RowC (t : List Nod) : Prop := ∀ (at_ self en : Int) (out : List Int), out.length + 4 * cntL t ≤ 400000 → FnM Tryz.prog 18 [.ptr 1000 0 0 0, encTr t] (bsL at_ self en out) (.tup []) (bsE at_ self en (out ++ codL XS self t (wr (at_ + 8 * (out.length : Int))) en))
def PartC (x : Nod) : Prop := ∀ (at_ self en : Int) (out : List Int), out.length + 4 * cntN x ≤ 400000 → FnM Tryz.prog 48 [.ptr 1000 0 0 0, .agg (NC x)] (bsL at_ self en out) (.tup []) (bsE at_ self en (out ++ codN XS self x (wr (at_ + 8 * (out.length : Int))) en))
attribute [local irreducible] Decidable.decide awp ARun regK toK XS
set_option maxHeartbeats 8000000 in
theorem turn_m (x : Nod) (ok : okD x = true) (hk : x.k = 4 ∨ x.k = 5 ∨ x.k = 6) (ca : RowC x.a) (cb : RowC x.b) (at_ self en : Int) (out : List Int) (hs : out.length + 4 * cntN x ≤ 400000) :
  FnM Tryz.prog 78 [.ptr 1000 0 0 0, .agg (NC x), .val (.int .i64 (wr (wr (at_ + 8 * (out.length : Int)) + 8 * oneS x)))] (bsL at_ self en out) (.tup []) (bsE at_ self en (out ++ codN XS self x (wr (at_ + 8 * (out.length : Int))) en)) := by
 have b1 := sizS_bound x.a
 have b2 := sizS_bound x.b
 have b3 := cnt_ab x
 have b4 := oneS_bound x
 have oka := (okD_ab ok).1
 have okb := (okD_ab ok).2
 obtain ⟨pos, hpos⟩ : ∃ p, p = wr (at_ + 8 * (out.length : Int)) := ⟨_, rfl⟩
 have c1 := here_l at_ self en out (by omega)
 rw [← hpos] at c1 ⊢
 obtain ⟨E, hE⟩ : ∃ p, p = wr (pos + 8 * oneS x) := ⟨_, rfl⟩
 rw [← hE]
 rcases hk with hk | hk | hk
 ·skip
  have e4 : (x.k == 4) = true := beq_iff_eq.2 hk
  have e6 : (x.k == 6) = false := beq_eq_false_iff_ne.2 (by omega)
  have k1 := ca at_ self en out (by omega)
  rw [← hpos] at k1
  have z1 : ((codL XS self x.a pos en).length : Int) = sizS x.a := codL_len _ _ _ _ _ oka
  obtain ⟨o1, h1⟩ : ∃ o : List Int, o = out ++ codL XS self x.a pos en := ⟨_, rfl⟩
  rw [← h1] at k1
  have y1 : (o1.length : Int) = (out.length : Int) + sizS x.a := by rw [h1, List.length_append]; (try simp only [List.length_cons, List.length_nil]); omega
  have k2 := lay_m at_ self en o1 [XS.zb, pos] (by omega) (by simp)
  obtain ⟨o2, h2⟩ : ∃ o : List Int, o = o1 ++ [XS.zb, pos] := ⟨_, rfl⟩
  rw [← h2] at k2
  have y2 : (o2.length : Int) = (o1.length : Int) + 2 := by rw [h2, List.length_append]; (try simp only [List.length_cons, List.length_nil]); omega
  have hF : out ++ codN XS self x pos en = o2 := by
   rw [codN_eq, ← hE, hk, h2, h1]
   simp []
  rw [hF]
  refine FnM.of_awp (T := tt) (ok := tok) Tryz.func78 (by kernel_rfl) rfl (by kernel_rfl) (by kernel_rfl) rfl (fun w0 st0 lent c0 => ?_)
  dsimp only [frOf, hpFrom, List.length_cons, List.length_nil]
  (repeat' (first | refine goA ?_ | refine ARun.nilCheckP rfl rfl (guardF_spec rfl) ?_ | refine cX xt_zb ?_ | refine cX xt_br ?_ | refine callAsk 1000 1001 c1 rfl rfl rfl rfl rfl askT rfl rfl rfl ?_ | refine callLay 1000 1001 k1 rfl rfl rfl rfl rfl askT rfl rfl rfl ?_ | refine callLay 1000 1001 k2 rfl rfl rfl rfl rfl askT rfl rfl rfl ?_ | refine goB ?_ | fail))
  (first | exact fin_l rfl rfl rfl rfl rfl | exact awp_ret (fin_l rfl rfl rfl rfl rfl) | (refine awp_skip ?_; exact fin_l rfl rfl rfl rfl rfl) | (refine awp_exit ?_; exact fin_l rfl rfl rfl rfl rfl))
 ·skip
  have e4 : (x.k == 4) = false := beq_eq_false_iff_ne.2 (by omega)
  have e6 : (x.k == 6) = false := beq_eq_false_iff_ne.2 (by omega)
  have k1 := ca at_ self en out (by omega)
  rw [← hpos] at k1
  have z1 : ((codL XS self x.a pos en).length : Int) = sizS x.a := codL_len _ _ _ _ _ oka
  obtain ⟨o1, h1⟩ : ∃ o : List Int, o = out ++ codL XS self x.a pos en := ⟨_, rfl⟩
  rw [← h1] at k1
  have y1 : (o1.length : Int) = (out.length : Int) + sizS x.a := by rw [h1, List.length_append]; (try simp only [List.length_cons, List.length_nil]); omega
  have k2 := lay_m at_ self en o1 [XS.br, pos] (by omega) (by simp)
  obtain ⟨o2, h2⟩ : ∃ o : List Int, o = o1 ++ [XS.br, pos] := ⟨_, rfl⟩
  rw [← h2] at k2
  have y2 : (o2.length : Int) = (o1.length : Int) + 2 := by rw [h2, List.length_append]; (try simp only [List.length_cons, List.length_nil]); omega
  have hF : out ++ codN XS self x pos en = o2 := by
   rw [codN_eq, ← hE, hk, h2, h1]
   simp []
  rw [hF]
  refine FnM.of_awp (T := tt) (ok := tok) Tryz.func78 (by kernel_rfl) rfl (by kernel_rfl) (by kernel_rfl) rfl (fun w0 st0 lent c0 => ?_)
  dsimp only [frOf, hpFrom, List.length_cons, List.length_nil]
  (repeat' (first | refine goA ?_ | refine ARun.nilCheckP rfl rfl (guardF_spec rfl) ?_ | refine cX xt_zb ?_ | refine cX xt_br ?_ | refine callAsk 1000 1001 c1 rfl rfl rfl rfl rfl askT rfl rfl rfl ?_ | refine callLay 1000 1001 k1 rfl rfl rfl rfl rfl askT rfl rfl rfl ?_ | refine callLay 1000 1001 k2 rfl rfl rfl rfl rfl askT rfl rfl rfl ?_ | refine goB ?_ | fail))
  (first | exact fin_l rfl rfl rfl rfl rfl | exact awp_ret (fin_l rfl rfl rfl rfl rfl) | (refine awp_skip ?_; exact fin_l rfl rfl rfl rfl rfl) | (refine awp_exit ?_; exact fin_l rfl rfl rfl rfl rfl))
 ·skip
  have e4 : (x.k == 4) = false := beq_eq_false_iff_ne.2 (by omega)
  have e6 : (x.k == 6) = true := beq_iff_eq.2 hk
  have k1 := ca at_ self en out (by omega)
  rw [← hpos] at k1
  have z1 : ((codL XS self x.a pos en).length : Int) = sizS x.a := codL_len _ _ _ _ _ oka
  obtain ⟨o1, h1⟩ : ∃ o : List Int, o = out ++ codL XS self x.a pos en := ⟨_, rfl⟩
  rw [← h1] at k1
  have y1 : (o1.length : Int) = (out.length : Int) + sizS x.a := by rw [h1, List.length_append]; (try simp only [List.length_cons, List.length_nil]); omega
  have k2 := lay_m at_ self en o1 [XS.zb, E] (by omega) (by simp)
  obtain ⟨o2, h2⟩ : ∃ o : List Int, o = o1 ++ [XS.zb, E] := ⟨_, rfl⟩
  rw [← h2] at k2
  have y2 : (o2.length : Int) = (o1.length : Int) + 2 := by rw [h2, List.length_append]; (try simp only [List.length_cons, List.length_nil]); omega
  have hB : wr (at_ + 8 * (o2.length : Int)) = wr (pos + 8 * (sizS x.a + 2)) := by rw [hpos, wr_wr, y2, y1]; congr 1; omega
  have k3 := cb at_ self en o2 (by omega)
  rw [hB] at k3
  have z3 : ((codL XS self x.b (wr (pos + 8 * (sizS x.a + 2))) en).length : Int) = sizS x.b := codL_len _ _ _ _ _ okb
  obtain ⟨o3, h3⟩ : ∃ o : List Int, o = o2 ++ codL XS self x.b (wr (pos + 8 * (sizS x.a + 2))) en := ⟨_, rfl⟩
  rw [← h3] at k3
  have y3 : (o3.length : Int) = (o2.length : Int) + sizS x.b := by rw [h3, List.length_append]; (try simp only [List.length_cons, List.length_nil]); omega
  have k4 := lay_m at_ self en o3 [XS.br, pos] (by omega) (by simp)
  obtain ⟨o4, h4⟩ : ∃ o : List Int, o = o3 ++ [XS.br, pos] := ⟨_, rfl⟩
  rw [← h4] at k4
  have y4 : (o4.length : Int) = (o3.length : Int) + 2 := by rw [h4, List.length_append]; (try simp only [List.length_cons, List.length_nil]); omega
  have hF : out ++ codN XS self x pos en = o4 := by
   rw [codN_eq, ← hE, hk, h4, h3, h2, h1]
   simp []
  rw [hF]
  refine FnM.of_awp (T := tt) (ok := tok) Tryz.func78 (by kernel_rfl) rfl (by kernel_rfl) (by kernel_rfl) rfl (fun w0 st0 lent c0 => ?_)
  dsimp only [frOf, hpFrom, List.length_cons, List.length_nil]
  (repeat' (first | refine goA ?_ | refine ARun.nilCheckP rfl rfl (guardF_spec rfl) ?_ | refine cX xt_zb ?_ | refine cX xt_br ?_ | refine callAsk 1000 1001 c1 rfl rfl rfl rfl rfl askT rfl rfl rfl ?_ | refine callLay 1000 1001 k1 rfl rfl rfl rfl rfl askT rfl rfl rfl ?_ | refine callLay 1000 1001 k2 rfl rfl rfl rfl rfl askT rfl rfl rfl ?_ | refine callLay 1000 1001 k3 rfl rfl rfl rfl rfl askT rfl rfl rfl ?_ | refine callLay 1000 1001 k4 rfl rfl rfl rfl rfl askT rfl rfl rfl ?_ | refine goB ?_ | fail))
  (first | exact fin_l rfl rfl rfl rfl rfl | exact awp_ret (fin_l rfl rfl rfl rfl rfl) | (refine awp_skip ?_; exact fin_l rfl rfl rfl rfl rfl) | (refine awp_exit ?_; exact fin_l rfl rfl rfl rfl rfl))
set_option maxHeartbeats 8000000 in
theorem loop_m (x : Nod) (ok : okD x = true) (hk0 : x.k = 7 ∨ x.k = 8) (hn : x.n = 0 ∨ x.n = 1) (ca : RowC x.a) (at_ self en : Int) (out : List Int) (hs : out.length + 4 * cntN x ≤ 400000) :
  FnM Tryz.prog 77 [.ptr 1000 0 0 0, .agg (NC x), .val (.int .i64 (wr (wr (at_ + 8 * (out.length : Int)) + 8 * oneS x)))] (bsL at_ self en out) (.tup []) (bsE at_ self en (out ++ codN XS self x (wr (at_ + 8 * (out.length : Int))) en)) := by
 have b1 := sizS_bound x.a
 have b2 := sizS_bound x.b
 have b3 := cnt_ab x
 have b4 := oneS_bound x
 have oka := (okD_ab ok).1
 have okb := (okD_ab ok).2
 obtain ⟨pos, hpos⟩ : ∃ p, p = wr (at_ + 8 * (out.length : Int)) := ⟨_, rfl⟩
 have c1 := here_l at_ self en out (by omega)
 rw [← hpos] at c1 ⊢
 obtain ⟨E, hE⟩ : ∃ p, p = wr (pos + 8 * oneS x) := ⟨_, rfl⟩
 rw [← hE]
 rcases hk0 with hk | hk <;> rcases hn with hn | hn
 ·skip
  have e8 : (x.k == 8) = false := beq_eq_false_iff_ne.2 (by omega)
  have e0 : (x.n == 1) = false := beq_eq_false_iff_ne.2 (by omega)
  have k1 := lay_m at_ self E out [XS.doo] (by omega) (by simp)
  obtain ⟨o1, h1⟩ : ∃ o : List Int, o = out ++ [XS.doo] := ⟨_, rfl⟩
  rw [← h1] at k1
  have y1 : (o1.length : Int) = (out.length : Int) + 1 := by rw [h1, List.length_append]; (try simp only [List.length_cons, List.length_nil]); omega
  have hA : wr (at_ + 8 * (o1.length : Int)) = wr (pos + 8) := by rw [hpos, wr_wr, y1]; congr 1; omega
  have c2 := here_l at_ self E o1 (by omega)
  rw [hA] at c2
  have k2 := ca at_ self E o1 (by omega)
  rw [hA] at k2
  have z2 : ((codL XS self x.a (wr (pos + 8)) E).length : Int) = sizS x.a := codL_len _ _ _ _ _ oka
  obtain ⟨o2, h2⟩ : ∃ o : List Int, o = o1 ++ codL XS self x.a (wr (pos + 8)) E := ⟨_, rfl⟩
  rw [← h2] at k2
  have y2 : (o2.length : Int) = (o1.length : Int) + sizS x.a := by rw [h2, List.length_append]; (try simp only [List.length_cons, List.length_nil]); omega
  have k3 := lay_m at_ self E o2 [XS.lp, wr (pos + 8)] (by omega) (by simp)
  obtain ⟨o3, h3⟩ : ∃ o : List Int, o = o2 ++ [XS.lp, wr (pos + 8)] := ⟨_, rfl⟩
  rw [← h3] at k3
  have y3 : (o3.length : Int) = (o2.length : Int) + 2 := by rw [h3, List.length_append]; (try simp only [List.length_cons, List.length_nil]); omega
  have hF : out ++ codN XS self x pos en = o3 := by
   rw [codN_eq, ← hE, hk, h3, h2, h1]
   simp [hn]
  rw [hF]
  refine FnM.of_awp (T := tt) (ok := tok) Tryz.func77 (by kernel_rfl) rfl (by kernel_rfl) (by kernel_rfl) rfl (fun w0 st0 lent c0 => ?_)
  dsimp only [frOf, hpFrom, List.length_cons, List.length_nil]
  (repeat' (first | refine goA ?_ | refine ARun.nilCheckP rfl rfl (guardF_spec rfl) ?_ | refine cX xt_qdo ?_ | refine cX xt_doo ?_ | refine cX xt_lp ?_ | refine callAsk 1000 1001 c2 rfl rfl rfl rfl rfl askT rfl rfl rfl ?_ | refine callLay 1000 1001 k1 rfl rfl rfl rfl rfl askT rfl rfl rfl ?_ | refine callLay 1000 1001 k2 rfl rfl rfl rfl rfl askT rfl rfl rfl ?_ | refine callLay 1000 1001 k3 rfl rfl rfl rfl rfl askT rfl rfl rfl ?_ | refine goB ?_ | fail))
  (first | exact fin_l rfl rfl rfl rfl rfl | exact awp_ret (fin_l rfl rfl rfl rfl rfl) | (refine awp_skip ?_; exact fin_l rfl rfl rfl rfl rfl) | (refine awp_exit ?_; exact fin_l rfl rfl rfl rfl rfl))
 ·skip
  have e8 : (x.k == 8) = false := beq_eq_false_iff_ne.2 (by omega)
  have e0 : (x.n == 1) = true := beq_iff_eq.2 hn
  have k1 := lay_m at_ self E out [XS.qdo, E] (by omega) (by simp)
  obtain ⟨o1, h1⟩ : ∃ o : List Int, o = out ++ [XS.qdo, E] := ⟨_, rfl⟩
  rw [← h1] at k1
  have y1 : (o1.length : Int) = (out.length : Int) + 2 := by rw [h1, List.length_append]; (try simp only [List.length_cons, List.length_nil]); omega
  have hA : wr (at_ + 8 * (o1.length : Int)) = wr (pos + 16) := by rw [hpos, wr_wr, y1]; congr 1; omega
  have c2 := here_l at_ self E o1 (by omega)
  rw [hA] at c2
  have k2 := ca at_ self E o1 (by omega)
  rw [hA] at k2
  have z2 : ((codL XS self x.a (wr (pos + 16)) E).length : Int) = sizS x.a := codL_len _ _ _ _ _ oka
  obtain ⟨o2, h2⟩ : ∃ o : List Int, o = o1 ++ codL XS self x.a (wr (pos + 16)) E := ⟨_, rfl⟩
  rw [← h2] at k2
  have y2 : (o2.length : Int) = (o1.length : Int) + sizS x.a := by rw [h2, List.length_append]; (try simp only [List.length_cons, List.length_nil]); omega
  have k3 := lay_m at_ self E o2 [XS.lp, wr (pos + 16)] (by omega) (by simp)
  obtain ⟨o3, h3⟩ : ∃ o : List Int, o = o2 ++ [XS.lp, wr (pos + 16)] := ⟨_, rfl⟩
  rw [← h3] at k3
  have y3 : (o3.length : Int) = (o2.length : Int) + 2 := by rw [h3, List.length_append]; (try simp only [List.length_cons, List.length_nil]); omega
  have hF : out ++ codN XS self x pos en = o3 := by
   rw [codN_eq, ← hE, hk, h3, h2, h1]
   simp [hn]
  rw [hF]
  refine FnM.of_awp (T := tt) (ok := tok) Tryz.func77 (by kernel_rfl) rfl (by kernel_rfl) (by kernel_rfl) rfl (fun w0 st0 lent c0 => ?_)
  dsimp only [frOf, hpFrom, List.length_cons, List.length_nil]
  (repeat' (first | refine goA ?_ | refine ARun.nilCheckP rfl rfl (guardF_spec rfl) ?_ | refine cX xt_qdo ?_ | refine cX xt_doo ?_ | refine cX xt_lp ?_ | refine callAsk 1000 1001 c2 rfl rfl rfl rfl rfl askT rfl rfl rfl ?_ | refine callLay 1000 1001 k1 rfl rfl rfl rfl rfl askT rfl rfl rfl ?_ | refine callLay 1000 1001 k2 rfl rfl rfl rfl rfl askT rfl rfl rfl ?_ | refine callLay 1000 1001 k3 rfl rfl rfl rfl rfl askT rfl rfl rfl ?_ | refine goB ?_ | fail))
  (first | exact fin_l rfl rfl rfl rfl rfl | exact awp_ret (fin_l rfl rfl rfl rfl rfl) | (refine awp_skip ?_; exact fin_l rfl rfl rfl rfl rfl) | (refine awp_exit ?_; exact fin_l rfl rfl rfl rfl rfl))
 ·skip
  have e8 : (x.k == 8) = true := beq_iff_eq.2 hk
  have e0 : (x.n == 1) = false := beq_eq_false_iff_ne.2 (by omega)
  have k1 := lay_m at_ self E out [XS.doo] (by omega) (by simp)
  obtain ⟨o1, h1⟩ : ∃ o : List Int, o = out ++ [XS.doo] := ⟨_, rfl⟩
  rw [← h1] at k1
  have y1 : (o1.length : Int) = (out.length : Int) + 1 := by rw [h1, List.length_append]; (try simp only [List.length_cons, List.length_nil]); omega
  have hA : wr (at_ + 8 * (o1.length : Int)) = wr (pos + 8) := by rw [hpos, wr_wr, y1]; congr 1; omega
  have c2 := here_l at_ self E o1 (by omega)
  rw [hA] at c2
  have k2 := ca at_ self E o1 (by omega)
  rw [hA] at k2
  have z2 : ((codL XS self x.a (wr (pos + 8)) E).length : Int) = sizS x.a := codL_len _ _ _ _ _ oka
  obtain ⟨o2, h2⟩ : ∃ o : List Int, o = o1 ++ codL XS self x.a (wr (pos + 8)) E := ⟨_, rfl⟩
  rw [← h2] at k2
  have y2 : (o2.length : Int) = (o1.length : Int) + sizS x.a := by rw [h2, List.length_append]; (try simp only [List.length_cons, List.length_nil]); omega
  have k3 := lay_m at_ self E o2 [XS.plp, wr (pos + 8)] (by omega) (by simp)
  obtain ⟨o3, h3⟩ : ∃ o : List Int, o = o2 ++ [XS.plp, wr (pos + 8)] := ⟨_, rfl⟩
  rw [← h3] at k3
  have y3 : (o3.length : Int) = (o2.length : Int) + 2 := by rw [h3, List.length_append]; (try simp only [List.length_cons, List.length_nil]); omega
  have hF : out ++ codN XS self x pos en = o3 := by
   rw [codN_eq, ← hE, hk, h3, h2, h1]
   simp [hn]
  rw [hF]
  refine FnM.of_awp (T := tt) (ok := tok) Tryz.func77 (by kernel_rfl) rfl (by kernel_rfl) (by kernel_rfl) rfl (fun w0 st0 lent c0 => ?_)
  dsimp only [frOf, hpFrom, List.length_cons, List.length_nil]
  (repeat' (first | refine goA ?_ | refine ARun.nilCheckP rfl rfl (guardF_spec rfl) ?_ | refine cX xt_qdo ?_ | refine cX xt_doo ?_ | refine cX xt_plp ?_ | refine callAsk 1000 1001 c2 rfl rfl rfl rfl rfl askT rfl rfl rfl ?_ | refine callLay 1000 1001 k1 rfl rfl rfl rfl rfl askT rfl rfl rfl ?_ | refine callLay 1000 1001 k2 rfl rfl rfl rfl rfl askT rfl rfl rfl ?_ | refine callLay 1000 1001 k3 rfl rfl rfl rfl rfl askT rfl rfl rfl ?_ | refine goB ?_ | fail))
  (first | exact fin_l rfl rfl rfl rfl rfl | exact awp_ret (fin_l rfl rfl rfl rfl rfl) | (refine awp_skip ?_; exact fin_l rfl rfl rfl rfl rfl) | (refine awp_exit ?_; exact fin_l rfl rfl rfl rfl rfl))
 ·skip
  have e8 : (x.k == 8) = true := beq_iff_eq.2 hk
  have e0 : (x.n == 1) = true := beq_iff_eq.2 hn
  have k1 := lay_m at_ self E out [XS.qdo, E] (by omega) (by simp)
  obtain ⟨o1, h1⟩ : ∃ o : List Int, o = out ++ [XS.qdo, E] := ⟨_, rfl⟩
  rw [← h1] at k1
  have y1 : (o1.length : Int) = (out.length : Int) + 2 := by rw [h1, List.length_append]; (try simp only [List.length_cons, List.length_nil]); omega
  have hA : wr (at_ + 8 * (o1.length : Int)) = wr (pos + 16) := by rw [hpos, wr_wr, y1]; congr 1; omega
  have c2 := here_l at_ self E o1 (by omega)
  rw [hA] at c2
  have k2 := ca at_ self E o1 (by omega)
  rw [hA] at k2
  have z2 : ((codL XS self x.a (wr (pos + 16)) E).length : Int) = sizS x.a := codL_len _ _ _ _ _ oka
  obtain ⟨o2, h2⟩ : ∃ o : List Int, o = o1 ++ codL XS self x.a (wr (pos + 16)) E := ⟨_, rfl⟩
  rw [← h2] at k2
  have y2 : (o2.length : Int) = (o1.length : Int) + sizS x.a := by rw [h2, List.length_append]; (try simp only [List.length_cons, List.length_nil]); omega
  have k3 := lay_m at_ self E o2 [XS.plp, wr (pos + 16)] (by omega) (by simp)
  obtain ⟨o3, h3⟩ : ∃ o : List Int, o = o2 ++ [XS.plp, wr (pos + 16)] := ⟨_, rfl⟩
  rw [← h3] at k3
  have y3 : (o3.length : Int) = (o2.length : Int) + 2 := by rw [h3, List.length_append]; (try simp only [List.length_cons, List.length_nil]); omega
  have hF : out ++ codN XS self x pos en = o3 := by
   rw [codN_eq, ← hE, hk, h3, h2, h1]
   simp [hn]
  rw [hF]
  refine FnM.of_awp (T := tt) (ok := tok) Tryz.func77 (by kernel_rfl) rfl (by kernel_rfl) (by kernel_rfl) rfl (fun w0 st0 lent c0 => ?_)
  dsimp only [frOf, hpFrom, List.length_cons, List.length_nil]
  (repeat' (first | refine goA ?_ | refine ARun.nilCheckP rfl rfl (guardF_spec rfl) ?_ | refine cX xt_qdo ?_ | refine cX xt_doo ?_ | refine cX xt_plp ?_ | refine callAsk 1000 1001 c2 rfl rfl rfl rfl rfl askT rfl rfl rfl ?_ | refine callLay 1000 1001 k1 rfl rfl rfl rfl rfl askT rfl rfl rfl ?_ | refine callLay 1000 1001 k2 rfl rfl rfl rfl rfl askT rfl rfl rfl ?_ | refine callLay 1000 1001 k3 rfl rfl rfl rfl rfl askT rfl rfl rfl ?_ | refine goB ?_ | fail))
  (first | exact fin_l rfl rfl rfl rfl rfl | exact awp_ret (fin_l rfl rfl rfl rfl rfl) | (refine awp_skip ?_; exact fin_l rfl rfl rfl rfl rfl) | (refine awp_exit ?_; exact fin_l rfl rfl rfl rfl rfl))
end Go.Proofs.YtfphgelollhdhaaGreat.Gen
namespace Go.Proofs.YtfphgelollhdhaaGreat.Gen
open Go Go.RowKit
set_option maxRecDepth 100000
attribute [local irreducible] Decidable.decide awp ARun regK toK XS
set_option maxHeartbeats 8000000 in
theorem part_1 (x : Nod) (ok : okD x = true) (hk : x.k = 1) (ca : RowC x.a) (cb : RowC x.b) : PartC x := by
 intro at_ self en out hs
 have ksz := siz_c x.a (okD_ab ok).1 (by have := cnt_ab x; omega)
 have kone := one_c x ok (by omega) (siz_c x.a (okD_ab ok).1 (by have := cnt_ab x; omega)) (siz_c x.b (okD_ab ok).2 (by have := cnt_ab x; omega))
 unfold SizC at ksz
 have ct := fun h => turn_m x ok h ca cb at_ self en out hs
 have cl := fun h h' => loop_m x ok h h' ca at_ self en out hs
 have kb := behind_l at_ self en (oneS x) out (by omega) (by have := oneS_bound x; omega)
 have kb2 := behind_l at_ self en (4 + sizS x.a) out (by omega) (by have := sizS_bound x.a; have := cnt_ab x; omega)
 have b1 := sizS_bound x.a
 have b2 := sizS_bound x.b
 have b3 := cnt_ab x
 have b4 := oneS_bound x
 have oka := (okD_ab ok).1
 have okb := (okD_ab ok).2
 obtain ⟨pos, hpos⟩ : ∃ p, p = wr (at_ + 8 * (out.length : Int)) := ⟨_, rfl⟩
 have c1 := here_l at_ self en out (by omega)
 rw [← hpos] at c1 kb kb2 ct cl ⊢
 obtain ⟨E, hE⟩ : ∃ p, p = wr (pos + 8 * oneS x) := ⟨_, rfl⟩
 rw [← hE] at kb ct cl
 have e1 : (x.k == 1) = true := beq_iff_eq.2 hk
 have e2 : (x.k == 2) = false := beq_eq_false_iff_ne.2 (by omega)
 have e11 : (x.k == 11) = false := beq_eq_false_iff_ne.2 (by omega)
 have e10 : (x.k == 10) = false := beq_eq_false_iff_ne.2 (by omega)
 have e9 : (x.k == 9) = false := beq_eq_false_iff_ne.2 (by omega)
 have e3 : (x.k == 3) = false := beq_eq_false_iff_ne.2 (by omega)
 have e7 : (x.k == 7) = false := beq_eq_false_iff_ne.2 (by omega)
 have e8 : (x.k == 8) = false := beq_eq_false_iff_ne.2 (by omega)
 have k1 := lay_m at_ self en out [XS.lit] (by omega) (by simp)
 obtain ⟨o1, h1⟩ : ∃ o : List Int, o = out ++ [XS.lit] := ⟨_, rfl⟩
 rw [← h1] at k1
 have y1 : (o1.length : Int) = (out.length : Int) + 1 := by rw [h1, List.length_append]; (try simp only [List.length_cons, List.length_nil]); omega
 have k2 := lay_m at_ self en o1 [x.n] (by omega) (by simp)
 obtain ⟨o2, h2⟩ : ∃ o : List Int, o = o1 ++ [x.n] := ⟨_, rfl⟩
 rw [← h2] at k2
 have y2 : (o2.length : Int) = (o1.length : Int) + 1 := by rw [h2, List.length_append]; (try simp only [List.length_cons, List.length_nil]); omega
 have hF : out ++ codN XS self x pos en = o2 := by
  rw [codN_eq, ← hE, hk, h2, h1]
  simp []
 rw [hF]
 refine FnM.of_awp (T := tt) (ok := tok) Tryz.func48 (by kernel_rfl) rfl (by kernel_rfl) (by kernel_rfl) rfl (fun w0 st0 lent c0 => ?_)
 dsimp only [frOf, hpFrom, List.length_cons, List.length_nil]
 (repeat' (first | refine goA ?_ | refine ARun.nilCheckP rfl rfl (guardF_spec rfl) ?_ | refine cX kone ?_ | refine callAsk 1000 1001 kb rfl rfl rfl rfl rfl askT rfl rfl rfl ?_ | refine cX xt_lit ?_ | refine callLay 1000 1001 k1 rfl rfl rfl rfl rfl askT rfl rfl rfl ?_ | refine callLay 1000 1001 k2 rfl rfl rfl rfl rfl askT rfl rfl rfl ?_ | refine goB ?_ | fail))
 (first | exact fin_l rfl rfl rfl rfl rfl | exact awp_ret (fin_l rfl rfl rfl rfl rfl) | (refine awp_skip ?_; exact fin_l rfl rfl rfl rfl rfl) | (refine awp_exit ?_; exact fin_l rfl rfl rfl rfl rfl))
set_option maxHeartbeats 8000000 in
theorem part_2 (x : Nod) (ok : okD x = true) (hk : x.k = 2) (ca : RowC x.a) (cb : RowC x.b) : PartC x := by
 intro at_ self en out hs
 have ksz := siz_c x.a (okD_ab ok).1 (by have := cnt_ab x; omega)
 have kone := one_c x ok (by omega) (siz_c x.a (okD_ab ok).1 (by have := cnt_ab x; omega)) (siz_c x.b (okD_ab ok).2 (by have := cnt_ab x; omega))
 unfold SizC at ksz
 have ct := fun h => turn_m x ok h ca cb at_ self en out hs
 have cl := fun h h' => loop_m x ok h h' ca at_ self en out hs
 have kb := behind_l at_ self en (oneS x) out (by omega) (by have := oneS_bound x; omega)
 have kb2 := behind_l at_ self en (4 + sizS x.a) out (by omega) (by have := sizS_bound x.a; have := cnt_ab x; omega)
 have b1 := sizS_bound x.a
 have b2 := sizS_bound x.b
 have b3 := cnt_ab x
 have b4 := oneS_bound x
 have oka := (okD_ab ok).1
 have okb := (okD_ab ok).2
 obtain ⟨pos, hpos⟩ : ∃ p, p = wr (at_ + 8 * (out.length : Int)) := ⟨_, rfl⟩
 have c1 := here_l at_ self en out (by omega)
 rw [← hpos] at c1 kb kb2 ct cl ⊢
 obtain ⟨E, hE⟩ : ∃ p, p = wr (pos + 8 * oneS x) := ⟨_, rfl⟩
 rw [← hE] at kb ct cl
 have e1 : (x.k == 1) = false := beq_eq_false_iff_ne.2 (by omega)
 have e2 : (x.k == 2) = true := beq_iff_eq.2 hk
 have e11 : (x.k == 11) = false := beq_eq_false_iff_ne.2 (by omega)
 have e10 : (x.k == 10) = false := beq_eq_false_iff_ne.2 (by omega)
 have e9 : (x.k == 9) = false := beq_eq_false_iff_ne.2 (by omega)
 have e3 : (x.k == 3) = false := beq_eq_false_iff_ne.2 (by omega)
 have e7 : (x.k == 7) = false := beq_eq_false_iff_ne.2 (by omega)
 have e8 : (x.k == 8) = false := beq_eq_false_iff_ne.2 (by omega)
 have k1 := lay_m at_ self en out [x.n] (by omega) (by simp)
 obtain ⟨o1, h1⟩ : ∃ o : List Int, o = out ++ [x.n] := ⟨_, rfl⟩
 rw [← h1] at k1
 have y1 : (o1.length : Int) = (out.length : Int) + 1 := by rw [h1, List.length_append]; (try simp only [List.length_cons, List.length_nil]); omega
 have hF : out ++ codN XS self x pos en = o1 := by
  rw [codN_eq, ← hE, hk, h1]
  simp []
 rw [hF]
 refine FnM.of_awp (T := tt) (ok := tok) Tryz.func48 (by kernel_rfl) rfl (by kernel_rfl) (by kernel_rfl) rfl (fun w0 st0 lent c0 => ?_)
 dsimp only [frOf, hpFrom, List.length_cons, List.length_nil]
 (repeat' (first | refine goA ?_ | refine ARun.nilCheckP rfl rfl (guardF_spec rfl) ?_ | refine cX kone ?_ | refine callAsk 1000 1001 kb rfl rfl rfl rfl rfl askT rfl rfl rfl ?_ | refine callLay 1000 1001 k1 rfl rfl rfl rfl rfl askT rfl rfl rfl ?_ | refine goB ?_ | fail))
 (first | exact fin_l rfl rfl rfl rfl rfl | exact awp_ret (fin_l rfl rfl rfl rfl rfl) | (refine awp_skip ?_; exact fin_l rfl rfl rfl rfl rfl) | (refine awp_exit ?_; exact fin_l rfl rfl rfl rfl rfl))
set_option maxHeartbeats 8000000 in
theorem part_9 (x : Nod) (ok : okD x = true) (hk : x.k = 9) (ca : RowC x.a) (cb : RowC x.b) : PartC x := by
 intro at_ self en out hs
 have ksz := siz_c x.a (okD_ab ok).1 (by have := cnt_ab x; omega)
 have kone := one_c x ok (by omega) (siz_c x.a (okD_ab ok).1 (by have := cnt_ab x; omega)) (siz_c x.b (okD_ab ok).2 (by have := cnt_ab x; omega))
 unfold SizC at ksz
 have ct := fun h => turn_m x ok h ca cb at_ self en out hs
 have cl := fun h h' => loop_m x ok h h' ca at_ self en out hs
 have kb := behind_l at_ self en (oneS x) out (by omega) (by have := oneS_bound x; omega)
 have kb2 := behind_l at_ self en (4 + sizS x.a) out (by omega) (by have := sizS_bound x.a; have := cnt_ab x; omega)
 have b1 := sizS_bound x.a
 have b2 := sizS_bound x.b
 have b3 := cnt_ab x
 have b4 := oneS_bound x
 have oka := (okD_ab ok).1
 have okb := (okD_ab ok).2
 obtain ⟨pos, hpos⟩ : ∃ p, p = wr (at_ + 8 * (out.length : Int)) := ⟨_, rfl⟩
 have c1 := here_l at_ self en out (by omega)
 rw [← hpos] at c1 kb kb2 ct cl ⊢
 obtain ⟨E, hE⟩ : ∃ p, p = wr (pos + 8 * oneS x) := ⟨_, rfl⟩
 rw [← hE] at kb ct cl
 have e1 : (x.k == 1) = false := beq_eq_false_iff_ne.2 (by omega)
 have e2 : (x.k == 2) = false := beq_eq_false_iff_ne.2 (by omega)
 have e11 : (x.k == 11) = false := beq_eq_false_iff_ne.2 (by omega)
 have e10 : (x.k == 10) = false := beq_eq_false_iff_ne.2 (by omega)
 have e9 : (x.k == 9) = true := beq_iff_eq.2 hk
 have e3 : (x.k == 3) = false := beq_eq_false_iff_ne.2 (by omega)
 have e7 : (x.k == 7) = false := beq_eq_false_iff_ne.2 (by omega)
 have e8 : (x.k == 8) = false := beq_eq_false_iff_ne.2 (by omega)
 have k1 := lay_m at_ self en out [XS.unl, XS.br, en] (by omega) (by simp)
 obtain ⟨o1, h1⟩ : ∃ o : List Int, o = out ++ [XS.unl, XS.br, en] := ⟨_, rfl⟩
 rw [← h1] at k1
 have y1 : (o1.length : Int) = (out.length : Int) + 3 := by rw [h1, List.length_append]; (try simp only [List.length_cons, List.length_nil]); omega
 have hF : out ++ codN XS self x pos en = o1 := by
  rw [codN_eq, ← hE, hk, h1]
  simp []
 rw [hF]
 refine FnM.of_awp (T := tt) (ok := tok) Tryz.func48 (by kernel_rfl) rfl (by kernel_rfl) (by kernel_rfl) rfl (fun w0 st0 lent c0 => ?_)
 dsimp only [frOf, hpFrom, List.length_cons, List.length_nil]
 (repeat' (first | refine goA ?_ | refine ARun.nilCheckP rfl rfl (guardF_spec rfl) ?_ | refine cX kone ?_ | refine callAsk 1000 1001 kb rfl rfl rfl rfl rfl askT rfl rfl rfl ?_ | refine cX xt_unl ?_ | refine cX xt_br ?_ | refine callLay 1000 1001 k1 rfl rfl rfl rfl rfl askT rfl rfl rfl ?_ | refine goB ?_ | fail))
 (first | exact fin_l rfl rfl rfl rfl rfl | exact awp_ret (fin_l rfl rfl rfl rfl rfl) | (refine awp_skip ?_; exact fin_l rfl rfl rfl rfl rfl) | (refine awp_exit ?_; exact fin_l rfl rfl rfl rfl rfl))
set_option maxHeartbeats 8000000 in
theorem part_10 (x : Nod) (ok : okD x = true) (hk : x.k = 10) (ca : RowC x.a) (cb : RowC x.b) : PartC x := by
 intro at_ self en out hs
 have ksz := siz_c x.a (okD_ab ok).1 (by have := cnt_ab x; omega)
 have kone := one_c x ok (by omega) (siz_c x.a (okD_ab ok).1 (by have := cnt_ab x; omega)) (siz_c x.b (okD_ab ok).2 (by have := cnt_ab x; omega))
 unfold SizC at ksz
 have ct := fun h => turn_m x ok h ca cb at_ self en out hs
 have cl := fun h h' => loop_m x ok h h' ca at_ self en out hs
 have kb := behind_l at_ self en (oneS x) out (by omega) (by have := oneS_bound x; omega)
 have kb2 := behind_l at_ self en (4 + sizS x.a) out (by omega) (by have := sizS_bound x.a; have := cnt_ab x; omega)
 have b1 := sizS_bound x.a
 have b2 := sizS_bound x.b
 have b3 := cnt_ab x
 have b4 := oneS_bound x
 have oka := (okD_ab ok).1
 have okb := (okD_ab ok).2
 obtain ⟨pos, hpos⟩ : ∃ p, p = wr (at_ + 8 * (out.length : Int)) := ⟨_, rfl⟩
 have c1 := here_l at_ self en out (by omega)
 rw [← hpos] at c1 kb kb2 ct cl ⊢
 obtain ⟨E, hE⟩ : ∃ p, p = wr (pos + 8 * oneS x) := ⟨_, rfl⟩
 rw [← hE] at kb ct cl
 have e1 : (x.k == 1) = false := beq_eq_false_iff_ne.2 (by omega)
 have e2 : (x.k == 2) = false := beq_eq_false_iff_ne.2 (by omega)
 have e11 : (x.k == 11) = false := beq_eq_false_iff_ne.2 (by omega)
 have e10 : (x.k == 10) = true := beq_iff_eq.2 hk
 have e9 : (x.k == 9) = false := beq_eq_false_iff_ne.2 (by omega)
 have e3 : (x.k == 3) = false := beq_eq_false_iff_ne.2 (by omega)
 have e7 : (x.k == 7) = false := beq_eq_false_iff_ne.2 (by omega)
 have e8 : (x.k == 8) = false := beq_eq_false_iff_ne.2 (by omega)
 have k1 := lay_m at_ self en out [XS.ex] (by omega) (by simp)
 obtain ⟨o1, h1⟩ : ∃ o : List Int, o = out ++ [XS.ex] := ⟨_, rfl⟩
 rw [← h1] at k1
 have y1 : (o1.length : Int) = (out.length : Int) + 1 := by rw [h1, List.length_append]; (try simp only [List.length_cons, List.length_nil]); omega
 have hF : out ++ codN XS self x pos en = o1 := by
  rw [codN_eq, ← hE, hk, h1]
  simp []
 rw [hF]
 refine FnM.of_awp (T := tt) (ok := tok) Tryz.func48 (by kernel_rfl) rfl (by kernel_rfl) (by kernel_rfl) rfl (fun w0 st0 lent c0 => ?_)
 dsimp only [frOf, hpFrom, List.length_cons, List.length_nil]
 (repeat' (first | refine goA ?_ | refine ARun.nilCheckP rfl rfl (guardF_spec rfl) ?_ | refine cX kone ?_ | refine callAsk 1000 1001 kb rfl rfl rfl rfl rfl askT rfl rfl rfl ?_ | refine cX xt_ex ?_ | refine callLay 1000 1001 k1 rfl rfl rfl rfl rfl askT rfl rfl rfl ?_ | refine goB ?_ | fail))
 (first | exact fin_l rfl rfl rfl rfl rfl | exact awp_ret (fin_l rfl rfl rfl rfl rfl) | (refine awp_skip ?_; exact fin_l rfl rfl rfl rfl rfl) | (refine awp_exit ?_; exact fin_l rfl rfl rfl rfl rfl))
set_option maxHeartbeats 8000000 in
theorem part_11 (x : Nod) (ok : okD x = true) (hk : x.k = 11) (ca : RowC x.a) (cb : RowC x.b) : PartC x := by
 intro at_ self en out hs
 have ksz := siz_c x.a (okD_ab ok).1 (by have := cnt_ab x; omega)
 have kone := one_c x ok (by omega) (siz_c x.a (okD_ab ok).1 (by have := cnt_ab x; omega)) (siz_c x.b (okD_ab ok).2 (by have := cnt_ab x; omega))
 unfold SizC at ksz
 have ct := fun h => turn_m x ok h ca cb at_ self en out hs
 have cl := fun h h' => loop_m x ok h h' ca at_ self en out hs
 have kb := behind_l at_ self en (oneS x) out (by omega) (by have := oneS_bound x; omega)
 have kb2 := behind_l at_ self en (4 + sizS x.a) out (by omega) (by have := sizS_bound x.a; have := cnt_ab x; omega)
 have b1 := sizS_bound x.a
 have b2 := sizS_bound x.b
 have b3 := cnt_ab x
 have b4 := oneS_bound x
 have oka := (okD_ab ok).1
 have okb := (okD_ab ok).2
 obtain ⟨pos, hpos⟩ : ∃ p, p = wr (at_ + 8 * (out.length : Int)) := ⟨_, rfl⟩
 have c1 := here_l at_ self en out (by omega)
 rw [← hpos] at c1 kb kb2 ct cl ⊢
 obtain ⟨E, hE⟩ : ∃ p, p = wr (pos + 8 * oneS x) := ⟨_, rfl⟩
 rw [← hE] at kb ct cl
 have e1 : (x.k == 1) = false := beq_eq_false_iff_ne.2 (by omega)
 have e2 : (x.k == 2) = false := beq_eq_false_iff_ne.2 (by omega)
 have e11 : (x.k == 11) = true := beq_iff_eq.2 hk
 have e10 : (x.k == 10) = false := beq_eq_false_iff_ne.2 (by omega)
 have e9 : (x.k == 9) = false := beq_eq_false_iff_ne.2 (by omega)
 have e3 : (x.k == 3) = false := beq_eq_false_iff_ne.2 (by omega)
 have e7 : (x.k == 7) = false := beq_eq_false_iff_ne.2 (by omega)
 have e8 : (x.k == 8) = false := beq_eq_false_iff_ne.2 (by omega)
 have k1 := lay_m at_ self en out [self] (by omega) (by simp)
 obtain ⟨o1, h1⟩ : ∃ o : List Int, o = out ++ [self] := ⟨_, rfl⟩
 rw [← h1] at k1
 have y1 : (o1.length : Int) = (out.length : Int) + 1 := by rw [h1, List.length_append]; (try simp only [List.length_cons, List.length_nil]); omega
 have hF : out ++ codN XS self x pos en = o1 := by
  rw [codN_eq, ← hE, hk, h1]
  simp []
 rw [hF]
 refine FnM.of_awp (T := tt) (ok := tok) Tryz.func48 (by kernel_rfl) rfl (by kernel_rfl) (by kernel_rfl) rfl (fun w0 st0 lent c0 => ?_)
 dsimp only [frOf, hpFrom, List.length_cons, List.length_nil]
 (repeat' (first | refine goA ?_ | refine ARun.nilCheckP rfl rfl (guardF_spec rfl) ?_ | refine cX kone ?_ | refine callAsk 1000 1001 kb rfl rfl rfl rfl rfl askT rfl rfl rfl ?_ | refine callLay 1000 1001 k1 rfl rfl rfl rfl rfl askT rfl rfl rfl ?_ | refine goB ?_ | fail))
 (first | exact fin_l rfl rfl rfl rfl rfl | exact awp_ret (fin_l rfl rfl rfl rfl rfl) | (refine awp_skip ?_; exact fin_l rfl rfl rfl rfl rfl) | (refine awp_exit ?_; exact fin_l rfl rfl rfl rfl rfl))
set_option maxHeartbeats 8000000 in
theorem part_31 (x : Nod) (ok : okD x = true) (hk : x.k = 3) (hn : x.n = 1) (ca : RowC x.a) (cb : RowC x.b) : PartC x := by
 intro at_ self en out hs
 have ksz := siz_c x.a (okD_ab ok).1 (by have := cnt_ab x; omega)
 have kone := one_c x ok (by omega) (siz_c x.a (okD_ab ok).1 (by have := cnt_ab x; omega)) (siz_c x.b (okD_ab ok).2 (by have := cnt_ab x; omega))
 unfold SizC at ksz
 have ct := fun h => turn_m x ok h ca cb at_ self en out hs
 have cl := fun h h' => loop_m x ok h h' ca at_ self en out hs
 have kb := behind_l at_ self en (oneS x) out (by omega) (by have := oneS_bound x; omega)
 have kb2 := behind_l at_ self en (4 + sizS x.a) out (by omega) (by have := sizS_bound x.a; have := cnt_ab x; omega)
 have b1 := sizS_bound x.a
 have b2 := sizS_bound x.b
 have b3 := cnt_ab x
 have b4 := oneS_bound x
 have oka := (okD_ab ok).1
 have okb := (okD_ab ok).2
 obtain ⟨pos, hpos⟩ : ∃ p, p = wr (at_ + 8 * (out.length : Int)) := ⟨_, rfl⟩
 have c1 := here_l at_ self en out (by omega)
 rw [← hpos] at c1 kb kb2 ct cl ⊢
 obtain ⟨E, hE⟩ : ∃ p, p = wr (pos + 8 * oneS x) := ⟨_, rfl⟩
 rw [← hE] at kb ct cl
 have e1 : (x.k == 1) = false := beq_eq_false_iff_ne.2 (by omega)
 have e2 : (x.k == 2) = false := beq_eq_false_iff_ne.2 (by omega)
 have e11 : (x.k == 11) = false := beq_eq_false_iff_ne.2 (by omega)
 have e10 : (x.k == 10) = false := beq_eq_false_iff_ne.2 (by omega)
 have e9 : (x.k == 9) = false := beq_eq_false_iff_ne.2 (by omega)
 have e3 : (x.k == 3) = true := beq_iff_eq.2 hk
 have e7 : (x.k == 7) = false := beq_eq_false_iff_ne.2 (by omega)
 have e8 : (x.k == 8) = false := beq_eq_false_iff_ne.2 (by omega)
 have e0 : (x.n == 0) = false := beq_eq_false_iff_ne.2 (by omega)
 obtain ⟨S, hS⟩ : ∃ p, p = wr (pos + 8 * (4 + sizS x.a)) := ⟨_, rfl⟩
 rw [← hS] at kb2
 have k1 := lay_m at_ self en out [XS.zb, S] (by omega) (by simp)
 obtain ⟨o1, h1⟩ : ∃ o : List Int, o = out ++ [XS.zb, S] := ⟨_, rfl⟩
 rw [← h1] at k1
 have y1 : (o1.length : Int) = (out.length : Int) + 2 := by rw [h1, List.length_append]; (try simp only [List.length_cons, List.length_nil]); omega
 have hA : wr (at_ + 8 * (o1.length : Int)) = wr (pos + 16) := by rw [hpos, wr_wr, y1]; congr 1; omega
 have k2 := ca at_ self en o1 (by omega)
 rw [hA] at k2
 have z2 : ((codL XS self x.a (wr (pos + 16)) en).length : Int) = sizS x.a := codL_len _ _ _ _ _ oka
 obtain ⟨o2, h2⟩ : ∃ o : List Int, o = o1 ++ codL XS self x.a (wr (pos + 16)) en := ⟨_, rfl⟩
 rw [← h2] at k2
 have y2 : (o2.length : Int) = (o1.length : Int) + sizS x.a := by rw [h2, List.length_append]; (try simp only [List.length_cons, List.length_nil]); omega
 have k3 := lay_m at_ self en o2 [XS.br, E] (by omega) (by simp)
 obtain ⟨o3, h3⟩ : ∃ o : List Int, o = o2 ++ [XS.br, E] := ⟨_, rfl⟩
 rw [← h3] at k3
 have y3 : (o3.length : Int) = (o2.length : Int) + 2 := by rw [h3, List.length_append]; (try simp only [List.length_cons, List.length_nil]); omega
 have hB : wr (at_ + 8 * (o3.length : Int)) = S := by rw [hS, hpos, wr_wr, y3, y2, y1]; congr 1; omega
 have k4 := cb at_ self en o3 (by omega)
 rw [hB] at k4
 have z4 : ((codL XS self x.b S en).length : Int) = sizS x.b := codL_len _ _ _ _ _ okb
 obtain ⟨o4, h4⟩ : ∃ o : List Int, o = o3 ++ codL XS self x.b S en := ⟨_, rfl⟩
 rw [← h4] at k4
 have y4 : (o4.length : Int) = (o3.length : Int) + sizS x.b := by rw [h4, List.length_append]; (try simp only [List.length_cons, List.length_nil]); omega
 have hF : out ++ codN XS self x pos en = o4 := by
  rw [codN_eq, ← hE, hk, h4, h3, h2, h1]
  simp [hn, ← hS]
 rw [hF]
 refine FnM.of_awp (T := tt) (ok := tok) Tryz.func48 (by kernel_rfl) rfl (by kernel_rfl) (by kernel_rfl) rfl (fun w0 st0 lent c0 => ?_)
 dsimp only [frOf, hpFrom, List.length_cons, List.length_nil]
 (repeat' (first | refine goA ?_ | refine ARun.nilCheckP rfl rfl (guardF_spec rfl) ?_ | refine cX kone ?_ | refine callAsk 1000 1001 kb rfl rfl rfl rfl rfl askT rfl rfl rfl ?_ | refine cX ksz ?_ | refine cX xt_zb ?_ | refine cX xt_br ?_ | refine callAsk 1000 1001 kb2 rfl rfl rfl rfl rfl askT rfl rfl rfl ?_ | refine callLay 1000 1001 k1 rfl rfl rfl rfl rfl askT rfl rfl rfl ?_ | refine callLay 1000 1001 k2 rfl rfl rfl rfl rfl askT rfl rfl rfl ?_ | refine callLay 1000 1001 k3 rfl rfl rfl rfl rfl askT rfl rfl rfl ?_ | refine callLay 1000 1001 k4 rfl rfl rfl rfl rfl askT rfl rfl rfl ?_ | refine goB ?_ | fail))
 (first | exact fin_l rfl rfl rfl rfl rfl | exact awp_ret (fin_l rfl rfl rfl rfl rfl) | (refine awp_skip ?_; exact fin_l rfl rfl rfl rfl rfl) | (refine awp_exit ?_; exact fin_l rfl rfl rfl rfl rfl))
set_option maxHeartbeats 8000000 in
theorem part_30 (x : Nod) (ok : okD x = true) (hk : x.k = 3) (hn : x.n = 0) (ca : RowC x.a) (cb : RowC x.b) : PartC x := by
 intro at_ self en out hs
 have ksz := siz_c x.a (okD_ab ok).1 (by have := cnt_ab x; omega)
 have kone := one_c x ok (by omega) (siz_c x.a (okD_ab ok).1 (by have := cnt_ab x; omega)) (siz_c x.b (okD_ab ok).2 (by have := cnt_ab x; omega))
 unfold SizC at ksz
 have ct := fun h => turn_m x ok h ca cb at_ self en out hs
 have cl := fun h h' => loop_m x ok h h' ca at_ self en out hs
 have kb := behind_l at_ self en (oneS x) out (by omega) (by have := oneS_bound x; omega)
 have kb2 := behind_l at_ self en (4 + sizS x.a) out (by omega) (by have := sizS_bound x.a; have := cnt_ab x; omega)
 have b1 := sizS_bound x.a
 have b2 := sizS_bound x.b
 have b3 := cnt_ab x
 have b4 := oneS_bound x
 have oka := (okD_ab ok).1
 have okb := (okD_ab ok).2
 obtain ⟨pos, hpos⟩ : ∃ p, p = wr (at_ + 8 * (out.length : Int)) := ⟨_, rfl⟩
 have c1 := here_l at_ self en out (by omega)
 rw [← hpos] at c1 kb kb2 ct cl ⊢
 obtain ⟨E, hE⟩ : ∃ p, p = wr (pos + 8 * oneS x) := ⟨_, rfl⟩
 rw [← hE] at kb ct cl
 have e1 : (x.k == 1) = false := beq_eq_false_iff_ne.2 (by omega)
 have e2 : (x.k == 2) = false := beq_eq_false_iff_ne.2 (by omega)
 have e11 : (x.k == 11) = false := beq_eq_false_iff_ne.2 (by omega)
 have e10 : (x.k == 10) = false := beq_eq_false_iff_ne.2 (by omega)
 have e9 : (x.k == 9) = false := beq_eq_false_iff_ne.2 (by omega)
 have e3 : (x.k == 3) = true := beq_iff_eq.2 hk
 have e7 : (x.k == 7) = false := beq_eq_false_iff_ne.2 (by omega)
 have e8 : (x.k == 8) = false := beq_eq_false_iff_ne.2 (by omega)
 have e0 : (x.n == 0) = true := beq_iff_eq.2 hn
 have k1 := lay_m at_ self en out [XS.zb, E] (by omega) (by simp)
 obtain ⟨o1, h1⟩ : ∃ o : List Int, o = out ++ [XS.zb, E] := ⟨_, rfl⟩
 rw [← h1] at k1
 have y1 : (o1.length : Int) = (out.length : Int) + 2 := by rw [h1, List.length_append]; (try simp only [List.length_cons, List.length_nil]); omega
 have hA : wr (at_ + 8 * (o1.length : Int)) = wr (pos + 16) := by rw [hpos, wr_wr, y1]; congr 1; omega
 have k2 := ca at_ self en o1 (by omega)
 rw [hA] at k2
 have z2 : ((codL XS self x.a (wr (pos + 16)) en).length : Int) = sizS x.a := codL_len _ _ _ _ _ oka
 obtain ⟨o2, h2⟩ : ∃ o : List Int, o = o1 ++ codL XS self x.a (wr (pos + 16)) en := ⟨_, rfl⟩
 rw [← h2] at k2
 have y2 : (o2.length : Int) = (o1.length : Int) + sizS x.a := by rw [h2, List.length_append]; (try simp only [List.length_cons, List.length_nil]); omega
 have hF : out ++ codN XS self x pos en = o2 := by
  rw [codN_eq, ← hE, hk, h2, h1]
  simp [hn]
 rw [hF]
 refine FnM.of_awp (T := tt) (ok := tok) Tryz.func48 (by kernel_rfl) rfl (by kernel_rfl) (by kernel_rfl) rfl (fun w0 st0 lent c0 => ?_)
 dsimp only [frOf, hpFrom, List.length_cons, List.length_nil]
 (repeat' (first | refine goA ?_ | refine ARun.nilCheckP rfl rfl (guardF_spec rfl) ?_ | refine cX kone ?_ | refine callAsk 1000 1001 kb rfl rfl rfl rfl rfl askT rfl rfl rfl ?_ | refine cX ksz ?_ | refine cX xt_zb ?_ | refine cX xt_br ?_ | refine callLay 1000 1001 k1 rfl rfl rfl rfl rfl askT rfl rfl rfl ?_ | refine callLay 1000 1001 k2 rfl rfl rfl rfl rfl askT rfl rfl rfl ?_ | refine goB ?_ | fail))
 (first | exact fin_l rfl rfl rfl rfl rfl | exact awp_ret (fin_l rfl rfl rfl rfl rfl) | (refine awp_skip ?_; exact fin_l rfl rfl rfl rfl rfl) | (refine awp_exit ?_; exact fin_l rfl rfl rfl rfl rfl))
set_option maxHeartbeats 8000000 in
theorem part_4 (x : Nod) (ok : okD x = true) (hk : x.k = 4) (ca : RowC x.a) (cb : RowC x.b) : PartC x := by
 intro at_ self en out hs
 have ksz := siz_c x.a (okD_ab ok).1 (by have := cnt_ab x; omega)
 have kone := one_c x ok (by omega) (siz_c x.a (okD_ab ok).1 (by have := cnt_ab x; omega)) (siz_c x.b (okD_ab ok).2 (by have := cnt_ab x; omega))
 unfold SizC at ksz
 have ct := fun h => turn_m x ok h ca cb at_ self en out hs
 have cl := fun h h' => loop_m x ok h h' ca at_ self en out hs
 have kb := behind_l at_ self en (oneS x) out (by omega) (by have := oneS_bound x; omega)
 have kb2 := behind_l at_ self en (4 + sizS x.a) out (by omega) (by have := sizS_bound x.a; have := cnt_ab x; omega)
 have b1 := sizS_bound x.a
 have b2 := sizS_bound x.b
 have b3 := cnt_ab x
 have b4 := oneS_bound x
 have oka := (okD_ab ok).1
 have okb := (okD_ab ok).2
 obtain ⟨pos, hpos⟩ : ∃ p, p = wr (at_ + 8 * (out.length : Int)) := ⟨_, rfl⟩
 have c1 := here_l at_ self en out (by omega)
 rw [← hpos] at c1 kb kb2 ct cl ⊢
 obtain ⟨E, hE⟩ : ∃ p, p = wr (pos + 8 * oneS x) := ⟨_, rfl⟩
 rw [← hE] at kb ct cl
 have e1 : (x.k == 1) = false := beq_eq_false_iff_ne.2 (by omega)
 have e2 : (x.k == 2) = false := beq_eq_false_iff_ne.2 (by omega)
 have e11 : (x.k == 11) = false := beq_eq_false_iff_ne.2 (by omega)
 have e10 : (x.k == 10) = false := beq_eq_false_iff_ne.2 (by omega)
 have e9 : (x.k == 9) = false := beq_eq_false_iff_ne.2 (by omega)
 have e3 : (x.k == 3) = false := beq_eq_false_iff_ne.2 (by omega)
 have e7 : (x.k == 7) = false := beq_eq_false_iff_ne.2 (by omega)
 have e8 : (x.k == 8) = false := beq_eq_false_iff_ne.2 (by omega)
 have k1 := ct (by omega)
 refine FnM.of_awp (T := tt) (ok := tok) Tryz.func48 (by kernel_rfl) rfl (by kernel_rfl) (by kernel_rfl) rfl (fun w0 st0 lent c0 => ?_)
 dsimp only [frOf, hpFrom, List.length_cons, List.length_nil]
 generalize out ++ codN XS self x pos en = o1 at *
 (repeat' (first | refine goA ?_ | refine ARun.nilCheckP rfl rfl (guardF_spec rfl) ?_ | refine cX kone ?_ | refine callAsk 1000 1001 kb rfl rfl rfl rfl rfl askT rfl rfl rfl ?_ | refine callLay 1000 1001 k1 rfl rfl rfl rfl rfl askT rfl rfl rfl ?_ | refine goB ?_ | fail))
 (first | exact fin_l rfl rfl rfl rfl rfl | exact awp_ret (fin_l rfl rfl rfl rfl rfl) | (refine awp_skip ?_; exact fin_l rfl rfl rfl rfl rfl) | (refine awp_exit ?_; exact fin_l rfl rfl rfl rfl rfl))
set_option maxHeartbeats 8000000 in
theorem part_5 (x : Nod) (ok : okD x = true) (hk : x.k = 5) (ca : RowC x.a) (cb : RowC x.b) : PartC x := by
 intro at_ self en out hs
 have ksz := siz_c x.a (okD_ab ok).1 (by have := cnt_ab x; omega)
 have kone := one_c x ok (by omega) (siz_c x.a (okD_ab ok).1 (by have := cnt_ab x; omega)) (siz_c x.b (okD_ab ok).2 (by have := cnt_ab x; omega))
 unfold SizC at ksz
 have ct := fun h => turn_m x ok h ca cb at_ self en out hs
 have cl := fun h h' => loop_m x ok h h' ca at_ self en out hs
 have kb := behind_l at_ self en (oneS x) out (by omega) (by have := oneS_bound x; omega)
 have kb2 := behind_l at_ self en (4 + sizS x.a) out (by omega) (by have := sizS_bound x.a; have := cnt_ab x; omega)
 have b1 := sizS_bound x.a
 have b2 := sizS_bound x.b
 have b3 := cnt_ab x
 have b4 := oneS_bound x
 have oka := (okD_ab ok).1
 have okb := (okD_ab ok).2
 obtain ⟨pos, hpos⟩ : ∃ p, p = wr (at_ + 8 * (out.length : Int)) := ⟨_, rfl⟩
 have c1 := here_l at_ self en out (by omega)
 rw [← hpos] at c1 kb kb2 ct cl ⊢
 obtain ⟨E, hE⟩ : ∃ p, p = wr (pos + 8 * oneS x) := ⟨_, rfl⟩
 rw [← hE] at kb ct cl
 have e1 : (x.k == 1) = false := beq_eq_false_iff_ne.2 (by omega)
 have e2 : (x.k == 2) = false := beq_eq_false_iff_ne.2 (by omega)
 have e11 : (x.k == 11) = false := beq_eq_false_iff_ne.2 (by omega)
 have e10 : (x.k == 10) = false := beq_eq_false_iff_ne.2 (by omega)
 have e9 : (x.k == 9) = false := beq_eq_false_iff_ne.2 (by omega)
 have e3 : (x.k == 3) = false := beq_eq_false_iff_ne.2 (by omega)
 have e7 : (x.k == 7) = false := beq_eq_false_iff_ne.2 (by omega)
 have e8 : (x.k == 8) = false := beq_eq_false_iff_ne.2 (by omega)
 have k1 := ct (by omega)
 refine FnM.of_awp (T := tt) (ok := tok) Tryz.func48 (by kernel_rfl) rfl (by kernel_rfl) (by kernel_rfl) rfl (fun w0 st0 lent c0 => ?_)
 dsimp only [frOf, hpFrom, List.length_cons, List.length_nil]
 generalize out ++ codN XS self x pos en = o1 at *
 (repeat' (first | refine goA ?_ | refine ARun.nilCheckP rfl rfl (guardF_spec rfl) ?_ | refine cX kone ?_ | refine callAsk 1000 1001 kb rfl rfl rfl rfl rfl askT rfl rfl rfl ?_ | refine callLay 1000 1001 k1 rfl rfl rfl rfl rfl askT rfl rfl rfl ?_ | refine goB ?_ | fail))
 (first | exact fin_l rfl rfl rfl rfl rfl | exact awp_ret (fin_l rfl rfl rfl rfl rfl) | (refine awp_skip ?_; exact fin_l rfl rfl rfl rfl rfl) | (refine awp_exit ?_; exact fin_l rfl rfl rfl rfl rfl))
set_option maxHeartbeats 8000000 in
theorem part_6 (x : Nod) (ok : okD x = true) (hk : x.k = 6) (ca : RowC x.a) (cb : RowC x.b) : PartC x := by
 intro at_ self en out hs
 have ksz := siz_c x.a (okD_ab ok).1 (by have := cnt_ab x; omega)
 have kone := one_c x ok (by omega) (siz_c x.a (okD_ab ok).1 (by have := cnt_ab x; omega)) (siz_c x.b (okD_ab ok).2 (by have := cnt_ab x; omega))
 unfold SizC at ksz
 have ct := fun h => turn_m x ok h ca cb at_ self en out hs
 have cl := fun h h' => loop_m x ok h h' ca at_ self en out hs
 have kb := behind_l at_ self en (oneS x) out (by omega) (by have := oneS_bound x; omega)
 have kb2 := behind_l at_ self en (4 + sizS x.a) out (by omega) (by have := sizS_bound x.a; have := cnt_ab x; omega)
 have b1 := sizS_bound x.a
 have b2 := sizS_bound x.b
 have b3 := cnt_ab x
 have b4 := oneS_bound x
 have oka := (okD_ab ok).1
 have okb := (okD_ab ok).2
 obtain ⟨pos, hpos⟩ : ∃ p, p = wr (at_ + 8 * (out.length : Int)) := ⟨_, rfl⟩
 have c1 := here_l at_ self en out (by omega)
 rw [← hpos] at c1 kb kb2 ct cl ⊢
 obtain ⟨E, hE⟩ : ∃ p, p = wr (pos + 8 * oneS x) := ⟨_, rfl⟩
 rw [← hE] at kb ct cl
 have e1 : (x.k == 1) = false := beq_eq_false_iff_ne.2 (by omega)
 have e2 : (x.k == 2) = false := beq_eq_false_iff_ne.2 (by omega)
 have e11 : (x.k == 11) = false := beq_eq_false_iff_ne.2 (by omega)
 have e10 : (x.k == 10) = false := beq_eq_false_iff_ne.2 (by omega)
 have e9 : (x.k == 9) = false := beq_eq_false_iff_ne.2 (by omega)
 have e3 : (x.k == 3) = false := beq_eq_false_iff_ne.2 (by omega)
 have e7 : (x.k == 7) = false := beq_eq_false_iff_ne.2 (by omega)
 have e8 : (x.k == 8) = false := beq_eq_false_iff_ne.2 (by omega)
 have k1 := ct (by omega)
 refine FnM.of_awp (T := tt) (ok := tok) Tryz.func48 (by kernel_rfl) rfl (by kernel_rfl) (by kernel_rfl) rfl (fun w0 st0 lent c0 => ?_)
 dsimp only [frOf, hpFrom, List.length_cons, List.length_nil]
 generalize out ++ codN XS self x pos en = o1 at *
 (repeat' (first | refine goA ?_ | refine ARun.nilCheckP rfl rfl (guardF_spec rfl) ?_ | refine cX kone ?_ | refine callAsk 1000 1001 kb rfl rfl rfl rfl rfl askT rfl rfl rfl ?_ | refine callLay 1000 1001 k1 rfl rfl rfl rfl rfl askT rfl rfl rfl ?_ | refine goB ?_ | fail))
 (first | exact fin_l rfl rfl rfl rfl rfl | exact awp_ret (fin_l rfl rfl rfl rfl rfl) | (refine awp_skip ?_; exact fin_l rfl rfl rfl rfl rfl) | (refine awp_exit ?_; exact fin_l rfl rfl rfl rfl rfl))
set_option maxHeartbeats 8000000 in
theorem part_7 (x : Nod) (ok : okD x = true) (hk : x.k = 7) (hn : x.n = 0 ∨ x.n = 1) (ca : RowC x.a) (cb : RowC x.b) : PartC x := by
 intro at_ self en out hs
 have ksz := siz_c x.a (okD_ab ok).1 (by have := cnt_ab x; omega)
 have kone := one_c x ok (by omega) (siz_c x.a (okD_ab ok).1 (by have := cnt_ab x; omega)) (siz_c x.b (okD_ab ok).2 (by have := cnt_ab x; omega))
 unfold SizC at ksz
 have ct := fun h => turn_m x ok h ca cb at_ self en out hs
 have cl := fun h h' => loop_m x ok h h' ca at_ self en out hs
 have kb := behind_l at_ self en (oneS x) out (by omega) (by have := oneS_bound x; omega)
 have kb2 := behind_l at_ self en (4 + sizS x.a) out (by omega) (by have := sizS_bound x.a; have := cnt_ab x; omega)
 have b1 := sizS_bound x.a
 have b2 := sizS_bound x.b
 have b3 := cnt_ab x
 have b4 := oneS_bound x
 have oka := (okD_ab ok).1
 have okb := (okD_ab ok).2
 obtain ⟨pos, hpos⟩ : ∃ p, p = wr (at_ + 8 * (out.length : Int)) := ⟨_, rfl⟩
 have c1 := here_l at_ self en out (by omega)
 rw [← hpos] at c1 kb kb2 ct cl ⊢
 obtain ⟨E, hE⟩ : ∃ p, p = wr (pos + 8 * oneS x) := ⟨_, rfl⟩
 rw [← hE] at kb ct cl
 have k1 := cl (by omega) hn
 have e1 : (x.k == 1) = false := beq_eq_false_iff_ne.2 (by omega)
 have e2 : (x.k == 2) = false := beq_eq_false_iff_ne.2 (by omega)
 have e11 : (x.k == 11) = false := beq_eq_false_iff_ne.2 (by omega)
 have e10 : (x.k == 10) = false := beq_eq_false_iff_ne.2 (by omega)
 have e9 : (x.k == 9) = false := beq_eq_false_iff_ne.2 (by omega)
 have e3 : (x.k == 3) = false := beq_eq_false_iff_ne.2 (by omega)
 have e7 : (x.k == 7) = true := beq_iff_eq.2 hk
 have e8 : (x.k == 8) = false := beq_eq_false_iff_ne.2 (by omega)
 refine FnM.of_awp (T := tt) (ok := tok) Tryz.func48 (by kernel_rfl) rfl (by kernel_rfl) (by kernel_rfl) rfl (fun w0 st0 lent c0 => ?_)
 dsimp only [frOf, hpFrom, List.length_cons, List.length_nil]
 generalize out ++ codN XS self x pos en = o1 at *
 (repeat' (first | refine goA ?_ | refine ARun.nilCheckP rfl rfl (guardF_spec rfl) ?_ | refine cX kone ?_ | refine callAsk 1000 1001 kb rfl rfl rfl rfl rfl askT rfl rfl rfl ?_ | refine callLay 1000 1001 k1 rfl rfl rfl rfl rfl askT rfl rfl rfl ?_ | refine goB ?_ | fail))
 (first | exact fin_l rfl rfl rfl rfl rfl | exact awp_ret (fin_l rfl rfl rfl rfl rfl) | (refine awp_skip ?_; exact fin_l rfl rfl rfl rfl rfl) | (refine awp_exit ?_; exact fin_l rfl rfl rfl rfl rfl))
set_option maxHeartbeats 8000000 in
theorem part_8 (x : Nod) (ok : okD x = true) (hk : x.k = 8) (hn : x.n = 0 ∨ x.n = 1) (ca : RowC x.a) (cb : RowC x.b) : PartC x := by
 intro at_ self en out hs
 have ksz := siz_c x.a (okD_ab ok).1 (by have := cnt_ab x; omega)
 have kone := one_c x ok (by omega) (siz_c x.a (okD_ab ok).1 (by have := cnt_ab x; omega)) (siz_c x.b (okD_ab ok).2 (by have := cnt_ab x; omega))
 unfold SizC at ksz
 have ct := fun h => turn_m x ok h ca cb at_ self en out hs
 have cl := fun h h' => loop_m x ok h h' ca at_ self en out hs
 have kb := behind_l at_ self en (oneS x) out (by omega) (by have := oneS_bound x; omega)
 have kb2 := behind_l at_ self en (4 + sizS x.a) out (by omega) (by have := sizS_bound x.a; have := cnt_ab x; omega)
 have b1 := sizS_bound x.a
 have b2 := sizS_bound x.b
 have b3 := cnt_ab x
 have b4 := oneS_bound x
 have oka := (okD_ab ok).1
 have okb := (okD_ab ok).2
 obtain ⟨pos, hpos⟩ : ∃ p, p = wr (at_ + 8 * (out.length : Int)) := ⟨_, rfl⟩
 have c1 := here_l at_ self en out (by omega)
 rw [← hpos] at c1 kb kb2 ct cl ⊢
 obtain ⟨E, hE⟩ : ∃ p, p = wr (pos + 8 * oneS x) := ⟨_, rfl⟩
 rw [← hE] at kb ct cl
 have k1 := cl (by omega) hn
 have e1 : (x.k == 1) = false := beq_eq_false_iff_ne.2 (by omega)
 have e2 : (x.k == 2) = false := beq_eq_false_iff_ne.2 (by omega)
 have e11 : (x.k == 11) = false := beq_eq_false_iff_ne.2 (by omega)
 have e10 : (x.k == 10) = false := beq_eq_false_iff_ne.2 (by omega)
 have e9 : (x.k == 9) = false := beq_eq_false_iff_ne.2 (by omega)
 have e3 : (x.k == 3) = false := beq_eq_false_iff_ne.2 (by omega)
 have e7 : (x.k == 7) = false := beq_eq_false_iff_ne.2 (by omega)
 have e8 : (x.k == 8) = true := beq_iff_eq.2 hk
 refine FnM.of_awp (T := tt) (ok := tok) Tryz.func48 (by kernel_rfl) rfl (by kernel_rfl) (by kernel_rfl) rfl (fun w0 st0 lent c0 => ?_)
 dsimp only [frOf, hpFrom, List.length_cons, List.length_nil]
 generalize out ++ codN XS self x pos en = o1 at *
 (repeat' (first | refine goA ?_ | refine ARun.nilCheckP rfl rfl (guardF_spec rfl) ?_ | refine cX kone ?_ | refine callAsk 1000 1001 kb rfl rfl rfl rfl rfl askT rfl rfl rfl ?_ | refine callLay 1000 1001 k1 rfl rfl rfl rfl rfl askT rfl rfl rfl ?_ | refine goB ?_ | fail))
 (first | exact fin_l rfl rfl rfl rfl rfl | exact awp_ret (fin_l rfl rfl rfl rfl rfl) | (refine awp_skip ?_; exact fin_l rfl rfl rfl rfl rfl) | (refine awp_exit ?_; exact fin_l rfl rfl rfl rfl rfl))
theorem part_m (x : Nod) (ok : okD x = true) (ca : RowC x.a) (cb : RowC x.b) : PartC x := by
 rcases okD_cases ok with ⟨hk, ha, hb⟩ | ⟨hk, hn⟩ | ⟨hk, hb⟩ | hk | ⟨hk0, hn, hb⟩
 ·rcases hk with hk | hk | hk | hk | hk
  ·exact part_1 x ok hk ca cb
  ·exact part_2 x ok hk ca cb
  ·exact part_9 x ok hk ca cb
  ·exact part_10 x ok hk ca cb
  ·exact part_11 x ok hk ca cb
 ·rcases hn with hn | ⟨hn, hb⟩
  ·exact part_31 x ok hk hn ca cb
  ·exact part_30 x ok hk hn ca cb
 ·rcases hk with hk | hk
  ·exact part_4 x ok hk ca cb
  ·exact part_5 x ok hk ca cb
 ·exact part_6 x ok hk ca cb
 ·rcases hk0 with hk | hk
  ·exact part_7 x ok hk hn ca cb
  ·exact part_8 x ok hk hn ca cb
end Go.Proofs.YtfphgelollhdhaaGreat.Gen
namespace Go.Proofs.YtfphgelollhdhaaGreat.Gen
open Go Go.RowKit
set_option maxRecDepth 100000
attribute [local irreducible] Decidable.decide awp ARun regK toK XS
set_option maxHeartbeats 8000000 in
theorem row_all : ∀ (m : Nat) (l : List Nod), cntL l < m → okDs l = true → RowC l := by
 intro m
 induction m with
 | zero => exact fun l h => absurd h (Nat.not_lt_zero _)
 | succ m ih =>
  intro l hm hok at_ self en out hs
  have hl := cnt_len l
  obtain ⟨pos, hpos⟩ : ∃ p, p = wr (at_ + 8 * (out.length : Int)) := ⟨_, rfl⟩
  have hp0 : In64 pos := by rw [hpos]; exact wr_range _
  rw [← hpos]
  refine FnM.of_awp (T := tt) (ok := tok) Tryz.func18 (by kernel_rfl) rfl (by kernel_rfl) (by kernel_rfl) rfl (fun w0 st0 lent c0 => ?_)
  dsimp only [frOf, hpFrom, List.length_cons, List.length_nil]
  (repeat' (first | refine goA ?_ | refine goB ?_ | ((fail_if_success refine ARun.plain rfl ?_); refine ARun.fork rfl rfl rfl (fun h => ?_) (fun h => ?_)) | refine awp_cond rfl (fun h => ?_) (fun h => ?_)))
  refine awp_loopT (T := Nat × List Int × Nat × Nat) (fun t => ⟨[(0, .ptr 1000 0 0 0), (1, encTr l), (7, .val (.int .i64 (t.1 : Nat))), (6, .val (.int .i64 ((l.map encD).length : Nat)))], [(1000, some ⟨0, 4, [LCb 1001 t.2.2.1 at_ self en (t.2.1.map encI).length]⟩), (1001, some ⟨t.2.2.1, 1, t.2.1.map encI⟩)], t.2.2.2⟩) (fun t => t.1 ≤ l.length ∧ t.2.1 = out ++ codL XS self (l.take t.1) pos en) (fun t => l.length - t.1) (0, out, 1, _) ⟨Nat.zero_le _, by rw [List.take_zero, codL, List.append_nil]⟩ ⟨⟨rfl, rfl, rfl, rfl, trivial⟩, ⟨rfl, rfl, trivial⟩, Nat.le_refl _⟩ (fun t ht => ?_)
  obtain ⟨k, o, g, gc⟩ := t
  obtain ⟨ht, hA⟩ := ht
  dsimp only at ht hA ⊢
  by_cases hlt : k < l.length
  ·have hp : l[k]? = some l[k] := List.getElem?_eq_getElem hlt
   have hc2 : decide (((k : Nat) : Int) < (((l.map encD).length : Nat) : Int)) = true := by simp; omega
   generalize l[k] = x at hp
   have ok1 := okDs_mem hok x (List.mem_of_getElem? hp)
   have n1 := cnt_mem hp
   have n2 := cnt_ab x
   have q0 := sizS_bound (l.take k)
   have q2 := cnt_take l k
   have q1 : ((codL XS self (l.take k) pos en).length : Int) = sizS (l.take k) := codL_len _ _ _ _ _ (ok_take k hok)
   have q3 := cntL_append (l.take k) (l.drop k)
   rw [List.take_append_drop] at q3
   have q4 : cntN x ≤ cntL (l.drop k) := cnt_mem (i := 0) (by rw [List.getElem?_drop]; exact hp)
   have q5 : (o.length : Int) = out.length + sizS (l.take k) := by rw [hA, List.length_append]; omega
   have c1 := part_m x ok1 (ih x.a (by omega) (okD_ab ok1).1) (ih x.b (by omega) (okD_ab ok1).2) at_ self en o (by omega)
   have gx := get_nd hp
   have hB : wr (at_ + 8 * (o.length : Int)) = wr (pos + 8 * sizS (l.take k)) := by rw [hpos, wr_wr, q5]; congr 1; omega
   rw [hB] at c1
   have hN : out ++ codL XS self (l.take (k + 1)) pos en = o ++ codN XS self x (wr (pos + 8 * sizS (l.take k))) en := by rw [cod_take XS self en hp hp0, hA, List.append_assoc]
   generalize o ++ codN XS self x (wr (pos + 8 * sizS (l.take k))) en = o2 at *
   (repeat' (first | refine goA ?_ | refine ARun.nilCheckP rfl rfl (guardF_spec rfl) ?_ | refine callLay 1000 1001 c1 rfl rfl rfl rfl rfl askT rfl rfl rfl ?_ | refine ARun.indexAddr rfl rfl (by omega) (by with_reducible exact gx) rfl rfl rfl rfl rfl (guardF_spec rfl) ?_ | refine goB ?_ | fail))
   exact ⟨(k + 1, o2, _, _), ⟨⟨rfl, rfl, succI k, rfl, trivial⟩, ⟨rfl, rfl, trivial⟩, Nat.le_refl _⟩, ⟨by dsimp only; omega, hN.symm⟩, (by dsimp only; omega)⟩
  ·have hkk : k = l.length := by omega
   subst hkk
   have hc2 : decide (((l.length : Nat) : Int) < (((l.map encD).length : Nat) : Int)) = false := by simp
   rw [List.take_length] at hA
   rw [← hA]
   (repeat' (first | refine goA ?_ | refine goB ?_ | fail))
   (first | exact fin_l rfl rfl rfl rfl rfl | exact awp_ret (fin_l rfl rfl rfl rfl rfl) | (refine awp_skip ?_; exact fin_l rfl rfl rfl rfl rfl) | (refine awp_exit ?_; exact fin_l rfl rfl rfl rfl rfl))
end Go.Proofs.YtfphgelollhdhaaGreat.Gen
