/- yX13, yX14, yX150, yX154, yX158. -/
import Derived.Test.YtfphgelollhdhaaGreatW1
import Derived.Test.YtfphgelollhdhaaGreatW2
import Derived.Test.YtfphgelollhdhaaGreatW3
import Derived.Test.YtfphgelollhdhaaGreatW4
import Derived.Test.YtfphgelollhdhaaGreatyW5
import Derived.Test.YtfphgelollhdhaaGreatyW6
import Derived.Test.YtfphgelollhdhaaGreatyW7
import Derived.Test.YtfphgelollhdhaaGreatyW8
import Derived.Test.YtfphgelollhdhaaGreatyW9
import Derived.Test.YtfphgelollhdhaaGreatyW10
import Derived.Test.YtfphgelollhdhaaGreatyW11
import Derived.Test.YtfphgelollhdhaaGreatyW12
import Derived.Test.YtfphgelollhdhaaGreatyW13
import Derived.Test.YtfphgelollhdhaaGreatyW14
import Derived.Test.YtfphgelollhdhaaGreatyW15
set_option linter.unusedVariables false
set_option linter.unusedSimpArgs false
namespace Go.Proofs.YtfphgelollhdhaaGreat
open Go Go.RowKit
open Go.Proofs.YtfphgelollhdhaaGreat.Dict (St Bs bs_eq)
set_option maxRecDepth 100000
def FitC (i : Nat) (l : List Cfr) : Prop :=
 if i = 0 ∨ i = 3 ∨ i = 8 ∨ i = 9 then l.length < 32
 else if i = 1 ∨ i = 2 then lastK l 0 = 1
 else if i = 4 then lastK l 0 = 2 ∧ l.length < 32
 else if i = 5 then lastK l 0 = 2 ∧ lastK l 1 = 1
 else if i = 6 ∨ i = 7 then lastK l 0 = 2
 else if i = 10 ∨ i = 11 then lastK l 0 = 3
 else 0 ≤ loopAt l ∧ leavesAt l (loopAt l) < 32
theorem loopFrom_mem : ∀ {l : List Cfr} {n : Nat}, 0 ≤ loopFrom l n → ∃ k c, l[k]? = some c ∧ c.kind = 3 ∧ loopFrom l n = (k : Nat)
 | l, 0, h => by
  unfold loopFrom at h
  omega
 | l, n + 1, h => by
  rw [loopFrom] at h ⊢
  split at h
  ·rename_i c hc
   split at h
   ·rename_i hk
    exact ⟨n, c, hc, hk, by rw [if_pos hk]⟩
   ·rename_i hk
    rw [if_neg hk]
    exact loopFrom_mem h
  ·exact loopFrom_mem h
theorem beq_pDI (a b : Int) : (a == b) = pD (a = b) := by rw [← dec_pD]; rfl
attribute [local irreducible] Decidable.decide awp ARun regK toK
set_option maxHeartbeats 4000000 in
theorem may_0 (l : List Cfr) (name : Bs) (hn : name = [73, 70]) (hl : l.length ≤ 1000000) : FnC Tryz.prog 98 [encLCf l, St name] (.val (.bool (pD (FitC 0 l)))) := by
 have n0 := Dict.eqT name [73, 70] (by rw [hn])
 have n1 := Dict.eqF name [69, 76, 83, 69] (by rw [hn]; simp)
 have n2 := Dict.eqF name [84, 72, 69, 78] (by rw [hn]; simp)
 have n3 := Dict.eqF name [66, 69, 71, 73, 78] (by rw [hn]; simp)
 have n4 := Dict.eqF name [87, 72, 73, 76, 69] (by rw [hn]; simp)
 have n5 := Dict.eqF name [82, 69, 80, 69, 65, 84] (by rw [hn]; simp)
 have n6 := Dict.eqF name [85, 78, 84, 73, 76] (by rw [hn]; simp)
 have n7 := Dict.eqF name [65, 71, 65, 73, 78] (by rw [hn]; simp)
 have n8 := Dict.eqF name [68, 79] (by rw [hn]; simp)
 have n9 := Dict.eqF name [63, 68, 79] (by rw [hn]; simp)
 have n10 := Dict.eqF name [76, 79, 79, 80] (by rw [hn]; simp)
 have n11 := Dict.eqF name [43, 76, 79, 79, 80] (by rw [hn]; simp)
 have n12 := Dict.eqF name [76, 69, 65, 86, 69] (by rw [hn]; simp)
 have e0 : (((l.map encCf).length : Nat) : Int) = l.length := by rw [List.length_map]
 have c1 := ref_last_c l 0 hl (by omega)
 have c2 := ref_last_c l 1 hl (by omega)
 rw [show pD (FitC 0 l) = pD (l.length < 32) from rfl]
 generalize lastK l 0 = x0 at *
 generalize lastK l 1 = x1 at *
 refine goF Tryz.func98 (closedL_cons (closedLCf l) (closedL_cons (.val _) closedL_nil)) (fun w0 st0 => ?_)
 dsimp only [frOf]
 (repeat' (first | refine goA ?_ | refine cX c1 ?_ | refine cX c2 ?_ | refine goB ?_ | fail))
 refine awp_ret ⟨_, ResL.cons (ResA.tmp (.val _)) .nil, congrArg (fun b => AV.val (.bool b)) ?_⟩
 rw [← dec_pD]
 exact decide_eq_decide.2 (by omega)
set_option maxHeartbeats 4000000 in
theorem may_1 (l : List Cfr) (name : Bs) (hn : name = [69, 76, 83, 69]) (hl : l.length ≤ 1000000) : FnC Tryz.prog 98 [encLCf l, St name] (.val (.bool (pD (FitC 1 l)))) := by
 have n0 := Dict.eqF name [73, 70] (by rw [hn]; simp)
 have n1 := Dict.eqT name [69, 76, 83, 69] (by rw [hn])
 have n2 := Dict.eqF name [84, 72, 69, 78] (by rw [hn]; simp)
 have n3 := Dict.eqF name [66, 69, 71, 73, 78] (by rw [hn]; simp)
 have n4 := Dict.eqF name [87, 72, 73, 76, 69] (by rw [hn]; simp)
 have n5 := Dict.eqF name [82, 69, 80, 69, 65, 84] (by rw [hn]; simp)
 have n6 := Dict.eqF name [85, 78, 84, 73, 76] (by rw [hn]; simp)
 have n7 := Dict.eqF name [65, 71, 65, 73, 78] (by rw [hn]; simp)
 have n8 := Dict.eqF name [68, 79] (by rw [hn]; simp)
 have n9 := Dict.eqF name [63, 68, 79] (by rw [hn]; simp)
 have n10 := Dict.eqF name [76, 79, 79, 80] (by rw [hn]; simp)
 have n11 := Dict.eqF name [43, 76, 79, 79, 80] (by rw [hn]; simp)
 have n12 := Dict.eqF name [76, 69, 65, 86, 69] (by rw [hn]; simp)
 have e0 : (((l.map encCf).length : Nat) : Int) = l.length := by rw [List.length_map]
 have c1 := ref_last_c l 0 hl (by omega)
 have c2 := ref_last_c l 1 hl (by omega)
 rw [show pD (FitC 1 l) = pD (lastK l 0 = 1) from rfl]
 generalize lastK l 0 = x0 at *
 generalize lastK l 1 = x1 at *
 refine goF Tryz.func98 (closedL_cons (closedLCf l) (closedL_cons (.val _) closedL_nil)) (fun w0 st0 => ?_)
 dsimp only [frOf]
 (repeat' (first | refine goA ?_ | refine cX c1 ?_ | refine cX c2 ?_ | refine goB ?_ | fail))
 refine awp_ret ⟨_, ResL.cons (ResA.tmp (.val _)) .nil, congrArg (fun b => AV.val (.bool b)) ?_⟩
 exact (beq_pDI _ _).symm
set_option maxHeartbeats 4000000 in
theorem may_2 (l : List Cfr) (name : Bs) (hn : name = [84, 72, 69, 78]) (hl : l.length ≤ 1000000) : FnC Tryz.prog 98 [encLCf l, St name] (.val (.bool (pD (FitC 2 l)))) := by
 have n0 := Dict.eqF name [73, 70] (by rw [hn]; simp)
 have n1 := Dict.eqF name [69, 76, 83, 69] (by rw [hn]; simp)
 have n2 := Dict.eqT name [84, 72, 69, 78] (by rw [hn])
 have n3 := Dict.eqF name [66, 69, 71, 73, 78] (by rw [hn]; simp)
 have n4 := Dict.eqF name [87, 72, 73, 76, 69] (by rw [hn]; simp)
 have n5 := Dict.eqF name [82, 69, 80, 69, 65, 84] (by rw [hn]; simp)
 have n6 := Dict.eqF name [85, 78, 84, 73, 76] (by rw [hn]; simp)
 have n7 := Dict.eqF name [65, 71, 65, 73, 78] (by rw [hn]; simp)
 have n8 := Dict.eqF name [68, 79] (by rw [hn]; simp)
 have n9 := Dict.eqF name [63, 68, 79] (by rw [hn]; simp)
 have n10 := Dict.eqF name [76, 79, 79, 80] (by rw [hn]; simp)
 have n11 := Dict.eqF name [43, 76, 79, 79, 80] (by rw [hn]; simp)
 have n12 := Dict.eqF name [76, 69, 65, 86, 69] (by rw [hn]; simp)
 have e0 : (((l.map encCf).length : Nat) : Int) = l.length := by rw [List.length_map]
 have c1 := ref_last_c l 0 hl (by omega)
 have c2 := ref_last_c l 1 hl (by omega)
 rw [show pD (FitC 2 l) = pD (lastK l 0 = 1) from rfl]
 generalize lastK l 0 = x0 at *
 generalize lastK l 1 = x1 at *
 refine goF Tryz.func98 (closedL_cons (closedLCf l) (closedL_cons (.val _) closedL_nil)) (fun w0 st0 => ?_)
 dsimp only [frOf]
 (repeat' (first | refine goA ?_ | refine cX c1 ?_ | refine cX c2 ?_ | refine goB ?_ | fail))
 refine awp_ret ⟨_, ResL.cons (ResA.tmp (.val _)) .nil, congrArg (fun b => AV.val (.bool b)) ?_⟩
 exact (beq_pDI _ _).symm
set_option maxHeartbeats 4000000 in
theorem may_3 (l : List Cfr) (name : Bs) (hn : name = [66, 69, 71, 73, 78]) (hl : l.length ≤ 1000000) : FnC Tryz.prog 98 [encLCf l, St name] (.val (.bool (pD (FitC 3 l)))) := by
 have n0 := Dict.eqF name [73, 70] (by rw [hn]; simp)
 have n1 := Dict.eqF name [69, 76, 83, 69] (by rw [hn]; simp)
 have n2 := Dict.eqF name [84, 72, 69, 78] (by rw [hn]; simp)
 have n3 := Dict.eqT name [66, 69, 71, 73, 78] (by rw [hn])
 have n4 := Dict.eqF name [87, 72, 73, 76, 69] (by rw [hn]; simp)
 have n5 := Dict.eqF name [82, 69, 80, 69, 65, 84] (by rw [hn]; simp)
 have n6 := Dict.eqF name [85, 78, 84, 73, 76] (by rw [hn]; simp)
 have n7 := Dict.eqF name [65, 71, 65, 73, 78] (by rw [hn]; simp)
 have n8 := Dict.eqF name [68, 79] (by rw [hn]; simp)
 have n9 := Dict.eqF name [63, 68, 79] (by rw [hn]; simp)
 have n10 := Dict.eqF name [76, 79, 79, 80] (by rw [hn]; simp)
 have n11 := Dict.eqF name [43, 76, 79, 79, 80] (by rw [hn]; simp)
 have n12 := Dict.eqF name [76, 69, 65, 86, 69] (by rw [hn]; simp)
 have e0 : (((l.map encCf).length : Nat) : Int) = l.length := by rw [List.length_map]
 have c1 := ref_last_c l 0 hl (by omega)
 have c2 := ref_last_c l 1 hl (by omega)
 rw [show pD (FitC 3 l) = pD (l.length < 32) from rfl]
 generalize lastK l 0 = x0 at *
 generalize lastK l 1 = x1 at *
 refine goF Tryz.func98 (closedL_cons (closedLCf l) (closedL_cons (.val _) closedL_nil)) (fun w0 st0 => ?_)
 dsimp only [frOf]
 (repeat' (first | refine goA ?_ | refine cX c1 ?_ | refine cX c2 ?_ | refine goB ?_ | fail))
 refine awp_ret ⟨_, ResL.cons (ResA.tmp (.val _)) .nil, congrArg (fun b => AV.val (.bool b)) ?_⟩
 rw [← dec_pD]
 exact decide_eq_decide.2 (by omega)
set_option maxHeartbeats 4000000 in
theorem may_4 (l : List Cfr) (name : Bs) (hn : name = [87, 72, 73, 76, 69]) (hl : l.length ≤ 1000000) : FnC Tryz.prog 98 [encLCf l, St name] (.val (.bool (pD (FitC 4 l)))) := by
 have n0 := Dict.eqF name [73, 70] (by rw [hn]; simp)
 have n1 := Dict.eqF name [69, 76, 83, 69] (by rw [hn]; simp)
 have n2 := Dict.eqF name [84, 72, 69, 78] (by rw [hn]; simp)
 have n3 := Dict.eqF name [66, 69, 71, 73, 78] (by rw [hn]; simp)
 have n4 := Dict.eqT name [87, 72, 73, 76, 69] (by rw [hn])
 have n5 := Dict.eqF name [82, 69, 80, 69, 65, 84] (by rw [hn]; simp)
 have n6 := Dict.eqF name [85, 78, 84, 73, 76] (by rw [hn]; simp)
 have n7 := Dict.eqF name [65, 71, 65, 73, 78] (by rw [hn]; simp)
 have n8 := Dict.eqF name [68, 79] (by rw [hn]; simp)
 have n9 := Dict.eqF name [63, 68, 79] (by rw [hn]; simp)
 have n10 := Dict.eqF name [76, 79, 79, 80] (by rw [hn]; simp)
 have n11 := Dict.eqF name [43, 76, 79, 79, 80] (by rw [hn]; simp)
 have n12 := Dict.eqF name [76, 69, 65, 86, 69] (by rw [hn]; simp)
 have e0 : (((l.map encCf).length : Nat) : Int) = l.length := by rw [List.length_map]
 have c1 := ref_last_c l 0 hl (by omega)
 have c2 := ref_last_c l 1 hl (by omega)
 rw [show pD (FitC 4 l) = pD (lastK l 0 = 2 ∧ l.length < 32) from rfl]
 generalize lastK l 0 = x0 at *
 generalize lastK l 1 = x1 at *
 by_cases h : x0 = 2
 case neg =>
  have d : (x0 == 2) = false := beq_eq_false_iff_ne.2 h
  rw [pD_no (fun h2 => h h2.1)]
  refine goF Tryz.func98 (closedL_cons (closedLCf l) (closedL_cons (.val _) closedL_nil)) (fun w0 st0 => ?_)
  dsimp only [frOf]
  (repeat' (first | refine goA ?_ | refine cX c1 ?_ | refine cX c2 ?_ | refine goB ?_ | fail))
  refine awp_ret ⟨_, ResL.cons (ResA.tmp (.val _)) .nil, congrArg (fun b => AV.val (.bool b)) ?_⟩
  rfl
 have d : (x0 == 2) = true := beq_iff_eq.2 h
 rw [show pD (x0 = 2 ∧ l.length < 32) = pD (l.length < 32) from pD_congr ⟨fun h2 => h2.2, fun h2 => ⟨h, h2⟩⟩]
 refine goF Tryz.func98 (closedL_cons (closedLCf l) (closedL_cons (.val _) closedL_nil)) (fun w0 st0 => ?_)
 dsimp only [frOf]
 (repeat' (first | refine goA ?_ | refine cX c1 ?_ | refine cX c2 ?_ | refine goB ?_ | fail))
 refine awp_ret ⟨_, ResL.cons (ResA.tmp (.val _)) .nil, congrArg (fun b => AV.val (.bool b)) ?_⟩
 rw [← dec_pD]
 exact decide_eq_decide.2 (by omega)
set_option maxHeartbeats 4000000 in
theorem may_5 (l : List Cfr) (name : Bs) (hn : name = [82, 69, 80, 69, 65, 84]) (hl : l.length ≤ 1000000) : FnC Tryz.prog 98 [encLCf l, St name] (.val (.bool (pD (FitC 5 l)))) := by
 have n0 := Dict.eqF name [73, 70] (by rw [hn]; simp)
 have n1 := Dict.eqF name [69, 76, 83, 69] (by rw [hn]; simp)
 have n2 := Dict.eqF name [84, 72, 69, 78] (by rw [hn]; simp)
 have n3 := Dict.eqF name [66, 69, 71, 73, 78] (by rw [hn]; simp)
 have n4 := Dict.eqF name [87, 72, 73, 76, 69] (by rw [hn]; simp)
 have n5 := Dict.eqT name [82, 69, 80, 69, 65, 84] (by rw [hn])
 have n6 := Dict.eqF name [85, 78, 84, 73, 76] (by rw [hn]; simp)
 have n7 := Dict.eqF name [65, 71, 65, 73, 78] (by rw [hn]; simp)
 have n8 := Dict.eqF name [68, 79] (by rw [hn]; simp)
 have n9 := Dict.eqF name [63, 68, 79] (by rw [hn]; simp)
 have n10 := Dict.eqF name [76, 79, 79, 80] (by rw [hn]; simp)
 have n11 := Dict.eqF name [43, 76, 79, 79, 80] (by rw [hn]; simp)
 have n12 := Dict.eqF name [76, 69, 65, 86, 69] (by rw [hn]; simp)
 have e0 : (((l.map encCf).length : Nat) : Int) = l.length := by rw [List.length_map]
 have c1 := ref_last_c l 0 hl (by omega)
 have c2 := ref_last_c l 1 hl (by omega)
 rw [show pD (FitC 5 l) = pD (lastK l 0 = 2 ∧ lastK l 1 = 1) from rfl]
 generalize lastK l 0 = x0 at *
 generalize lastK l 1 = x1 at *
 by_cases h : x0 = 2
 case neg =>
  have d : (x0 == 2) = false := beq_eq_false_iff_ne.2 h
  rw [pD_no (fun h2 => h h2.1)]
  refine goF Tryz.func98 (closedL_cons (closedLCf l) (closedL_cons (.val _) closedL_nil)) (fun w0 st0 => ?_)
  dsimp only [frOf]
  (repeat' (first | refine goA ?_ | refine cX c1 ?_ | refine cX c2 ?_ | refine goB ?_ | fail))
  refine awp_ret ⟨_, ResL.cons (ResA.tmp (.val _)) .nil, congrArg (fun b => AV.val (.bool b)) ?_⟩
  rfl
 have d : (x0 == 2) = true := beq_iff_eq.2 h
 rw [show pD (x0 = 2 ∧ x1 = 1) = pD (x1 = 1) from pD_congr ⟨fun h2 => h2.2, fun h2 => ⟨h, h2⟩⟩]
 refine goF Tryz.func98 (closedL_cons (closedLCf l) (closedL_cons (.val _) closedL_nil)) (fun w0 st0 => ?_)
 dsimp only [frOf]
 (repeat' (first | refine goA ?_ | refine cX c1 ?_ | refine cX c2 ?_ | refine goB ?_ | fail))
 refine awp_ret ⟨_, ResL.cons (ResA.tmp (.val _)) .nil, congrArg (fun b => AV.val (.bool b)) ?_⟩
 exact (beq_pDI _ _).symm
set_option maxHeartbeats 4000000 in
theorem may_6 (l : List Cfr) (name : Bs) (hn : name = [85, 78, 84, 73, 76]) (hl : l.length ≤ 1000000) : FnC Tryz.prog 98 [encLCf l, St name] (.val (.bool (pD (FitC 6 l)))) := by
 have n0 := Dict.eqF name [73, 70] (by rw [hn]; simp)
 have n1 := Dict.eqF name [69, 76, 83, 69] (by rw [hn]; simp)
 have n2 := Dict.eqF name [84, 72, 69, 78] (by rw [hn]; simp)
 have n3 := Dict.eqF name [66, 69, 71, 73, 78] (by rw [hn]; simp)
 have n4 := Dict.eqF name [87, 72, 73, 76, 69] (by rw [hn]; simp)
 have n5 := Dict.eqF name [82, 69, 80, 69, 65, 84] (by rw [hn]; simp)
 have n6 := Dict.eqT name [85, 78, 84, 73, 76] (by rw [hn])
 have n7 := Dict.eqF name [65, 71, 65, 73, 78] (by rw [hn]; simp)
 have n8 := Dict.eqF name [68, 79] (by rw [hn]; simp)
 have n9 := Dict.eqF name [63, 68, 79] (by rw [hn]; simp)
 have n10 := Dict.eqF name [76, 79, 79, 80] (by rw [hn]; simp)
 have n11 := Dict.eqF name [43, 76, 79, 79, 80] (by rw [hn]; simp)
 have n12 := Dict.eqF name [76, 69, 65, 86, 69] (by rw [hn]; simp)
 have e0 : (((l.map encCf).length : Nat) : Int) = l.length := by rw [List.length_map]
 have c1 := ref_last_c l 0 hl (by omega)
 have c2 := ref_last_c l 1 hl (by omega)
 rw [show pD (FitC 6 l) = pD (lastK l 0 = 2) from rfl]
 generalize lastK l 0 = x0 at *
 generalize lastK l 1 = x1 at *
 refine goF Tryz.func98 (closedL_cons (closedLCf l) (closedL_cons (.val _) closedL_nil)) (fun w0 st0 => ?_)
 dsimp only [frOf]
 (repeat' (first | refine goA ?_ | refine cX c1 ?_ | refine cX c2 ?_ | refine goB ?_ | fail))
 refine awp_ret ⟨_, ResL.cons (ResA.tmp (.val _)) .nil, congrArg (fun b => AV.val (.bool b)) ?_⟩
 exact (beq_pDI _ _).symm
set_option maxHeartbeats 4000000 in
theorem may_7 (l : List Cfr) (name : Bs) (hn : name = [65, 71, 65, 73, 78]) (hl : l.length ≤ 1000000) : FnC Tryz.prog 98 [encLCf l, St name] (.val (.bool (pD (FitC 7 l)))) := by
 have n0 := Dict.eqF name [73, 70] (by rw [hn]; simp)
 have n1 := Dict.eqF name [69, 76, 83, 69] (by rw [hn]; simp)
 have n2 := Dict.eqF name [84, 72, 69, 78] (by rw [hn]; simp)
 have n3 := Dict.eqF name [66, 69, 71, 73, 78] (by rw [hn]; simp)
 have n4 := Dict.eqF name [87, 72, 73, 76, 69] (by rw [hn]; simp)
 have n5 := Dict.eqF name [82, 69, 80, 69, 65, 84] (by rw [hn]; simp)
 have n6 := Dict.eqF name [85, 78, 84, 73, 76] (by rw [hn]; simp)
 have n7 := Dict.eqT name [65, 71, 65, 73, 78] (by rw [hn])
 have n8 := Dict.eqF name [68, 79] (by rw [hn]; simp)
 have n9 := Dict.eqF name [63, 68, 79] (by rw [hn]; simp)
 have n10 := Dict.eqF name [76, 79, 79, 80] (by rw [hn]; simp)
 have n11 := Dict.eqF name [43, 76, 79, 79, 80] (by rw [hn]; simp)
 have n12 := Dict.eqF name [76, 69, 65, 86, 69] (by rw [hn]; simp)
 have e0 : (((l.map encCf).length : Nat) : Int) = l.length := by rw [List.length_map]
 have c1 := ref_last_c l 0 hl (by omega)
 have c2 := ref_last_c l 1 hl (by omega)
 rw [show pD (FitC 7 l) = pD (lastK l 0 = 2) from rfl]
 generalize lastK l 0 = x0 at *
 generalize lastK l 1 = x1 at *
 refine goF Tryz.func98 (closedL_cons (closedLCf l) (closedL_cons (.val _) closedL_nil)) (fun w0 st0 => ?_)
 dsimp only [frOf]
 (repeat' (first | refine goA ?_ | refine cX c1 ?_ | refine cX c2 ?_ | refine goB ?_ | fail))
 refine awp_ret ⟨_, ResL.cons (ResA.tmp (.val _)) .nil, congrArg (fun b => AV.val (.bool b)) ?_⟩
 exact (beq_pDI _ _).symm
set_option maxHeartbeats 4000000 in
theorem may_8 (l : List Cfr) (name : Bs) (hn : name = [68, 79]) (hl : l.length ≤ 1000000) : FnC Tryz.prog 98 [encLCf l, St name] (.val (.bool (pD (FitC 8 l)))) := by
 have n0 := Dict.eqF name [73, 70] (by rw [hn]; simp)
 have n1 := Dict.eqF name [69, 76, 83, 69] (by rw [hn]; simp)
 have n2 := Dict.eqF name [84, 72, 69, 78] (by rw [hn]; simp)
 have n3 := Dict.eqF name [66, 69, 71, 73, 78] (by rw [hn]; simp)
 have n4 := Dict.eqF name [87, 72, 73, 76, 69] (by rw [hn]; simp)
 have n5 := Dict.eqF name [82, 69, 80, 69, 65, 84] (by rw [hn]; simp)
 have n6 := Dict.eqF name [85, 78, 84, 73, 76] (by rw [hn]; simp)
 have n7 := Dict.eqF name [65, 71, 65, 73, 78] (by rw [hn]; simp)
 have n8 := Dict.eqT name [68, 79] (by rw [hn])
 have n9 := Dict.eqF name [63, 68, 79] (by rw [hn]; simp)
 have n10 := Dict.eqF name [76, 79, 79, 80] (by rw [hn]; simp)
 have n11 := Dict.eqF name [43, 76, 79, 79, 80] (by rw [hn]; simp)
 have n12 := Dict.eqF name [76, 69, 65, 86, 69] (by rw [hn]; simp)
 have e0 : (((l.map encCf).length : Nat) : Int) = l.length := by rw [List.length_map]
 have c1 := ref_last_c l 0 hl (by omega)
 have c2 := ref_last_c l 1 hl (by omega)
 rw [show pD (FitC 8 l) = pD (l.length < 32) from rfl]
 generalize lastK l 0 = x0 at *
 generalize lastK l 1 = x1 at *
 refine goF Tryz.func98 (closedL_cons (closedLCf l) (closedL_cons (.val _) closedL_nil)) (fun w0 st0 => ?_)
 dsimp only [frOf]
 (repeat' (first | refine goA ?_ | refine cX c1 ?_ | refine cX c2 ?_ | refine goB ?_ | fail))
 refine awp_ret ⟨_, ResL.cons (ResA.tmp (.val _)) .nil, congrArg (fun b => AV.val (.bool b)) ?_⟩
 rw [← dec_pD]
 exact decide_eq_decide.2 (by omega)
set_option maxHeartbeats 4000000 in
theorem may_9 (l : List Cfr) (name : Bs) (hn : name = [63, 68, 79]) (hl : l.length ≤ 1000000) : FnC Tryz.prog 98 [encLCf l, St name] (.val (.bool (pD (FitC 9 l)))) := by
 have n0 := Dict.eqF name [73, 70] (by rw [hn]; simp)
 have n1 := Dict.eqF name [69, 76, 83, 69] (by rw [hn]; simp)
 have n2 := Dict.eqF name [84, 72, 69, 78] (by rw [hn]; simp)
 have n3 := Dict.eqF name [66, 69, 71, 73, 78] (by rw [hn]; simp)
 have n4 := Dict.eqF name [87, 72, 73, 76, 69] (by rw [hn]; simp)
 have n5 := Dict.eqF name [82, 69, 80, 69, 65, 84] (by rw [hn]; simp)
 have n6 := Dict.eqF name [85, 78, 84, 73, 76] (by rw [hn]; simp)
 have n7 := Dict.eqF name [65, 71, 65, 73, 78] (by rw [hn]; simp)
 have n8 := Dict.eqF name [68, 79] (by rw [hn]; simp)
 have n9 := Dict.eqT name [63, 68, 79] (by rw [hn])
 have n10 := Dict.eqF name [76, 79, 79, 80] (by rw [hn]; simp)
 have n11 := Dict.eqF name [43, 76, 79, 79, 80] (by rw [hn]; simp)
 have n12 := Dict.eqF name [76, 69, 65, 86, 69] (by rw [hn]; simp)
 have e0 : (((l.map encCf).length : Nat) : Int) = l.length := by rw [List.length_map]
 have c1 := ref_last_c l 0 hl (by omega)
 have c2 := ref_last_c l 1 hl (by omega)
 rw [show pD (FitC 9 l) = pD (l.length < 32) from rfl]
 generalize lastK l 0 = x0 at *
 generalize lastK l 1 = x1 at *
 refine goF Tryz.func98 (closedL_cons (closedLCf l) (closedL_cons (.val _) closedL_nil)) (fun w0 st0 => ?_)
 dsimp only [frOf]
 (repeat' (first | refine goA ?_ | refine cX c1 ?_ | refine cX c2 ?_ | refine goB ?_ | fail))
 refine awp_ret ⟨_, ResL.cons (ResA.tmp (.val _)) .nil, congrArg (fun b => AV.val (.bool b)) ?_⟩
 rw [← dec_pD]
 exact decide_eq_decide.2 (by omega)
set_option maxHeartbeats 4000000 in
theorem may_10 (l : List Cfr) (name : Bs) (hn : name = [76, 79, 79, 80]) (hl : l.length ≤ 1000000) : FnC Tryz.prog 98 [encLCf l, St name] (.val (.bool (pD (FitC 10 l)))) := by
 have n0 := Dict.eqF name [73, 70] (by rw [hn]; simp)
 have n1 := Dict.eqF name [69, 76, 83, 69] (by rw [hn]; simp)
 have n2 := Dict.eqF name [84, 72, 69, 78] (by rw [hn]; simp)
 have n3 := Dict.eqF name [66, 69, 71, 73, 78] (by rw [hn]; simp)
 have n4 := Dict.eqF name [87, 72, 73, 76, 69] (by rw [hn]; simp)
 have n5 := Dict.eqF name [82, 69, 80, 69, 65, 84] (by rw [hn]; simp)
 have n6 := Dict.eqF name [85, 78, 84, 73, 76] (by rw [hn]; simp)
 have n7 := Dict.eqF name [65, 71, 65, 73, 78] (by rw [hn]; simp)
 have n8 := Dict.eqF name [68, 79] (by rw [hn]; simp)
 have n9 := Dict.eqF name [63, 68, 79] (by rw [hn]; simp)
 have n10 := Dict.eqT name [76, 79, 79, 80] (by rw [hn])
 have n11 := Dict.eqF name [43, 76, 79, 79, 80] (by rw [hn]; simp)
 have n12 := Dict.eqF name [76, 69, 65, 86, 69] (by rw [hn]; simp)
 have e0 : (((l.map encCf).length : Nat) : Int) = l.length := by rw [List.length_map]
 have c1 := ref_last_c l 0 hl (by omega)
 have c2 := ref_last_c l 1 hl (by omega)
 rw [show pD (FitC 10 l) = pD (lastK l 0 = 3) from rfl]
 generalize lastK l 0 = x0 at *
 generalize lastK l 1 = x1 at *
 refine goF Tryz.func98 (closedL_cons (closedLCf l) (closedL_cons (.val _) closedL_nil)) (fun w0 st0 => ?_)
 dsimp only [frOf]
 (repeat' (first | refine goA ?_ | refine cX c1 ?_ | refine cX c2 ?_ | refine goB ?_ | fail))
 refine awp_ret ⟨_, ResL.cons (ResA.tmp (.val _)) .nil, congrArg (fun b => AV.val (.bool b)) ?_⟩
 exact (beq_pDI _ _).symm
set_option maxHeartbeats 4000000 in
theorem may_11 (l : List Cfr) (name : Bs) (hn : name = [43, 76, 79, 79, 80]) (hl : l.length ≤ 1000000) : FnC Tryz.prog 98 [encLCf l, St name] (.val (.bool (pD (FitC 11 l)))) := by
 have n0 := Dict.eqF name [73, 70] (by rw [hn]; simp)
 have n1 := Dict.eqF name [69, 76, 83, 69] (by rw [hn]; simp)
 have n2 := Dict.eqF name [84, 72, 69, 78] (by rw [hn]; simp)
 have n3 := Dict.eqF name [66, 69, 71, 73, 78] (by rw [hn]; simp)
 have n4 := Dict.eqF name [87, 72, 73, 76, 69] (by rw [hn]; simp)
 have n5 := Dict.eqF name [82, 69, 80, 69, 65, 84] (by rw [hn]; simp)
 have n6 := Dict.eqF name [85, 78, 84, 73, 76] (by rw [hn]; simp)
 have n7 := Dict.eqF name [65, 71, 65, 73, 78] (by rw [hn]; simp)
 have n8 := Dict.eqF name [68, 79] (by rw [hn]; simp)
 have n9 := Dict.eqF name [63, 68, 79] (by rw [hn]; simp)
 have n10 := Dict.eqF name [76, 79, 79, 80] (by rw [hn]; simp)
 have n11 := Dict.eqT name [43, 76, 79, 79, 80] (by rw [hn])
 have n12 := Dict.eqF name [76, 69, 65, 86, 69] (by rw [hn]; simp)
 have e0 : (((l.map encCf).length : Nat) : Int) = l.length := by rw [List.length_map]
 have c1 := ref_last_c l 0 hl (by omega)
 have c2 := ref_last_c l 1 hl (by omega)
 rw [show pD (FitC 11 l) = pD (lastK l 0 = 3) from rfl]
 generalize lastK l 0 = x0 at *
 generalize lastK l 1 = x1 at *
 refine goF Tryz.func98 (closedL_cons (closedLCf l) (closedL_cons (.val _) closedL_nil)) (fun w0 st0 => ?_)
 dsimp only [frOf]
 (repeat' (first | refine goA ?_ | refine cX c1 ?_ | refine cX c2 ?_ | refine goB ?_ | fail))
 refine awp_ret ⟨_, ResL.cons (ResA.tmp (.val _)) .nil, congrArg (fun b => AV.val (.bool b)) ?_⟩
 exact (beq_pDI _ _).symm
set_option maxHeartbeats 4000000 in
theorem may_12 (l : List Cfr) (name : Bs) (hn : name = [76, 69, 65, 86, 69]) (hl : l.length ≤ 1000000) : FnC Tryz.prog 98 [encLCf l, St name] (.val (.bool (pD (FitC 12 l)))) := by
 have n0 := Dict.eqF name [73, 70] (by rw [hn]; simp)
 have n1 := Dict.eqF name [69, 76, 83, 69] (by rw [hn]; simp)
 have n2 := Dict.eqF name [84, 72, 69, 78] (by rw [hn]; simp)
 have n3 := Dict.eqF name [66, 69, 71, 73, 78] (by rw [hn]; simp)
 have n4 := Dict.eqF name [87, 72, 73, 76, 69] (by rw [hn]; simp)
 have n5 := Dict.eqF name [82, 69, 80, 69, 65, 84] (by rw [hn]; simp)
 have n6 := Dict.eqF name [85, 78, 84, 73, 76] (by rw [hn]; simp)
 have n7 := Dict.eqF name [65, 71, 65, 73, 78] (by rw [hn]; simp)
 have n8 := Dict.eqF name [68, 79] (by rw [hn]; simp)
 have n9 := Dict.eqF name [63, 68, 79] (by rw [hn]; simp)
 have n10 := Dict.eqF name [76, 79, 79, 80] (by rw [hn]; simp)
 have n11 := Dict.eqF name [43, 76, 79, 79, 80] (by rw [hn]; simp)
 have n12 := Dict.eqT name [76, 69, 65, 86, 69] (by rw [hn])
 have e0 : (((l.map encCf).length : Nat) : Int) = l.length := by rw [List.length_map]
 have c1 := ref_last_c l 0 hl (by omega)
 have c2 := ref_last_c l 1 hl (by omega)
 have c3 := ref_loop_c l hl
 have hm := loopFrom_mem (l := l) (n := l.length)
 rw [show loopFrom l l.length = loopAt l from rfl] at hm
 rw [show pD (FitC 12 l) = pD (0 ≤ loopAt l ∧ leavesAt l (loopAt l) < 32) from rfl]
 generalize lastK l 0 = x0 at *
 generalize lastK l 1 = x1 at *
 by_cases h : 0 ≤ loopAt l
 case neg =>
  have d : decide (0 ≤ loopAt l) = false := decide_eq_false h
  rw [pD_no (fun h2 => h h2.1)]
  generalize loopAt l = y at *
  refine goF Tryz.func98 (closedL_cons (closedLCf l) (closedL_cons (.val _) closedL_nil)) (fun w0 st0 => ?_)
  dsimp only [frOf]
  (repeat' (first | refine goA ?_ | refine cX c1 ?_ | refine cX c2 ?_ | refine cX c3 ?_ | refine goB ?_ | fail))
  refine awp_ret ⟨_, ResL.cons (ResA.tmp (.val _)) .nil, congrArg (fun b => AV.val (.bool b)) ?_⟩
  rfl
 obtain ⟨k, c, hp, hk, hA⟩ := hm h
 rw [hA] at c3 ⊢
 have d : decide ((0 : Int) ≤ ((k : Nat) : Int)) = true := decide_eq_true (by omega)
 have e1 : (((c.lv.map encI).length : Nat) : Int) = c.lv.length := by rw [List.length_map]
 rw [show pD ((0 : Int) ≤ ((k : Nat) : Int) ∧ leavesAt l ((k : Nat) : Int) < 32) = pD (c.lv.length < 32) from pD_congr (by
  unfold leavesAt
  rw [Int.toNat_natCast, hp]
  exact ⟨fun h2 => h2.2, fun h2 => ⟨by omega, h2⟩⟩)]
 refine goF Tryz.func98 (closedL_cons (closedLCf l) (closedL_cons (.val _) closedL_nil)) (fun w0 st0 => ?_)
 dsimp only [frOf]
 (repeat' (first | refine goA ?_ | refine cX c1 ?_ | refine cX c2 ?_ | refine cX c3 ?_ | refine ARun.indexAddr rfl rfl (by omega) (by first | with_reducible exact get_map hp | with_reducible exact get_map hp) rfl rfl rfl rfl rfl (guardF_spec rfl) ?_ | refine goB ?_ | fail))
 refine awp_ret ⟨_, ResL.cons (ResA.tmp (.val _)) .nil, congrArg (fun b => AV.val (.bool b)) ?_⟩
 rw [← dec_pD]
 exact decide_eq_decide.2 (by omega)
end Go.Proofs.YtfphgelollhdhaaGreat
namespace Go.Proofs.YtfphgelollhdhaaGreat
open Go Go.RowKit
open Go.Proofs.YtfphgelollhdhaaGreat.Dict (St Bs bs_eq encWs closed_ws)
open Go.Proofs.YtfphgelollhdhaaGreat.Mem (Mm encM encBs closed_bs encP encP_closed closed_m storeD fetchD commaD)
open Go.Proofs.YtfphgelollhdhaaGreat.Stk (encS closed_s encI_closed)
set_option maxRecDepth 100000
theorem Wk.reif {s : AS} {x y : AV} (h : Wk x y) : Closed x → Reif s x y := by
 induction h with
 | same v => exact fun h => .closed _ h
 | nil sz sz' full => exact fun _ => .nil sz sz' full
 | weak sz full els =>
  intro h
  cases full with
  | false => exact .closed _ h
  | true => exact .weak h
 | agg hl hr ih =>
  intro h
  refine .agg hl (fun i x x' h1 h2 => ih i x x' h1 h2 ?_)
  cases h with
  | agg h => exact h x (List.mem_of_getElem? h1)
def planD (i : Nat) (v : V) (l : List Cfr) : List Int × List Int × List Cfr := match i with
 | 0 => ([xtD nZb, 0], [], l.take (l.length - 0) ++ [⟨1, v.here + 8, []⟩])
 | 1 => ([xtD nBr, 0], [(lastC l).at'], l.take (l.length - 1) ++ [⟨1, v.here + 8, []⟩])
 | 2 => ([], [(lastC l).at'], l.take (l.length - 1) ++ [])
 | 3 => ([], [], l.take (l.length - 0) ++ [⟨2, v.here, []⟩])
 | 4 => ([xtD nZb, 0], [], l.take (l.length - 1) ++ [⟨1, v.here + 8, []⟩, lastC l])
 | 5 => ([xtD nBr, (lastC l).at'], [(l[l.length - 2]?.getD cf0).at'], l.take (l.length - 2) ++ [])
 | 6 => ([xtD nZb, (lastC l).at'], [], l.take (l.length - 1) ++ [])
 | 7 => ([xtD nBr, (lastC l).at'], [], l.take (l.length - 1) ++ [])
 | 8 => ([xtD nDo], [], l.take (l.length - 0) ++ [⟨3, v.here + 8, []⟩])
 | 9 => ([xtD nQdo, 0], [], l.take (l.length - 0) ++ [⟨3, v.here + 16, [v.here + 8]⟩])
 | 10 => ([xtD nLp, (lastC l).at'], (lastC l).lv, l.take (l.length - 1) ++ [])
 | 11 => ([xtD nPl, (lastC l).at'], (lastC l).lv, l.take (l.length - 1) ++ [])
 | _ => ([xtD nUn, xtD nBr, 0], [], addLv l (loopAt l).toNat (v.here + 16))
def refK (pl : List Int × List Int × List Cfr) (v : V) : Kw := heresD (cellsK v pl.1) pl.2.1
def refBrD (pl : List Int × List Int × List Cfr) (v : V) (l : List Cfr) : V × List Cfr × Int := if (refK pl v).bad = 0 then ((refK pl v).v, pl.2.2, 0) else (v, l, (refK pl v).bad)
theorem cellsK_l (v : V) (l : List Int) : (cellsK v l).l = [] := by
 have h : ∀ (l : List Int) (w : Kw), (l.foldl cellD w).l = w.l := fun l => by
  induction l with
  | nil => exact fun w => rfl
  | cons a l ih => exact fun w => (ih (cellD w a)).trans (cellD_l w a)
 exact h l (wk0 v)
theorem cellsK_ok {v : V} {l : List Int} (h : (cellsK v l).bad = 0) : cellsK v l = wk0 (cellsK v l).v := by
 have hl := cellsK_l v l
 generalize cellsK v l = w at *
 cases w
 simp only at h hl
 rw [h, hl]
 rfl
theorem lastC_snoc (L : List Cfr) (c : Cfr) : lastC (L ++ [c]) = c := by simp [lastC]
theorem lastK_0 {l : List Cfr} (h : lastK l 0 ≠ 0) : ∃ L c, l = L ++ [c] ∧ c.kind = lastK l 0 := by
 rcases List.eq_nil_or_concat l with e | ⟨L, c, e⟩
 ·subst e
  exact absurd rfl h
 ·rw [List.concat_eq_append] at e
  exact ⟨L, c, e, by subst e; simp [lastK]⟩
attribute [local irreducible] Decidable.decide awp ARun regK toK
theorem ref_with_raw (l : List Cfr) (k : Nat) (els : List (List AV)) (more : List Cfr) (hk : k ≤ l.length) (hl : l.length ≤ 100000) (hm : els.length ≤ 100000) (hne : els.length = more.length) (hcl : ∀ el x, el ∈ els → x ∈ el → Closed x)
  (hlen : ∀ (i : Nat) (el : List AV), els[i]? = some el → el.length = 3) (hel : ∀ (i : Nat) (el : List AV) (c : Cfr) (f : Nat) (x x' : AV), els[i]? = some el → more[i]? = some c → el[f]? = some x → (encCf c)[f]? = some x' → Wk x x') :
  FnC Tryz.prog 99 [encLCf l, .val (.int .i64 (k : Nat)), .sl 3 true els] (encLCf (l.take (l.length - k) ++ more)) := by
 have e0 : (((l.map encCf).length : Nat) : Int) = l.length := by rw [List.length_map]
 have e1 : ((((l.take (l.length - k)).map encCf).length : Nat) : Int) = l.length - k := by rw [List.length_map, List.length_take]; omega
 have he : l.map encCf = (l.take (l.length - k)).map encCf ++ (l.drop (l.length - k)).map encCf := by rw [← List.map_append, List.take_append_drop]
 generalize l.take (l.length - k) = L at *
 refine goF Tryz.func99 (closedL_cons (closedLCf l) (closedL_cons (.val _) (closedL_cons (.sl hcl) closedL_nil))) (fun w0 st0 => ?_)
 dsimp only [frOf]
 (repeat' (first | refine goA ?_ | refine ARun.sliceTo rfl he rfl lensT rfl rfl rfl rfl rfl (guardF_spec rfl) ?_ | refine appF rfl ?_ | refine appO rfl ?_ | refine goB ?_ | fail))
 refine awp_ret ⟨_, ResL.cons (ResA.tmp (Reif.own (els' := (L ++ more).map encCf) rfl rfl (by simp) ?_ ?_ ?_)) .nil, rfl⟩
 ·simp [hne]
 ·intro i el el' h1 h2
  rw [List.getElem?_map] at h2
  obtain ⟨c, hc, rfl⟩ := Option.map_eq_some_iff.1 h2
  simp only [List.nil_append, Nat.zero_add] at h1
  by_cases hi : i < L.length
  ·rw [List.getElem?_append_left (by simpa using hi), List.getElem?_map] at h1
   obtain ⟨c', _, rfl⟩ := Option.map_eq_some_iff.1 h1
   rfl
  ·rw [List.getElem?_append_right (by simpa using Nat.le_of_not_lt hi)] at h1
   rw [hlen _ _ h1]
   rfl
 ·intro i el el' f x x' h1 h2 h3 h4
  rw [List.getElem?_map] at h2
  obtain ⟨c, hc, rfl⟩ := Option.map_eq_some_iff.1 h2
  simp only [List.nil_append, Nat.zero_add] at h1
  by_cases hi : i < L.length
  ·rw [List.getElem?_append_left (by simpa using hi), List.getElem?_map] at h1
   rw [List.getElem?_append_left hi] at hc
   rw [hc] at h1
   obtain rfl := Option.some.inj h1
   rw [h3] at h4
   obtain rfl := Option.some.inj h4
   exact .closed _ (encCf_closed c _ (List.mem_of_getElem? h3))
  ·rw [List.getElem?_append_right (by simpa using Nat.le_of_not_lt hi), List.length_map] at h1
   rw [List.getElem?_append_right (Nat.le_of_not_lt hi)] at hc
   exact (hel _ _ c f x x' h1 hc h3 h4).reif (hcl el x (List.mem_of_getElem? h1) (List.mem_of_getElem? h3))
theorem one_wk {el : List AV} {c : Cfr} {a b d : AV} (e : el = [a, b, d]) (h1 : Wk a (.val (.int .i64 c.kind))) (h2 : Wk b (.val (.int .i64 c.at'))) (h3 : Wk d (encS c.lv)) : ∀ (f : Nat) (x x' : AV), el[f]? = some x → (encCf c)[f]? = some x' → Wk x x' := by
 subst e
 intro f x x' hx hx'
 match f with
 | 0 =>
  obtain rfl := Option.some.inj hx
  obtain rfl := Option.some.inj hx'
  exact h1
 | 1 =>
  obtain rfl := Option.some.inj hx
  obtain rfl := Option.some.inj hx'
  exact h2
 | 2 =>
  obtain rfl := Option.some.inj hx
  obtain rfl := Option.some.inj hx'
  exact h3
 | n + 3 => cases hx
theorem ref_with_1 (l : List Cfr) (k : Nat) (c : Cfr) (d : AV) (hk : k ≤ l.length) (hl : l.length ≤ 100000) (hd : Wk d (encS c.lv)) (hc : Closed d) : FnC Tryz.prog 99 [encLCf l, .val (.int .i64 (k : Nat)), .sl 3 true [[.val (.int .i64 c.kind), .val (.int .i64 c.at'), d]]] (encLCf (l.take (l.length - k) ++ [c])) :=
 ref_with_raw l k _ [c] hk hl (by simp) rfl (fun el x h1 h2 => by
  obtain rfl := List.mem_singleton.1 h1
  exact closedL_cons (.val _) (closedL_cons (.val _) (closedL_cons hc closedL_nil)) x h2) (fun i el h => by
  match i with
  | 0 => obtain rfl := Option.some.inj h; rfl
  | n + 1 => cases h) (fun i el c' f x x' h1 h2 h3 h4 => by
  match i with
  | 0 =>
   obtain rfl := Option.some.inj h1
   obtain rfl := Option.some.inj h2
   exact one_wk rfl (.same _) (.same _) hd f x x' h3 h4
  | n + 1 => cases h1)
theorem ref_with_2 (l : List Cfr) (k : Nat) (c e : Cfr) (d : AV) (hk : k ≤ l.length) (hl : l.length ≤ 100000) (hd : Wk d (encS c.lv)) (hc : Closed d) : FnC Tryz.prog 99 [encLCf l, .val (.int .i64 (k : Nat)), .sl 3 true [[.val (.int .i64 c.kind), .val (.int .i64 c.at'), d], encCf e]] (encLCf (l.take (l.length - k) ++ [c, e])) :=
 ref_with_raw l k _ [c, e] hk hl (by simp) rfl (fun el x h1 h2 => by
  rcases List.mem_cons.1 h1 with rfl | h1
  ·exact closedL_cons (.val _) (closedL_cons (.val _) (closedL_cons hc closedL_nil)) x h2
  ·obtain rfl := List.mem_singleton.1 h1
   exact encCf_closed e x h2) (fun i el h => by
  match i with
  | 0 => obtain rfl := Option.some.inj h; rfl
  | 1 => obtain rfl := Option.some.inj h; rfl
  | n + 2 => cases h) (fun i el c' f x x' h1 h2 h3 h4 => by
  match i with
  | 0 =>
   obtain rfl := Option.some.inj h1
   obtain rfl := Option.some.inj h2
   exact one_wk rfl (.same _) (.same _) hd f x x' h3 h4
  | 1 =>
   obtain rfl := Option.some.inj h1
   obtain rfl := Option.some.inj h2
   exact one_wk rfl (.same _) (.same _) (.same _) f x x' h3 h4
  | n + 2 => cases h1)
end Go.Proofs.YtfphgelollhdhaaGreat
namespace Go.Proofs.YtfphgelollhdhaaGreat
open Go Go.RowKit
open Go.Proofs.YtfphgelollhdhaaGreat.Dict (St Bs bs_eq encWs closed_ws)
open Go.Proofs.YtfphgelollhdhaaGreat.Mem (Mm encM encBs closed_bs encP encP_closed closed_m storeD fetchD commaD)
open Go.Proofs.YtfphgelollhdhaaGreat.Stk (encS closed_s encI_closed)
set_option maxRecDepth 100000
attribute [local irreducible] Decidable.decide awp ARun regK toK
set_option maxHeartbeats 4000000 in
theorem ref_bracket_no0 (v : V) (l : List Cfr) (name : Bs) (hm : FnC Tryz.prog 98 [encLCf l, St name] (.val (.bool false))) : FnC Tryz.prog 67 [.agg (encV v), encLCf l, St name] (encVLE (v, l, -22)) := by
 unfold encVLE
 refine goF Tryz.func67 (closedL_cons (closedV v) (closedL_cons (closedLCf l) (closedL_cons (.val _) closedL_nil))) (fun w0 st0 => ?_)
 dsimp only [frOf]
 (repeat' (first | refine goA ?_ | refine cX hm ?_ | refine goB ?_ | fail))
 exact awp_ret ⟨_, ResL.cons (ResA.agg rfl rfl rfl rfl rfl rfl rfl (RL.allClosed (encV_closed _))) (ResL.cons (ResA.tmp (.closed _ (closedLCf _))) (ResL.cons (ResA.tmp (.val _)) .nil)), rfl⟩
set_option maxHeartbeats 40000000 in
theorem ref_bracket_yes0 (i : Nat) (hi0 : 0 ≤ i) (hi : i < 4) (v : V) (l : List Cfr) (name : Bs) (hn0 : nmC[i]? = some name) (hf : FitC i l) (hm : FnC Tryz.prog 98 [encLCf l, St name] (.val (.bool true))) (h : Okk v 100) (hl : l.length ≤ 1000) (hv : ∀ c, c ∈ l → c.lv.length ≤ 60) : FnC Tryz.prog 67 [.agg (encV v), encLCf l, St name] (encVLE (refBrD (planD i v l) v l)) := by
 have e0 : (((l.map encCf).length : Nat) : Int) = l.length := by rw [List.length_map]
 have hpl : (planD i v l).1.length ≤ 10 ∧ (planD i v l).2.1.length ≤ 60 := by
  have h3 : (lastC l).lv.length ≤ 60 := by
   rcases List.eq_nil_or_concat l with e | ⟨L, c, e⟩
   ·subst e; simp [lastC, cf0]
   ·rw [List.concat_eq_append] at e
    subst e
    rw [lastC_snoc]
    exact hv c (by simp)
  unfold planD
  split <;> exact ⟨by simp, by first | exact h3 | simp⟩
 have c5 := ref_cells_c v (planD i v l).1 (by omega) (h.le (by omega))
 have o5 : Okk (cellsK v (planD i v l).1).v 60 := cells_okk (w := wk0 v) (k := 60) _ (h.le (by omega))
 have c6 := ref_stored_c (cellsK v (planD i v l).1).v (planD i v l).2.1 (by omega) (o5.le (by omega))
 refine goF Tryz.func67 (closedL_cons (closedV v) (closedL_cons (closedLCf l) (closedL_cons (.val _) closedL_nil))) (fun w0 st0 => ?_)
 dsimp only [frOf]
 (repeat' (first | refine goA ?_ | refine cX hm ?_ | refine goB ?_ | fail))
 refine awp_cut (T := List AV × Nat) (fun t => ⟨[(1, encLCf l), (2, St name), (3, .ptr 3 0 0 0), (6, .ptr 6 1 0 0), (10, .ptr 10 11 0 0)], [(3, some ⟨0, 23, [encV v]⟩), (6, some ⟨1, 23, [[.val (.int .i64 0), .val (.int .i64 0), .val (.int .i64 0), .val (.int .i64 0), .val (.int .i64 0), .sl 0 true [], .sl 0 true [], .val (.int .i64 0), .sl 0 true [], .sl 0 true [], .sl 0 true [], .sl 0 true [], .val (.int .i64 0), .sl 0 true [], .sl 0 true [], .val (.bool false), .sl 0 true [], .val (.int .i64 0), .val (.int .i64 0), .val (.int .i64 0), .val (.int .i64 0), .val (.int .i64 0), .sl 0 true []]]⟩), (10, some ⟨11, 3, [t.1]⟩)], t.2⟩) (fun t => l ≠ [] → t.1 = encCf (lastC l)) ?_ (fun t1 ht1 => ?_)
 ·rcases List.eq_nil_or_concat l with e | ⟨L, c, e⟩
  ·subst e
   have d : decide ((0 : Int) < (((([] : List Cfr).map encCf).length : Nat) : Int)) = false := decide_eq_false (by simp)
   (repeat' (first | refine goA ?_ | refine goB ?_ | fail))
   exact ⟨(_, _), ⟨⟨rfl, rfl, rfl, rfl, rfl, trivial⟩, ⟨rfl, rfl, rfl, trivial⟩, Nat.le_refl _⟩, fun h => absurd rfl h⟩
  ·rw [List.concat_eq_append] at e
   have el : l.length = L.length + 1 := by rw [e]; simp
   have d : decide ((0 : Int) < (((l.map encCf).length : Nat) : Int)) = true := decide_eq_true (by omega)
   have hp : (l.map encCf)[((((l.map encCf).length : Nat) : Int) - 1).toNat]? = some (encCf c) := by
    rw [e0, el, List.getElem?_map, show (((L.length + 1 : Nat) : Int) - 1).toNat = L.length by omega, e]
    simp
   (repeat' (first | refine goA ?_ | refine ARun.indexAddr rfl rfl (by omega) (by with_reducible exact hp) rfl rfl rfl rfl rfl (guardF_spec rfl) ?_ | refine goB ?_ | fail))
   exact ⟨(_, _), ⟨⟨rfl, rfl, rfl, rfl, rfl, trivial⟩, ⟨rfl, rfl, rfl, trivial⟩, Nat.le_refl _⟩, fun h => by dsimp only; rw [e, lastC_snoc]; rfl⟩
 obtain ⟨top, gc1⟩ := t1
 dsimp only at ht1 ⊢
 (repeat' (first | refine goN ?_ | refine awp_region_ne 10 rfl (fun _ => hmix) ?_ | refine ARun.o rfl ?_ | refine goB ?_ | ((fail_if_success refine ARun.plain rfl ?_); refine ARun.fork rfl rfl rfl (fun h => ?_) (fun h => ?_)) | refine awp_cond rfl (fun h => ?_) (fun h => ?_)))
 (refine awp_region (fun _ => hmix) ?_; (repeat' (first | refine ARun.op rfl (by first | exact True.intro | exact rfl | (unfold inR; omega) | omega | ((try unfold inR); simp only [decide_eq_true_eq, decide_eq_false_iff_not, beq_iff_eq, beq_eq_false_iff_ne, ne_eq, Bool.not_eq_true', Bool.not_eq_false', List.length_map, List.length_append, List.length_take, List.length_drop, List.length_replicate, List.length_cons, List.length_nil] at *; omega)) ?_ | ((fail_if_success refine ARun.plain rfl ?_); first | refine ARun.fork rfl rfl rfl (fun h => ?_) (fun h => ?_) | refine ARun.forkT rfl rfl rfl (fun h => ?_) (fun h => ?_)))); all_goals (refine ARun.fin (by first | (intro h; cases h; done) | (intro _; kernel_rfl)) ?_; dsimp only [thenA, blockA, AS.bump, List.length_cons, List.length_nil, reduceIte, Nat.reduceEqDiff]))
 refine awp_cut (T := (Nat × Bool × List (List AV)) × (Nat × Bool × List (List AV)) × Nat) (fun t => ⟨[(1, encLCf l), (3, .ptr 3 0 0 0), (6, .ptr 6 1 0 0), (11, .sl t.1.1 t.1.2.1 t.1.2.2), (12, .sl t.2.1.1 t.2.1.2.1 t.2.1.2.2), (13, encLCf (planD i v l).2.2)], [(3, some ⟨0, 23, [encV v]⟩), (6, some ⟨1, 23, [[.val (.int .i64 0), .val (.int .i64 0), .val (.int .i64 0), .val (.int .i64 0), .val (.int .i64 0), .sl 0 true [], .sl 0 true [], .val (.int .i64 0), .sl 0 true [], .sl 0 true [], .sl 0 true [], .sl 0 true [], .val (.int .i64 0), .sl 0 true [], .sl 0 true [], .val (.bool false), .sl 0 true [], .val (.int .i64 0), .val (.int .i64 0), .val (.int .i64 0), .val (.int .i64 0), .val (.int .i64 0), .sl 0 true []]]⟩)], t.2.2⟩) (fun t => Wk (.sl t.1.1 t.1.2.1 t.1.2.2) (encS (planD i v l).1) ∧ Wk (.sl t.2.1.1 t.2.1.2.1 t.2.1.2.2) (encS (planD i v l).2.1)) ?_ (fun t2 ht2 => ?_)
 ·clear c5 c6 o5 hpl hm
  have hb0 := h.h0
  have hb1 : v.here ≤ 1000000 := by have := h.h1; have := h.b; omega
  clear h hv
  have x1 := ref_xt_c nZb
  have x2 := ref_xt_c nBr
  have x3 := ref_xt_c nDo
  have x4 := ref_xt_c nQdo
  have x5 := ref_xt_c nLp
  have x6 := ref_xt_c nPl
  by_cases i0 : i = 0
  case pos =>
   subst i0
   have hn : name = [73, 70] := (Option.some.inj hn0).symm
   have n0 := Dict.eqT name [73, 70] (by rw [hn])
   have n1 := Dict.eqF name [69, 76, 83, 69] (by rw [hn]; simp)
   have n2 := Dict.eqF name [84, 72, 69, 78] (by rw [hn]; simp)
   have n3 := Dict.eqF name [66, 69, 71, 73, 78] (by rw [hn]; simp)
   have n4 := Dict.eqF name [87, 72, 73, 76, 69] (by rw [hn]; simp)
   have n5 := Dict.eqF name [82, 69, 80, 69, 65, 84] (by rw [hn]; simp)
   have n6 := Dict.eqF name [85, 78, 84, 73, 76] (by rw [hn]; simp)
   have n7 := Dict.eqF name [65, 71, 65, 73, 78] (by rw [hn]; simp)
   have n8 := Dict.eqF name [68, 79] (by rw [hn]; simp)
   have n9 := Dict.eqF name [63, 68, 79] (by rw [hn]; simp)
   have n10 := Dict.eqF name [76, 79, 79, 80] (by rw [hn]; simp)
   have n11 := Dict.eqF name [43, 76, 79, 79, 80] (by rw [hn]; simp)
   have n12 := Dict.eqF name [76, 69, 65, 86, 69] (by rw [hn]; simp)
   have w1 := ref_with_1 l 0 ⟨1, v.here + 8, []⟩ (.sl 0 true []) (by omega) (by omega) (.nil _ _ _) (.sl (by simp))
   clear hf hn hn0
   (repeat' (first | refine goA ?_ | refine cX x1 ?_ | refine cX x2 ?_ | refine cX x3 ?_ | refine cX x4 ?_ | refine cX x5 ?_ | refine cX x6 ?_ | refine cX w1 ?_ | refine goB ?_ | fail))
   exact ⟨((_, _, _), (_, _, _), _), ⟨⟨rfl, rfl, rfl, rfl, rfl, rfl, trivial⟩, ⟨rfl, rfl, trivial⟩, Nat.le_refl _⟩, ⟨by first | exact .same _ | exact .nil _ _ _ | exact .weak _ _ _, by first | exact .same _ | exact .nil _ _ _ | exact .weak _ _ _⟩⟩
  by_cases i1 : i = 1
  case pos =>
   subst i1
   have hn : name = [69, 76, 83, 69] := (Option.some.inj hn0).symm
   have n0 := Dict.eqF name [73, 70] (by rw [hn]; simp)
   have n1 := Dict.eqT name [69, 76, 83, 69] (by rw [hn])
   have n2 := Dict.eqF name [84, 72, 69, 78] (by rw [hn]; simp)
   have n3 := Dict.eqF name [66, 69, 71, 73, 78] (by rw [hn]; simp)
   have n4 := Dict.eqF name [87, 72, 73, 76, 69] (by rw [hn]; simp)
   have n5 := Dict.eqF name [82, 69, 80, 69, 65, 84] (by rw [hn]; simp)
   have n6 := Dict.eqF name [85, 78, 84, 73, 76] (by rw [hn]; simp)
   have n7 := Dict.eqF name [65, 71, 65, 73, 78] (by rw [hn]; simp)
   have n8 := Dict.eqF name [68, 79] (by rw [hn]; simp)
   have n9 := Dict.eqF name [63, 68, 79] (by rw [hn]; simp)
   have n10 := Dict.eqF name [76, 79, 79, 80] (by rw [hn]; simp)
   have n11 := Dict.eqF name [43, 76, 79, 79, 80] (by rw [hn]; simp)
   have n12 := Dict.eqF name [76, 69, 65, 86, 69] (by rw [hn]; simp)
   have hq : lastK l 0 = 1 := hf
   obtain ⟨L, c, e, hk⟩ := lastK_0 (l := l) (by rw [hq]; decide)
   have hne : l ≠ [] := by rw [e]; simp
   rw [ht1 hne]
   have hlen1 : 1 ≤ l.length := by rw [e]; simp
   clear ht1 hq hk hne
   have w1 := ref_with_1 l 1 ⟨1, v.here + 8, []⟩ (.sl 0 true []) (by omega) (by omega) (.nil _ _ _) (.sl (by simp))
   clear hf hn hn0
   (repeat' (first | refine goA ?_ | refine cX x1 ?_ | refine cX x2 ?_ | refine cX x3 ?_ | refine cX x4 ?_ | refine cX x5 ?_ | refine cX x6 ?_ | refine cX w1 ?_ | refine goB ?_ | fail))
   exact ⟨((_, _, _), (_, _, _), _), ⟨⟨rfl, rfl, rfl, rfl, rfl, rfl, trivial⟩, ⟨rfl, rfl, trivial⟩, Nat.le_refl _⟩, ⟨by first | exact .same _ | exact .nil _ _ _ | exact .weak _ _ _, by first | exact .same _ | exact .nil _ _ _ | exact .weak _ _ _⟩⟩
  by_cases i2 : i = 2
  case pos =>
   subst i2
   have hn : name = [84, 72, 69, 78] := (Option.some.inj hn0).symm
   have n0 := Dict.eqF name [73, 70] (by rw [hn]; simp)
   have n1 := Dict.eqF name [69, 76, 83, 69] (by rw [hn]; simp)
   have n2 := Dict.eqT name [84, 72, 69, 78] (by rw [hn])
   have n3 := Dict.eqF name [66, 69, 71, 73, 78] (by rw [hn]; simp)
   have n4 := Dict.eqF name [87, 72, 73, 76, 69] (by rw [hn]; simp)
   have n5 := Dict.eqF name [82, 69, 80, 69, 65, 84] (by rw [hn]; simp)
   have n6 := Dict.eqF name [85, 78, 84, 73, 76] (by rw [hn]; simp)
   have n7 := Dict.eqF name [65, 71, 65, 73, 78] (by rw [hn]; simp)
   have n8 := Dict.eqF name [68, 79] (by rw [hn]; simp)
   have n9 := Dict.eqF name [63, 68, 79] (by rw [hn]; simp)
   have n10 := Dict.eqF name [76, 79, 79, 80] (by rw [hn]; simp)
   have n11 := Dict.eqF name [43, 76, 79, 79, 80] (by rw [hn]; simp)
   have n12 := Dict.eqF name [76, 69, 65, 86, 69] (by rw [hn]; simp)
   have hq : lastK l 0 = 1 := hf
   obtain ⟨L, c, e, hk⟩ := lastK_0 (l := l) (by rw [hq]; decide)
   have hne : l ≠ [] := by rw [e]; simp
   rw [ht1 hne]
   have hlen1 : 1 ≤ l.length := by rw [e]; simp
   clear ht1 hq hk hne
   have w1 := ref_with_c l 1 [] (by omega) (by omega) (by simp)
   clear hf hn hn0
   (repeat' (first | refine goA ?_ | refine cX x1 ?_ | refine cX x2 ?_ | refine cX x3 ?_ | refine cX x4 ?_ | refine cX x5 ?_ | refine cX x6 ?_ | refine callW (w1) rfl wkT rfl rfl ?_ | refine goB ?_ | fail))
   exact ⟨((_, _, _), (_, _, _), _), ⟨⟨rfl, rfl, rfl, rfl, rfl, rfl, trivial⟩, ⟨rfl, rfl, trivial⟩, Nat.le_refl _⟩, ⟨by first | exact .same _ | exact .nil _ _ _ | exact .weak _ _ _, by first | exact .same _ | exact .nil _ _ _ | exact .weak _ _ _⟩⟩
  by_cases i3 : i = 3
  case pos =>
   subst i3
   have hn : name = [66, 69, 71, 73, 78] := (Option.some.inj hn0).symm
   have n0 := Dict.eqF name [73, 70] (by rw [hn]; simp)
   have n1 := Dict.eqF name [69, 76, 83, 69] (by rw [hn]; simp)
   have n2 := Dict.eqF name [84, 72, 69, 78] (by rw [hn]; simp)
   have n3 := Dict.eqT name [66, 69, 71, 73, 78] (by rw [hn])
   have n4 := Dict.eqF name [87, 72, 73, 76, 69] (by rw [hn]; simp)
   have n5 := Dict.eqF name [82, 69, 80, 69, 65, 84] (by rw [hn]; simp)
   have n6 := Dict.eqF name [85, 78, 84, 73, 76] (by rw [hn]; simp)
   have n7 := Dict.eqF name [65, 71, 65, 73, 78] (by rw [hn]; simp)
   have n8 := Dict.eqF name [68, 79] (by rw [hn]; simp)
   have n9 := Dict.eqF name [63, 68, 79] (by rw [hn]; simp)
   have n10 := Dict.eqF name [76, 79, 79, 80] (by rw [hn]; simp)
   have n11 := Dict.eqF name [43, 76, 79, 79, 80] (by rw [hn]; simp)
   have n12 := Dict.eqF name [76, 69, 65, 86, 69] (by rw [hn]; simp)
   have w1 := ref_with_1 l 0 ⟨2, v.here, []⟩ (.sl 0 true []) (by omega) (by omega) (.nil _ _ _) (.sl (by simp))
   clear hf hn hn0
   (repeat' (first | refine goA ?_ | refine cX x1 ?_ | refine cX x2 ?_ | refine cX x3 ?_ | refine cX x4 ?_ | refine cX x5 ?_ | refine cX x6 ?_ | refine cX w1 ?_ | refine goB ?_ | fail))
   exact ⟨((_, _, _), (_, _, _), _), ⟨⟨rfl, rfl, rfl, rfl, rfl, rfl, trivial⟩, ⟨rfl, rfl, trivial⟩, Nat.le_refl _⟩, ⟨by first | exact .same _ | exact .nil _ _ _ | exact .weak _ _ _, by first | exact .same _ | exact .nil _ _ _ | exact .weak _ _ _⟩⟩
  omega
 obtain ⟨⟨sz1, fl1, el1⟩, ⟨sz2, fl2, el2⟩, gc2⟩ := t2
 dsimp only at ht2 ⊢
 unfold refBrD refK
 generalize planD i v l = pl at *
 by_cases b1 : (cellsK v pl.1).bad = 0
 case neg =>
  have d1 : ((cellsK v pl.1).bad != 0) = true := by simp [b1]
  rw [show outD (cellsK v pl.1) v = (v, (cellsK v pl.1).bad) from if_neg b1] at c5
  rw [heres_bad b1, if_neg b1]
  generalize cellsK v pl.1 = k1 at *
  unfold encVE at c5
  unfold encVLE
  (repeat' (first | refine goA ?_ | refine callW c5 rfl (WkL.cons (Wk.same _) (WkL.cons ht2.1 WkL.nil)) rfl rfl ?_ | refine goB ?_ | fail))
  exact awp_ret ⟨_, ResL.cons (ResA.agg rfl rfl rfl rfl rfl rfl rfl (RL.allClosed (encV_closed _))) (ResL.cons (ResA.tmp (.closed _ (closedLCf _))) (ResL.cons (ResA.tmp (.val _)) .nil)), rfl⟩
 have d1 : ((0 : Int) != 0) = false := by simp
 rw [show outD (cellsK v pl.1) v = ((cellsK v pl.1).v, 0) from if_pos b1] at c5
 rw [show heresD (cellsK v pl.1) pl.2.1 = storK (cellsK v pl.1).v pl.2.1 from congrArg (fun w => heresD w pl.2.1) (cellsK_ok b1)]
 generalize cellsK v pl.1 = k1 at *
 by_cases b2 : (storK k1.v pl.2.1).bad = 0
 case neg =>
  have d2 : ((storK k1.v pl.2.1).bad != 0) = true := by simp [b2]
  rw [if_neg b2]
  generalize storK k1.v pl.2.1 = k2 at *
  unfold encVE at c5 c6
  unfold encVLE
  (repeat' (first | refine goA ?_ | refine callW c5 rfl (WkL.cons (Wk.same _) (WkL.cons ht2.1 WkL.nil)) rfl rfl ?_ | refine callW c6 rfl (WkL.cons (Wk.same _) (WkL.cons ht2.2 WkL.nil)) rfl rfl ?_ | refine goB ?_ | fail))
  exact awp_ret ⟨_, ResL.cons (ResA.agg rfl rfl rfl rfl rfl rfl rfl (RL.allClosed (encV_closed _))) (ResL.cons (ResA.tmp (.closed _ (closedLCf _))) (ResL.cons (ResA.tmp (.val _)) .nil)), rfl⟩
 rw [if_pos b2]
 rw [b2] at c6
 generalize storK k1.v pl.2.1 = k2 at *
 unfold encVE at c5 c6
 unfold encVLE
 (repeat' (first | refine goA ?_ | refine callW c5 rfl (WkL.cons (Wk.same _) (WkL.cons ht2.1 WkL.nil)) rfl rfl ?_ | refine callW c6 rfl (WkL.cons (Wk.same _) (WkL.cons ht2.2 WkL.nil)) rfl rfl ?_ | refine goB ?_ | fail))
 exact awp_ret ⟨_, ResL.cons (ResA.agg rfl rfl rfl rfl rfl rfl rfl (RL.allClosed (encV_closed _))) (ResL.cons (ResA.tmp (.closed _ (closedLCf _))) (ResL.cons (ResA.tmp (.val _)) .nil)), rfl⟩
end Go.Proofs.YtfphgelollhdhaaGreat
namespace Go.Proofs.YtfphgelollhdhaaGreat
open Go Go.RowKit
open Go.Proofs.YtfphgelollhdhaaGreat.Dict (St Bs bs_eq encWs closed_ws)
open Go.Proofs.YtfphgelollhdhaaGreat.Mem (Mm encM encBs closed_bs encP encP_closed closed_m storeD fetchD commaD)
open Go.Proofs.YtfphgelollhdhaaGreat.Stk (encS closed_s encI_closed)
set_option maxRecDepth 100000
attribute [local irreducible] Decidable.decide awp ARun regK toK
set_option maxHeartbeats 40000000 in
theorem ref_bracket_yes4 (i : Nat) (hi0 : 4 ≤ i) (hi : i < 8) (v : V) (l : List Cfr) (name : Bs) (hn0 : nmC[i]? = some name) (hf : FitC i l) (hm : FnC Tryz.prog 98 [encLCf l, St name] (.val (.bool true))) (h : Okk v 100) (hl : l.length ≤ 1000) (hv : ∀ c, c ∈ l → c.lv.length ≤ 60) : FnC Tryz.prog 67 [.agg (encV v), encLCf l, St name] (encVLE (refBrD (planD i v l) v l)) := by
 have e0 : (((l.map encCf).length : Nat) : Int) = l.length := by rw [List.length_map]
 have hpl : (planD i v l).1.length ≤ 10 ∧ (planD i v l).2.1.length ≤ 60 := by
  have h3 : (lastC l).lv.length ≤ 60 := by
   rcases List.eq_nil_or_concat l with e | ⟨L, c, e⟩
   ·subst e; simp [lastC, cf0]
   ·rw [List.concat_eq_append] at e
    subst e
    rw [lastC_snoc]
    exact hv c (by simp)
  unfold planD
  split <;> exact ⟨by simp, by first | exact h3 | simp⟩
 have c5 := ref_cells_c v (planD i v l).1 (by omega) (h.le (by omega))
 have o5 : Okk (cellsK v (planD i v l).1).v 60 := cells_okk (w := wk0 v) (k := 60) _ (h.le (by omega))
 have c6 := ref_stored_c (cellsK v (planD i v l).1).v (planD i v l).2.1 (by omega) (o5.le (by omega))
 refine goF Tryz.func67 (closedL_cons (closedV v) (closedL_cons (closedLCf l) (closedL_cons (.val _) closedL_nil))) (fun w0 st0 => ?_)
 dsimp only [frOf]
 (repeat' (first | refine goA ?_ | refine cX hm ?_ | refine goB ?_ | fail))
 refine awp_cut (T := List AV × Nat) (fun t => ⟨[(1, encLCf l), (2, St name), (3, .ptr 3 0 0 0), (6, .ptr 6 1 0 0), (10, .ptr 10 11 0 0)], [(3, some ⟨0, 23, [encV v]⟩), (6, some ⟨1, 23, [[.val (.int .i64 0), .val (.int .i64 0), .val (.int .i64 0), .val (.int .i64 0), .val (.int .i64 0), .sl 0 true [], .sl 0 true [], .val (.int .i64 0), .sl 0 true [], .sl 0 true [], .sl 0 true [], .sl 0 true [], .val (.int .i64 0), .sl 0 true [], .sl 0 true [], .val (.bool false), .sl 0 true [], .val (.int .i64 0), .val (.int .i64 0), .val (.int .i64 0), .val (.int .i64 0), .val (.int .i64 0), .sl 0 true []]]⟩), (10, some ⟨11, 3, [t.1]⟩)], t.2⟩) (fun t => l ≠ [] → t.1 = encCf (lastC l)) ?_ (fun t1 ht1 => ?_)
 ·rcases List.eq_nil_or_concat l with e | ⟨L, c, e⟩
  ·subst e
   have d : decide ((0 : Int) < (((([] : List Cfr).map encCf).length : Nat) : Int)) = false := decide_eq_false (by simp)
   (repeat' (first | refine goA ?_ | refine goB ?_ | fail))
   exact ⟨(_, _), ⟨⟨rfl, rfl, rfl, rfl, rfl, trivial⟩, ⟨rfl, rfl, rfl, trivial⟩, Nat.le_refl _⟩, fun h => absurd rfl h⟩
  ·rw [List.concat_eq_append] at e
   have el : l.length = L.length + 1 := by rw [e]; simp
   have d : decide ((0 : Int) < (((l.map encCf).length : Nat) : Int)) = true := decide_eq_true (by omega)
   have hp : (l.map encCf)[((((l.map encCf).length : Nat) : Int) - 1).toNat]? = some (encCf c) := by
    rw [e0, el, List.getElem?_map, show (((L.length + 1 : Nat) : Int) - 1).toNat = L.length by omega, e]
    simp
   (repeat' (first | refine goA ?_ | refine ARun.indexAddr rfl rfl (by omega) (by with_reducible exact hp) rfl rfl rfl rfl rfl (guardF_spec rfl) ?_ | refine goB ?_ | fail))
   exact ⟨(_, _), ⟨⟨rfl, rfl, rfl, rfl, rfl, trivial⟩, ⟨rfl, rfl, rfl, trivial⟩, Nat.le_refl _⟩, fun h => by dsimp only; rw [e, lastC_snoc]; rfl⟩
 obtain ⟨top, gc1⟩ := t1
 dsimp only at ht1 ⊢
 (repeat' (first | refine goN ?_ | refine awp_region_ne 10 rfl (fun _ => hmix) ?_ | refine ARun.o rfl ?_ | refine goB ?_ | ((fail_if_success refine ARun.plain rfl ?_); refine ARun.fork rfl rfl rfl (fun h => ?_) (fun h => ?_)) | refine awp_cond rfl (fun h => ?_) (fun h => ?_)))
 (refine awp_region (fun _ => hmix) ?_; (repeat' (first | refine ARun.op rfl (by first | exact True.intro | exact rfl | (unfold inR; omega) | omega | ((try unfold inR); simp only [decide_eq_true_eq, decide_eq_false_iff_not, beq_iff_eq, beq_eq_false_iff_ne, ne_eq, Bool.not_eq_true', Bool.not_eq_false', List.length_map, List.length_append, List.length_take, List.length_drop, List.length_replicate, List.length_cons, List.length_nil] at *; omega)) ?_ | ((fail_if_success refine ARun.plain rfl ?_); first | refine ARun.fork rfl rfl rfl (fun h => ?_) (fun h => ?_) | refine ARun.forkT rfl rfl rfl (fun h => ?_) (fun h => ?_)))); all_goals (refine ARun.fin (by first | (intro h; cases h; done) | (intro _; kernel_rfl)) ?_; dsimp only [thenA, blockA, AS.bump, List.length_cons, List.length_nil, reduceIte, Nat.reduceEqDiff]))
 refine awp_cut (T := (Nat × Bool × List (List AV)) × (Nat × Bool × List (List AV)) × Nat) (fun t => ⟨[(1, encLCf l), (3, .ptr 3 0 0 0), (6, .ptr 6 1 0 0), (11, .sl t.1.1 t.1.2.1 t.1.2.2), (12, .sl t.2.1.1 t.2.1.2.1 t.2.1.2.2), (13, encLCf (planD i v l).2.2)], [(3, some ⟨0, 23, [encV v]⟩), (6, some ⟨1, 23, [[.val (.int .i64 0), .val (.int .i64 0), .val (.int .i64 0), .val (.int .i64 0), .val (.int .i64 0), .sl 0 true [], .sl 0 true [], .val (.int .i64 0), .sl 0 true [], .sl 0 true [], .sl 0 true [], .sl 0 true [], .val (.int .i64 0), .sl 0 true [], .sl 0 true [], .val (.bool false), .sl 0 true [], .val (.int .i64 0), .val (.int .i64 0), .val (.int .i64 0), .val (.int .i64 0), .val (.int .i64 0), .sl 0 true []]]⟩)], t.2.2⟩) (fun t => Wk (.sl t.1.1 t.1.2.1 t.1.2.2) (encS (planD i v l).1) ∧ Wk (.sl t.2.1.1 t.2.1.2.1 t.2.1.2.2) (encS (planD i v l).2.1)) ?_ (fun t2 ht2 => ?_)
 ·clear c5 c6 o5 hpl hm
  have hb0 := h.h0
  have hb1 : v.here ≤ 1000000 := by have := h.h1; have := h.b; omega
  clear h hv
  have x1 := ref_xt_c nZb
  have x2 := ref_xt_c nBr
  have x3 := ref_xt_c nDo
  have x4 := ref_xt_c nQdo
  have x5 := ref_xt_c nLp
  have x6 := ref_xt_c nPl
  by_cases i4 : i = 4
  case pos =>
   subst i4
   have hn : name = [87, 72, 73, 76, 69] := (Option.some.inj hn0).symm
   have n0 := Dict.eqF name [73, 70] (by rw [hn]; simp)
   have n1 := Dict.eqF name [69, 76, 83, 69] (by rw [hn]; simp)
   have n2 := Dict.eqF name [84, 72, 69, 78] (by rw [hn]; simp)
   have n3 := Dict.eqF name [66, 69, 71, 73, 78] (by rw [hn]; simp)
   have n4 := Dict.eqT name [87, 72, 73, 76, 69] (by rw [hn])
   have n5 := Dict.eqF name [82, 69, 80, 69, 65, 84] (by rw [hn]; simp)
   have n6 := Dict.eqF name [85, 78, 84, 73, 76] (by rw [hn]; simp)
   have n7 := Dict.eqF name [65, 71, 65, 73, 78] (by rw [hn]; simp)
   have n8 := Dict.eqF name [68, 79] (by rw [hn]; simp)
   have n9 := Dict.eqF name [63, 68, 79] (by rw [hn]; simp)
   have n10 := Dict.eqF name [76, 79, 79, 80] (by rw [hn]; simp)
   have n11 := Dict.eqF name [43, 76, 79, 79, 80] (by rw [hn]; simp)
   have n12 := Dict.eqF name [76, 69, 65, 86, 69] (by rw [hn]; simp)
   have hq : lastK l 0 = 2 := hf.1
   obtain ⟨L, c, e, hk⟩ := lastK_0 (l := l) (by rw [hq]; decide)
   have hne : l ≠ [] := by rw [e]; simp
   rw [ht1 hne]
   have hlen1 : 1 ≤ l.length := by rw [e]; simp
   clear ht1 hq hk hne
   have w1 := ref_with_2 l 1 ⟨1, v.here + 8, []⟩ (lastC l) (.sl 0 true []) (by omega) (by omega) (.nil _ _ _) (.sl (by simp))
   clear hf hn hn0
   (repeat' (first | refine goA ?_ | refine cX x1 ?_ | refine cX x2 ?_ | refine cX x3 ?_ | refine cX x4 ?_ | refine cX x5 ?_ | refine cX x6 ?_ | refine cX w1 ?_ | refine goB ?_ | fail))
   exact ⟨((_, _, _), (_, _, _), _), ⟨⟨rfl, rfl, rfl, rfl, rfl, rfl, trivial⟩, ⟨rfl, rfl, trivial⟩, Nat.le_refl _⟩, ⟨by first | exact .same _ | exact .nil _ _ _ | exact .weak _ _ _, by first | exact .same _ | exact .nil _ _ _ | exact .weak _ _ _⟩⟩
  by_cases i5 : i = 5
  case pos =>
   subst i5
   have hn : name = [82, 69, 80, 69, 65, 84] := (Option.some.inj hn0).symm
   have n0 := Dict.eqF name [73, 70] (by rw [hn]; simp)
   have n1 := Dict.eqF name [69, 76, 83, 69] (by rw [hn]; simp)
   have n2 := Dict.eqF name [84, 72, 69, 78] (by rw [hn]; simp)
   have n3 := Dict.eqF name [66, 69, 71, 73, 78] (by rw [hn]; simp)
   have n4 := Dict.eqF name [87, 72, 73, 76, 69] (by rw [hn]; simp)
   have n5 := Dict.eqT name [82, 69, 80, 69, 65, 84] (by rw [hn])
   have n6 := Dict.eqF name [85, 78, 84, 73, 76] (by rw [hn]; simp)
   have n7 := Dict.eqF name [65, 71, 65, 73, 78] (by rw [hn]; simp)
   have n8 := Dict.eqF name [68, 79] (by rw [hn]; simp)
   have n9 := Dict.eqF name [63, 68, 79] (by rw [hn]; simp)
   have n10 := Dict.eqF name [76, 79, 79, 80] (by rw [hn]; simp)
   have n11 := Dict.eqF name [43, 76, 79, 79, 80] (by rw [hn]; simp)
   have n12 := Dict.eqF name [76, 69, 65, 86, 69] (by rw [hn]; simp)
   have hq : lastK l 0 = 2 := hf.1
   obtain ⟨L, c, e, hk⟩ := lastK_0 (l := l) (by rw [hq]; decide)
   have hne : l ≠ [] := by rw [e]; simp
   rw [ht1 hne]
   have hlen1 : 1 ≤ l.length := by rw [e]; simp
   clear ht1 hq hk hne
   have h2 : lastK l 1 = 1 := hf.2
   have hlen2 : 2 ≤ l.length := by
    unfold lastK at h2
    split at h2
    ·cases h2
    ·omega
   have hp0 : l[l.length - 2]? = some l[l.length - 2] := List.getElem?_eq_getElem (by omega)
   have w1 := ref_with_c l 2 [] (by omega) (by omega) (by simp)
   have hp : (l.map encCf)[((((l.map encCf).length : Nat) : Int) - 2).toNat]? = some (encCf (l[l.length - 2]?.getD cf0)) := by
    rw [e0, List.getElem?_map, show ((l.length : Int) - 2).toNat = l.length - 2 by omega, hp0]
    rfl
   clear hf hn hn0
   (repeat' (first | refine goA ?_ | refine cX x1 ?_ | refine cX x2 ?_ | refine cX x3 ?_ | refine cX x4 ?_ | refine cX x5 ?_ | refine cX x6 ?_ | refine callW (w1) rfl wkT rfl rfl ?_ | refine ARun.indexAddr rfl rfl (by omega) (by with_reducible exact hp) rfl rfl rfl rfl rfl (guardF_spec rfl) ?_ | refine goB ?_ | fail))
   exact ⟨((_, _, _), (_, _, _), _), ⟨⟨rfl, rfl, rfl, rfl, rfl, rfl, trivial⟩, ⟨rfl, rfl, trivial⟩, Nat.le_refl _⟩, ⟨by first | exact .same _ | exact .nil _ _ _ | exact .weak _ _ _, by first | exact .same _ | exact .nil _ _ _ | exact .weak _ _ _⟩⟩
  by_cases i6 : i = 6
  case pos =>
   subst i6
   have hn : name = [85, 78, 84, 73, 76] := (Option.some.inj hn0).symm
   have n0 := Dict.eqF name [73, 70] (by rw [hn]; simp)
   have n1 := Dict.eqF name [69, 76, 83, 69] (by rw [hn]; simp)
   have n2 := Dict.eqF name [84, 72, 69, 78] (by rw [hn]; simp)
   have n3 := Dict.eqF name [66, 69, 71, 73, 78] (by rw [hn]; simp)
   have n4 := Dict.eqF name [87, 72, 73, 76, 69] (by rw [hn]; simp)
   have n5 := Dict.eqF name [82, 69, 80, 69, 65, 84] (by rw [hn]; simp)
   have n6 := Dict.eqT name [85, 78, 84, 73, 76] (by rw [hn])
   have n7 := Dict.eqF name [65, 71, 65, 73, 78] (by rw [hn]; simp)
   have n8 := Dict.eqF name [68, 79] (by rw [hn]; simp)
   have n9 := Dict.eqF name [63, 68, 79] (by rw [hn]; simp)
   have n10 := Dict.eqF name [76, 79, 79, 80] (by rw [hn]; simp)
   have n11 := Dict.eqF name [43, 76, 79, 79, 80] (by rw [hn]; simp)
   have n12 := Dict.eqF name [76, 69, 65, 86, 69] (by rw [hn]; simp)
   have hq : lastK l 0 = 2 := hf
   obtain ⟨L, c, e, hk⟩ := lastK_0 (l := l) (by rw [hq]; decide)
   have hne : l ≠ [] := by rw [e]; simp
   rw [ht1 hne]
   have hlen1 : 1 ≤ l.length := by rw [e]; simp
   clear ht1 hq hk hne
   have w1 := ref_with_c l 1 [] (by omega) (by omega) (by simp)
   clear hf hn hn0
   (repeat' (first | refine goA ?_ | refine cX x1 ?_ | refine cX x2 ?_ | refine cX x3 ?_ | refine cX x4 ?_ | refine cX x5 ?_ | refine cX x6 ?_ | refine callW (w1) rfl wkT rfl rfl ?_ | refine goB ?_ | fail))
   exact ⟨((_, _, _), (_, _, _), _), ⟨⟨rfl, rfl, rfl, rfl, rfl, rfl, trivial⟩, ⟨rfl, rfl, trivial⟩, Nat.le_refl _⟩, ⟨by first | exact .same _ | exact .nil _ _ _ | exact .weak _ _ _, by first | exact .same _ | exact .nil _ _ _ | exact .weak _ _ _⟩⟩
  by_cases i7 : i = 7
  case pos =>
   subst i7
   have hn : name = [65, 71, 65, 73, 78] := (Option.some.inj hn0).symm
   have n0 := Dict.eqF name [73, 70] (by rw [hn]; simp)
   have n1 := Dict.eqF name [69, 76, 83, 69] (by rw [hn]; simp)
   have n2 := Dict.eqF name [84, 72, 69, 78] (by rw [hn]; simp)
   have n3 := Dict.eqF name [66, 69, 71, 73, 78] (by rw [hn]; simp)
   have n4 := Dict.eqF name [87, 72, 73, 76, 69] (by rw [hn]; simp)
   have n5 := Dict.eqF name [82, 69, 80, 69, 65, 84] (by rw [hn]; simp)
   have n6 := Dict.eqF name [85, 78, 84, 73, 76] (by rw [hn]; simp)
   have n7 := Dict.eqT name [65, 71, 65, 73, 78] (by rw [hn])
   have n8 := Dict.eqF name [68, 79] (by rw [hn]; simp)
   have n9 := Dict.eqF name [63, 68, 79] (by rw [hn]; simp)
   have n10 := Dict.eqF name [76, 79, 79, 80] (by rw [hn]; simp)
   have n11 := Dict.eqF name [43, 76, 79, 79, 80] (by rw [hn]; simp)
   have n12 := Dict.eqF name [76, 69, 65, 86, 69] (by rw [hn]; simp)
   have hq : lastK l 0 = 2 := hf
   obtain ⟨L, c, e, hk⟩ := lastK_0 (l := l) (by rw [hq]; decide)
   have hne : l ≠ [] := by rw [e]; simp
   rw [ht1 hne]
   have hlen1 : 1 ≤ l.length := by rw [e]; simp
   clear ht1 hq hk hne
   have w1 := ref_with_c l 1 [] (by omega) (by omega) (by simp)
   clear hf hn hn0
   (repeat' (first | refine goA ?_ | refine cX x1 ?_ | refine cX x2 ?_ | refine cX x3 ?_ | refine cX x4 ?_ | refine cX x5 ?_ | refine cX x6 ?_ | refine callW (w1) rfl wkT rfl rfl ?_ | refine goB ?_ | fail))
   exact ⟨((_, _, _), (_, _, _), _), ⟨⟨rfl, rfl, rfl, rfl, rfl, rfl, trivial⟩, ⟨rfl, rfl, trivial⟩, Nat.le_refl _⟩, ⟨by first | exact .same _ | exact .nil _ _ _ | exact .weak _ _ _, by first | exact .same _ | exact .nil _ _ _ | exact .weak _ _ _⟩⟩
  omega
 obtain ⟨⟨sz1, fl1, el1⟩, ⟨sz2, fl2, el2⟩, gc2⟩ := t2
 dsimp only at ht2 ⊢
 unfold refBrD refK
 generalize planD i v l = pl at *
 by_cases b1 : (cellsK v pl.1).bad = 0
 case neg =>
  have d1 : ((cellsK v pl.1).bad != 0) = true := by simp [b1]
  rw [show outD (cellsK v pl.1) v = (v, (cellsK v pl.1).bad) from if_neg b1] at c5
  rw [heres_bad b1, if_neg b1]
  generalize cellsK v pl.1 = k1 at *
  unfold encVE at c5
  unfold encVLE
  (repeat' (first | refine goA ?_ | refine callW c5 rfl (WkL.cons (Wk.same _) (WkL.cons ht2.1 WkL.nil)) rfl rfl ?_ | refine goB ?_ | fail))
  exact awp_ret ⟨_, ResL.cons (ResA.agg rfl rfl rfl rfl rfl rfl rfl (RL.allClosed (encV_closed _))) (ResL.cons (ResA.tmp (.closed _ (closedLCf _))) (ResL.cons (ResA.tmp (.val _)) .nil)), rfl⟩
 have d1 : ((0 : Int) != 0) = false := by simp
 rw [show outD (cellsK v pl.1) v = ((cellsK v pl.1).v, 0) from if_pos b1] at c5
 rw [show heresD (cellsK v pl.1) pl.2.1 = storK (cellsK v pl.1).v pl.2.1 from congrArg (fun w => heresD w pl.2.1) (cellsK_ok b1)]
 generalize cellsK v pl.1 = k1 at *
 by_cases b2 : (storK k1.v pl.2.1).bad = 0
 case neg =>
  have d2 : ((storK k1.v pl.2.1).bad != 0) = true := by simp [b2]
  rw [if_neg b2]
  generalize storK k1.v pl.2.1 = k2 at *
  unfold encVE at c5 c6
  unfold encVLE
  (repeat' (first | refine goA ?_ | refine callW c5 rfl (WkL.cons (Wk.same _) (WkL.cons ht2.1 WkL.nil)) rfl rfl ?_ | refine callW c6 rfl (WkL.cons (Wk.same _) (WkL.cons ht2.2 WkL.nil)) rfl rfl ?_ | refine goB ?_ | fail))
  exact awp_ret ⟨_, ResL.cons (ResA.agg rfl rfl rfl rfl rfl rfl rfl (RL.allClosed (encV_closed _))) (ResL.cons (ResA.tmp (.closed _ (closedLCf _))) (ResL.cons (ResA.tmp (.val _)) .nil)), rfl⟩
 rw [if_pos b2]
 rw [b2] at c6
 generalize storK k1.v pl.2.1 = k2 at *
 unfold encVE at c5 c6
 unfold encVLE
 (repeat' (first | refine goA ?_ | refine callW c5 rfl (WkL.cons (Wk.same _) (WkL.cons ht2.1 WkL.nil)) rfl rfl ?_ | refine callW c6 rfl (WkL.cons (Wk.same _) (WkL.cons ht2.2 WkL.nil)) rfl rfl ?_ | refine goB ?_ | fail))
 exact awp_ret ⟨_, ResL.cons (ResA.agg rfl rfl rfl rfl rfl rfl rfl (RL.allClosed (encV_closed _))) (ResL.cons (ResA.tmp (.closed _ (closedLCf _))) (ResL.cons (ResA.tmp (.val _)) .nil)), rfl⟩
end Go.Proofs.YtfphgelollhdhaaGreat
namespace Go.Proofs.YtfphgelollhdhaaGreat
open Go Go.RowKit
open Go.Proofs.YtfphgelollhdhaaGreat.Dict (St Bs bs_eq encWs closed_ws)
open Go.Proofs.YtfphgelollhdhaaGreat.Mem (Mm encM encBs closed_bs encP encP_closed closed_m storeD fetchD commaD)
open Go.Proofs.YtfphgelollhdhaaGreat.Stk (encS closed_s encI_closed)
set_option maxRecDepth 100000
attribute [local irreducible] Decidable.decide awp ARun regK toK
set_option maxHeartbeats 40000000 in
theorem ref_bracket_yes8 (i : Nat) (hi0 : 8 ≤ i) (hi : i < 12) (v : V) (l : List Cfr) (name : Bs) (hn0 : nmC[i]? = some name) (hf : FitC i l) (hm : FnC Tryz.prog 98 [encLCf l, St name] (.val (.bool true))) (h : Okk v 100) (hl : l.length ≤ 1000) (hv : ∀ c, c ∈ l → c.lv.length ≤ 60) : FnC Tryz.prog 67 [.agg (encV v), encLCf l, St name] (encVLE (refBrD (planD i v l) v l)) := by
 have e0 : (((l.map encCf).length : Nat) : Int) = l.length := by rw [List.length_map]
 have hpl : (planD i v l).1.length ≤ 10 ∧ (planD i v l).2.1.length ≤ 60 := by
  have h3 : (lastC l).lv.length ≤ 60 := by
   rcases List.eq_nil_or_concat l with e | ⟨L, c, e⟩
   ·subst e; simp [lastC, cf0]
   ·rw [List.concat_eq_append] at e
    subst e
    rw [lastC_snoc]
    exact hv c (by simp)
  unfold planD
  split <;> exact ⟨by simp, by first | exact h3 | simp⟩
 have c5 := ref_cells_c v (planD i v l).1 (by omega) (h.le (by omega))
 have o5 : Okk (cellsK v (planD i v l).1).v 60 := cells_okk (w := wk0 v) (k := 60) _ (h.le (by omega))
 have c6 := ref_stored_c (cellsK v (planD i v l).1).v (planD i v l).2.1 (by omega) (o5.le (by omega))
 refine goF Tryz.func67 (closedL_cons (closedV v) (closedL_cons (closedLCf l) (closedL_cons (.val _) closedL_nil))) (fun w0 st0 => ?_)
 dsimp only [frOf]
 (repeat' (first | refine goA ?_ | refine cX hm ?_ | refine goB ?_ | fail))
 refine awp_cut (T := List AV × Nat) (fun t => ⟨[(1, encLCf l), (2, St name), (3, .ptr 3 0 0 0), (6, .ptr 6 1 0 0), (10, .ptr 10 11 0 0)], [(3, some ⟨0, 23, [encV v]⟩), (6, some ⟨1, 23, [[.val (.int .i64 0), .val (.int .i64 0), .val (.int .i64 0), .val (.int .i64 0), .val (.int .i64 0), .sl 0 true [], .sl 0 true [], .val (.int .i64 0), .sl 0 true [], .sl 0 true [], .sl 0 true [], .sl 0 true [], .val (.int .i64 0), .sl 0 true [], .sl 0 true [], .val (.bool false), .sl 0 true [], .val (.int .i64 0), .val (.int .i64 0), .val (.int .i64 0), .val (.int .i64 0), .val (.int .i64 0), .sl 0 true []]]⟩), (10, some ⟨11, 3, [t.1]⟩)], t.2⟩) (fun t => l ≠ [] → t.1 = encCf (lastC l)) ?_ (fun t1 ht1 => ?_)
 ·rcases List.eq_nil_or_concat l with e | ⟨L, c, e⟩
  ·subst e
   have d : decide ((0 : Int) < (((([] : List Cfr).map encCf).length : Nat) : Int)) = false := decide_eq_false (by simp)
   (repeat' (first | refine goA ?_ | refine goB ?_ | fail))
   exact ⟨(_, _), ⟨⟨rfl, rfl, rfl, rfl, rfl, trivial⟩, ⟨rfl, rfl, rfl, trivial⟩, Nat.le_refl _⟩, fun h => absurd rfl h⟩
  ·rw [List.concat_eq_append] at e
   have el : l.length = L.length + 1 := by rw [e]; simp
   have d : decide ((0 : Int) < (((l.map encCf).length : Nat) : Int)) = true := decide_eq_true (by omega)
   have hp : (l.map encCf)[((((l.map encCf).length : Nat) : Int) - 1).toNat]? = some (encCf c) := by
    rw [e0, el, List.getElem?_map, show (((L.length + 1 : Nat) : Int) - 1).toNat = L.length by omega, e]
    simp
   (repeat' (first | refine goA ?_ | refine ARun.indexAddr rfl rfl (by omega) (by with_reducible exact hp) rfl rfl rfl rfl rfl (guardF_spec rfl) ?_ | refine goB ?_ | fail))
   exact ⟨(_, _), ⟨⟨rfl, rfl, rfl, rfl, rfl, trivial⟩, ⟨rfl, rfl, rfl, trivial⟩, Nat.le_refl _⟩, fun h => by dsimp only; rw [e, lastC_snoc]; rfl⟩
 obtain ⟨top, gc1⟩ := t1
 dsimp only at ht1 ⊢
 (repeat' (first | refine goN ?_ | refine awp_region_ne 10 rfl (fun _ => hmix) ?_ | refine ARun.o rfl ?_ | refine goB ?_ | ((fail_if_success refine ARun.plain rfl ?_); refine ARun.fork rfl rfl rfl (fun h => ?_) (fun h => ?_)) | refine awp_cond rfl (fun h => ?_) (fun h => ?_)))
 (refine awp_region (fun _ => hmix) ?_; (repeat' (first | refine ARun.op rfl (by first | exact True.intro | exact rfl | (unfold inR; omega) | omega | ((try unfold inR); simp only [decide_eq_true_eq, decide_eq_false_iff_not, beq_iff_eq, beq_eq_false_iff_ne, ne_eq, Bool.not_eq_true', Bool.not_eq_false', List.length_map, List.length_append, List.length_take, List.length_drop, List.length_replicate, List.length_cons, List.length_nil] at *; omega)) ?_ | ((fail_if_success refine ARun.plain rfl ?_); first | refine ARun.fork rfl rfl rfl (fun h => ?_) (fun h => ?_) | refine ARun.forkT rfl rfl rfl (fun h => ?_) (fun h => ?_)))); all_goals (refine ARun.fin (by first | (intro h; cases h; done) | (intro _; kernel_rfl)) ?_; dsimp only [thenA, blockA, AS.bump, List.length_cons, List.length_nil, reduceIte, Nat.reduceEqDiff]))
 refine awp_cut (T := (Nat × Bool × List (List AV)) × (Nat × Bool × List (List AV)) × Nat) (fun t => ⟨[(1, encLCf l), (3, .ptr 3 0 0 0), (6, .ptr 6 1 0 0), (11, .sl t.1.1 t.1.2.1 t.1.2.2), (12, .sl t.2.1.1 t.2.1.2.1 t.2.1.2.2), (13, encLCf (planD i v l).2.2)], [(3, some ⟨0, 23, [encV v]⟩), (6, some ⟨1, 23, [[.val (.int .i64 0), .val (.int .i64 0), .val (.int .i64 0), .val (.int .i64 0), .val (.int .i64 0), .sl 0 true [], .sl 0 true [], .val (.int .i64 0), .sl 0 true [], .sl 0 true [], .sl 0 true [], .sl 0 true [], .val (.int .i64 0), .sl 0 true [], .sl 0 true [], .val (.bool false), .sl 0 true [], .val (.int .i64 0), .val (.int .i64 0), .val (.int .i64 0), .val (.int .i64 0), .val (.int .i64 0), .sl 0 true []]]⟩)], t.2.2⟩) (fun t => Wk (.sl t.1.1 t.1.2.1 t.1.2.2) (encS (planD i v l).1) ∧ Wk (.sl t.2.1.1 t.2.1.2.1 t.2.1.2.2) (encS (planD i v l).2.1)) ?_ (fun t2 ht2 => ?_)
 ·clear c5 c6 o5 hpl hm
  have hb0 := h.h0
  have hb1 : v.here ≤ 1000000 := by have := h.h1; have := h.b; omega
  clear h hv
  have x1 := ref_xt_c nZb
  have x2 := ref_xt_c nBr
  have x3 := ref_xt_c nDo
  have x4 := ref_xt_c nQdo
  have x5 := ref_xt_c nLp
  have x6 := ref_xt_c nPl
  by_cases i8 : i = 8
  case pos =>
   subst i8
   have hn : name = [68, 79] := (Option.some.inj hn0).symm
   have n0 := Dict.eqF name [73, 70] (by rw [hn]; simp)
   have n1 := Dict.eqF name [69, 76, 83, 69] (by rw [hn]; simp)
   have n2 := Dict.eqF name [84, 72, 69, 78] (by rw [hn]; simp)
   have n3 := Dict.eqF name [66, 69, 71, 73, 78] (by rw [hn]; simp)
   have n4 := Dict.eqF name [87, 72, 73, 76, 69] (by rw [hn]; simp)
   have n5 := Dict.eqF name [82, 69, 80, 69, 65, 84] (by rw [hn]; simp)
   have n6 := Dict.eqF name [85, 78, 84, 73, 76] (by rw [hn]; simp)
   have n7 := Dict.eqF name [65, 71, 65, 73, 78] (by rw [hn]; simp)
   have n8 := Dict.eqT name [68, 79] (by rw [hn])
   have n9 := Dict.eqF name [63, 68, 79] (by rw [hn]; simp)
   have n10 := Dict.eqF name [76, 79, 79, 80] (by rw [hn]; simp)
   have n11 := Dict.eqF name [43, 76, 79, 79, 80] (by rw [hn]; simp)
   have n12 := Dict.eqF name [76, 69, 65, 86, 69] (by rw [hn]; simp)
   have w1 := ref_with_1 l 0 ⟨3, v.here + 8, []⟩ (.sl 0 true []) (by omega) (by omega) (.nil _ _ _) (.sl (by simp))
   clear hf hn hn0
   (repeat' (first | refine goA ?_ | refine cX x1 ?_ | refine cX x2 ?_ | refine cX x3 ?_ | refine cX x4 ?_ | refine cX x5 ?_ | refine cX x6 ?_ | refine cX w1 ?_ | refine goB ?_ | fail))
   exact ⟨((_, _, _), (_, _, _), _), ⟨⟨rfl, rfl, rfl, rfl, rfl, rfl, trivial⟩, ⟨rfl, rfl, trivial⟩, Nat.le_refl _⟩, ⟨by first | exact .same _ | exact .nil _ _ _ | exact .weak _ _ _, by first | exact .same _ | exact .nil _ _ _ | exact .weak _ _ _⟩⟩
  by_cases i9 : i = 9
  case pos =>
   subst i9
   have hn : name = [63, 68, 79] := (Option.some.inj hn0).symm
   have n0 := Dict.eqF name [73, 70] (by rw [hn]; simp)
   have n1 := Dict.eqF name [69, 76, 83, 69] (by rw [hn]; simp)
   have n2 := Dict.eqF name [84, 72, 69, 78] (by rw [hn]; simp)
   have n3 := Dict.eqF name [66, 69, 71, 73, 78] (by rw [hn]; simp)
   have n4 := Dict.eqF name [87, 72, 73, 76, 69] (by rw [hn]; simp)
   have n5 := Dict.eqF name [82, 69, 80, 69, 65, 84] (by rw [hn]; simp)
   have n6 := Dict.eqF name [85, 78, 84, 73, 76] (by rw [hn]; simp)
   have n7 := Dict.eqF name [65, 71, 65, 73, 78] (by rw [hn]; simp)
   have n8 := Dict.eqF name [68, 79] (by rw [hn]; simp)
   have n9 := Dict.eqT name [63, 68, 79] (by rw [hn])
   have n10 := Dict.eqF name [76, 79, 79, 80] (by rw [hn]; simp)
   have n11 := Dict.eqF name [43, 76, 79, 79, 80] (by rw [hn]; simp)
   have n12 := Dict.eqF name [76, 69, 65, 86, 69] (by rw [hn]; simp)
   have w1 := ref_with_1 l 0 ⟨3, v.here + 16, [v.here + 8]⟩ (.sl 1 true [[.val (.int .i64 (v.here + 8))]]) (by omega) (by omega) (.weak _ _ _) (.sl (one_cl (closedL_cons (.val _) closedL_nil)))
   clear hf hn hn0
   (repeat' (first | refine goA ?_ | refine cX x1 ?_ | refine cX x2 ?_ | refine cX x3 ?_ | refine cX x4 ?_ | refine cX x5 ?_ | refine cX x6 ?_ | refine cX w1 ?_ | refine goB ?_ | fail))
   exact ⟨((_, _, _), (_, _, _), _), ⟨⟨rfl, rfl, rfl, rfl, rfl, rfl, trivial⟩, ⟨rfl, rfl, trivial⟩, Nat.le_refl _⟩, ⟨by first | exact .same _ | exact .nil _ _ _ | exact .weak _ _ _, by first | exact .same _ | exact .nil _ _ _ | exact .weak _ _ _⟩⟩
  by_cases i10 : i = 10
  case pos =>
   subst i10
   have hn : name = [76, 79, 79, 80] := (Option.some.inj hn0).symm
   have n0 := Dict.eqF name [73, 70] (by rw [hn]; simp)
   have n1 := Dict.eqF name [69, 76, 83, 69] (by rw [hn]; simp)
   have n2 := Dict.eqF name [84, 72, 69, 78] (by rw [hn]; simp)
   have n3 := Dict.eqF name [66, 69, 71, 73, 78] (by rw [hn]; simp)
   have n4 := Dict.eqF name [87, 72, 73, 76, 69] (by rw [hn]; simp)
   have n5 := Dict.eqF name [82, 69, 80, 69, 65, 84] (by rw [hn]; simp)
   have n6 := Dict.eqF name [85, 78, 84, 73, 76] (by rw [hn]; simp)
   have n7 := Dict.eqF name [65, 71, 65, 73, 78] (by rw [hn]; simp)
   have n8 := Dict.eqF name [68, 79] (by rw [hn]; simp)
   have n9 := Dict.eqF name [63, 68, 79] (by rw [hn]; simp)
   have n10 := Dict.eqT name [76, 79, 79, 80] (by rw [hn])
   have n11 := Dict.eqF name [43, 76, 79, 79, 80] (by rw [hn]; simp)
   have n12 := Dict.eqF name [76, 69, 65, 86, 69] (by rw [hn]; simp)
   have hq : lastK l 0 = 3 := hf
   obtain ⟨L, c, e, hk⟩ := lastK_0 (l := l) (by rw [hq]; decide)
   have hne : l ≠ [] := by rw [e]; simp
   rw [ht1 hne]
   have hlen1 : 1 ≤ l.length := by rw [e]; simp
   clear ht1 hq hk hne
   have w1 := ref_with_c l 1 [] (by omega) (by omega) (by simp)
   clear hf hn hn0
   (repeat' (first | refine goA ?_ | refine cX x1 ?_ | refine cX x2 ?_ | refine cX x3 ?_ | refine cX x4 ?_ | refine cX x5 ?_ | refine cX x6 ?_ | refine callW (w1) rfl wkT rfl rfl ?_ | refine goB ?_ | fail))
   exact ⟨((_, _, _), (_, _, _), _), ⟨⟨rfl, rfl, rfl, rfl, rfl, rfl, trivial⟩, ⟨rfl, rfl, trivial⟩, Nat.le_refl _⟩, ⟨by first | exact .same _ | exact .nil _ _ _ | exact .weak _ _ _, by first | exact .same _ | exact .nil _ _ _ | exact .weak _ _ _⟩⟩
  by_cases i11 : i = 11
  case pos =>
   subst i11
   have hn : name = [43, 76, 79, 79, 80] := (Option.some.inj hn0).symm
   have n0 := Dict.eqF name [73, 70] (by rw [hn]; simp)
   have n1 := Dict.eqF name [69, 76, 83, 69] (by rw [hn]; simp)
   have n2 := Dict.eqF name [84, 72, 69, 78] (by rw [hn]; simp)
   have n3 := Dict.eqF name [66, 69, 71, 73, 78] (by rw [hn]; simp)
   have n4 := Dict.eqF name [87, 72, 73, 76, 69] (by rw [hn]; simp)
   have n5 := Dict.eqF name [82, 69, 80, 69, 65, 84] (by rw [hn]; simp)
   have n6 := Dict.eqF name [85, 78, 84, 73, 76] (by rw [hn]; simp)
   have n7 := Dict.eqF name [65, 71, 65, 73, 78] (by rw [hn]; simp)
   have n8 := Dict.eqF name [68, 79] (by rw [hn]; simp)
   have n9 := Dict.eqF name [63, 68, 79] (by rw [hn]; simp)
   have n10 := Dict.eqF name [76, 79, 79, 80] (by rw [hn]; simp)
   have n11 := Dict.eqT name [43, 76, 79, 79, 80] (by rw [hn])
   have n12 := Dict.eqF name [76, 69, 65, 86, 69] (by rw [hn]; simp)
   have hq : lastK l 0 = 3 := hf
   obtain ⟨L, c, e, hk⟩ := lastK_0 (l := l) (by rw [hq]; decide)
   have hne : l ≠ [] := by rw [e]; simp
   rw [ht1 hne]
   have hlen1 : 1 ≤ l.length := by rw [e]; simp
   clear ht1 hq hk hne
   have w1 := ref_with_c l 1 [] (by omega) (by omega) (by simp)
   clear hf hn hn0
   (repeat' (first | refine goA ?_ | refine cX x1 ?_ | refine cX x2 ?_ | refine cX x3 ?_ | refine cX x4 ?_ | refine cX x5 ?_ | refine cX x6 ?_ | refine callW (w1) rfl wkT rfl rfl ?_ | refine goB ?_ | fail))
   exact ⟨((_, _, _), (_, _, _), _), ⟨⟨rfl, rfl, rfl, rfl, rfl, rfl, trivial⟩, ⟨rfl, rfl, trivial⟩, Nat.le_refl _⟩, ⟨by first | exact .same _ | exact .nil _ _ _ | exact .weak _ _ _, by first | exact .same _ | exact .nil _ _ _ | exact .weak _ _ _⟩⟩
  omega
 obtain ⟨⟨sz1, fl1, el1⟩, ⟨sz2, fl2, el2⟩, gc2⟩ := t2
 dsimp only at ht2 ⊢
 unfold refBrD refK
 generalize planD i v l = pl at *
 by_cases b1 : (cellsK v pl.1).bad = 0
 case neg =>
  have d1 : ((cellsK v pl.1).bad != 0) = true := by simp [b1]
  rw [show outD (cellsK v pl.1) v = (v, (cellsK v pl.1).bad) from if_neg b1] at c5
  rw [heres_bad b1, if_neg b1]
  generalize cellsK v pl.1 = k1 at *
  unfold encVE at c5
  unfold encVLE
  (repeat' (first | refine goA ?_ | refine callW c5 rfl (WkL.cons (Wk.same _) (WkL.cons ht2.1 WkL.nil)) rfl rfl ?_ | refine goB ?_ | fail))
  exact awp_ret ⟨_, ResL.cons (ResA.agg rfl rfl rfl rfl rfl rfl rfl (RL.allClosed (encV_closed _))) (ResL.cons (ResA.tmp (.closed _ (closedLCf _))) (ResL.cons (ResA.tmp (.val _)) .nil)), rfl⟩
 have d1 : ((0 : Int) != 0) = false := by simp
 rw [show outD (cellsK v pl.1) v = ((cellsK v pl.1).v, 0) from if_pos b1] at c5
 rw [show heresD (cellsK v pl.1) pl.2.1 = storK (cellsK v pl.1).v pl.2.1 from congrArg (fun w => heresD w pl.2.1) (cellsK_ok b1)]
 generalize cellsK v pl.1 = k1 at *
 by_cases b2 : (storK k1.v pl.2.1).bad = 0
 case neg =>
  have d2 : ((storK k1.v pl.2.1).bad != 0) = true := by simp [b2]
  rw [if_neg b2]
  generalize storK k1.v pl.2.1 = k2 at *
  unfold encVE at c5 c6
  unfold encVLE
  (repeat' (first | refine goA ?_ | refine callW c5 rfl (WkL.cons (Wk.same _) (WkL.cons ht2.1 WkL.nil)) rfl rfl ?_ | refine callW c6 rfl (WkL.cons (Wk.same _) (WkL.cons ht2.2 WkL.nil)) rfl rfl ?_ | refine goB ?_ | fail))
  exact awp_ret ⟨_, ResL.cons (ResA.agg rfl rfl rfl rfl rfl rfl rfl (RL.allClosed (encV_closed _))) (ResL.cons (ResA.tmp (.closed _ (closedLCf _))) (ResL.cons (ResA.tmp (.val _)) .nil)), rfl⟩
 rw [if_pos b2]
 rw [b2] at c6
 generalize storK k1.v pl.2.1 = k2 at *
 unfold encVE at c5 c6
 unfold encVLE
 (repeat' (first | refine goA ?_ | refine callW c5 rfl (WkL.cons (Wk.same _) (WkL.cons ht2.1 WkL.nil)) rfl rfl ?_ | refine callW c6 rfl (WkL.cons (Wk.same _) (WkL.cons ht2.2 WkL.nil)) rfl rfl ?_ | refine goB ?_ | fail))
 exact awp_ret ⟨_, ResL.cons (ResA.agg rfl rfl rfl rfl rfl rfl rfl (RL.allClosed (encV_closed _))) (ResL.cons (ResA.tmp (.closed _ (closedLCf _))) (ResL.cons (ResA.tmp (.val _)) .nil)), rfl⟩
end Go.Proofs.YtfphgelollhdhaaGreat
