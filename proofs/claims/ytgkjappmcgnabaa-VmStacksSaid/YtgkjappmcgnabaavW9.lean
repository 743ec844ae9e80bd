/- vK6, vK7, vT1, vG1, vG2. -/
import Derived.Test.YtgkjappmcgnabaaW1
import Derived.Test.YtgkjappmcgnabaaW2
import Derived.Test.YtgkjappmcgnabaaW3
import Derived.Test.YtgkjappmcgnabaaW4
import Derived.Test.YtgkjappmcgnabaavW5
import Derived.Test.YtgkjappmcgnabaavW6
import Derived.Test.YtgkjappmcgnabaavW7
import Derived.Test.YtgkjappmcgnabaavW8
/- Dictionaries: Find, Of. -/
namespace Go.Proofs.Ytgkjappmcgnabaa.Dict
set_option linter.unusedVariables false
set_option linter.unusedSimpArgs false
open Go Go.RowKit
set_option maxRecDepth 100000
attribute [local irreducible] Decidable.decide awp ARun regK toK
def findP (name : Bs) (w : Wd) : Bool := !hidD w && alikeD w.name name
def findD (l : List Wd) (name : Bs) : Fd := foundD l (lastAt (findP name) l l.length)
def NameIn (l : List Wd) : Prop := ∀ w, w ∈ l → w.name.length ≤ 1000000 ∧ 0 ≤ w.fl ∧ w.fl ≤ 7
set_option maxHeartbeats 4000000 in
theorem ref_find_c (l : List Wd) (name : Bs) (hl : l.length ≤ 1000000) (hn : name.length ≤ 1000000) (hw : NameIn l) : FnC Try.prog 24 [encWs l, St name] (encFd (findD l name)) := by
  generalize hP : findP name = P
  refine FnC.of_awp (T := tt) (ok := tok) Try.func24 (by kernel_rfl) rfl (by kernel_rfl) (closedL_cons (closed_ws l) (closedL_cons (.val _) closedL_nil)) (fun w0 st0 => ?_)
  dsimp only [frOf]
  rw [show findD l name = foundD l (lastAt P l l.length) by rw [← hP]; rfl]
  (repeat' (first | refine awp_seq ?_ | refine awp_block ?_ | refine awp_region (fun _ => hmix) ?_ | refine ARun.op rfl (by first | exact True.intro | exact rfl | (unfold inR; omega) | omega | ((try unfold inR); simp only [decide_eq_true_eq, decide_eq_false_iff_not, beq_iff_eq, beq_eq_false_iff_ne, ne_eq, Bool.not_eq_true', Bool.not_eq_false', List.length_map, List.length_append, List.length_take, List.length_drop, List.length_replicate, List.length_cons, List.length_nil] at *; omega)) ?_ | ((first | refine ARun.fin (by first | (intro h; cases h; done) | (intro _; kernel_rfl)) ?_ | refine awp_skip ?_ | refine awp_exit ?_); dsimp only [thenA, blockA, AS.bump, List.length_cons, List.length_nil, reduceIte, Nat.reduceEqDiff]) | refine awp_condT rfl (by first | rfl | assumption | exact beq_int _ | exact bne_int _) ?_ | refine awp_condF rfl (by first | rfl | assumption | exact beq_int _ | exact bne_int _) ?_ | ((fail_if_success refine ARun.plain rfl ?_); first | refine ARun.knowT rfl rfl rfl (by first | rfl | assumption | exact beq_int _ | exact bne_int _) ?_ | refine ARun.knowF rfl rfl rfl (by first | rfl | assumption | exact beq_int _ | exact bne_int _) ?_ | refine ARun.fork rfl rfl rfl (fun h => ?_) (fun h => ?_)) | refine awp_cond rfl (fun h => ?_) (fun h => ?_)))
  refine awp_loopT (T := Nat × Nat) (fun t => ⟨[(7, .val (.int .i64 ((l.length : Int) - 1 - (t.1 : Nat)))), (0, encWs l), (1, St name), (4, .ptr 4 0 0 0), (5, .val (.int .i64 0)), (6, .val (.bool false))], [(4, some ⟨0, 3, [[St [], .val (.int .i64 0), .val (.int .i64 0)]]⟩)], t.2⟩) (fun t => t.1 ≤ l.length ∧ lastAt P l l.length = lastAt P l (l.length - t.1)) (fun t => l.length - t.1) (0, _) ⟨Nat.zero_le _, rfl⟩ ⟨⟨by rw [List.length_map, Int.ofNat_zero, Int.sub_zero]; rfl, rfl, rfl, rfl, rfl, rfl, trivial⟩, ⟨rfl, trivial⟩, Nat.le_refl _⟩ (fun t ht => ?_)
  obtain ⟨j, gc⟩ := t
  obtain ⟨hj, hA⟩ := ht
  dsimp only at hj hA ⊢
  by_cases hlt : j < l.length
  · have d1 : decide ((0 : Int) ≤ (l.length : Int) - 1 - (j : Nat)) = true := decide_eq_true (by omega)
    have hpe : l[l.length - 1 - j]? = some (l[l.length - 1 - j]'(by omega)) := List.getElem?_eq_getElem (by omega)
    have hmem : (l[l.length - 1 - j]'(by omega)) ∈ l := List.getElem_mem _
    generalize l[l.length - 1 - j]'(by omega) = w at hpe hmem
    have e1 : l.length - j = (l.length - 1 - j) + 1 := by omega
    have hp : (l.map encW)[((l.length : Int) - 1 - (j : Nat)).toNat]? = some (encW w) := by
      rw [show ((l.length : Int) - 1 - (j : Nat)).toNat = l.length - 1 - j by omega, List.getElem?_map, hpe]
      rfl
    have c1 := ref_alike_c w.name name (hw w hmem).1 hn
    have c2 := hidden_c w (hw w hmem).2
    have miss : P w = false → lastAt P l l.length = lastAt P l (l.length - (j + 1)) := fun hpw => by
      rw [hA, e1, lastAt_miss hpe hpw, show l.length - (j + 1) = l.length - 1 - j by omega]
    have step : AV.val (.int .i64 ((l.length : Int) - 1 - (j : Nat) - 1)) = AV.val (.int .i64 ((l.length : Int) - 1 - ((j + 1 : Nat) : Int))) := by
      rw [Int.natCast_add]
      congr 2
      omega
    cases ha : alikeD w.name name with
    | false =>
      rw [ha] at c1
      have hpw : P w = false := by rw [← hP]; unfold findP; rw [ha, Bool.and_false]
      (repeat' (first | refine awp_seq ?_ | refine awp_block ?_ | refine awp_region (fun _ => hmix) ?_ | refine ARun.op rfl (by first | exact True.intro | exact rfl | (unfold inR; omega) | omega | ((try unfold inR); simp only [decide_eq_true_eq, decide_eq_false_iff_not, beq_iff_eq, beq_eq_false_iff_ne, ne_eq, Bool.not_eq_true', Bool.not_eq_false', List.length_map, List.length_append, List.length_take, List.length_drop, List.length_replicate, List.length_cons, List.length_nil] at *; omega)) ?_ | refine ARun.indexAddr rfl rfl (by first | omega | (dsimp only [maxLen]; done) | (dsimp only [maxLen]; omega) | (simp only [List.length_append, List.length_map, List.length_take, List.length_drop, List.length_replicate, List.length_cons, List.length_nil, maxLen]; done) | (simp only [List.length_append, List.length_map, List.length_take, List.length_drop, List.length_replicate, List.length_cons, List.length_nil, maxLen]; omega) | (simp only [List.length_append, List.length_map, List.length_take, List.length_drop, List.length_replicate, List.length_cons, List.length_nil, maxLen] at *; done) | (simp only [List.length_append, List.length_map, List.length_take, List.length_drop, List.length_replicate, List.length_cons, List.length_nil, maxLen] at *; omega)) (by first | assumption | rfl) rfl rfl rfl rfl rfl (guardF_spec rfl) ?_ | refine callX (c1) rfl rfl rfl rfl ?_ | refine callX (c2) rfl rfl rfl rfl ?_ | ((first | refine ARun.fin (by first | (intro h; cases h; done) | (intro _; kernel_rfl)) ?_ | refine awp_skip ?_ | refine awp_exit ?_); dsimp only [thenA, blockA, AS.bump, List.length_cons, List.length_nil, reduceIte, Nat.reduceEqDiff]) | refine awp_condT rfl (by first | rfl | assumption | exact beq_int _ | exact bne_int _) ?_ | refine awp_condF rfl (by first | rfl | assumption | exact beq_int _ | exact bne_int _) ?_ | ((fail_if_success refine ARun.plain rfl ?_); first | refine ARun.knowT rfl rfl rfl (by first | rfl | assumption | exact beq_int _ | exact bne_int _) ?_ | refine ARun.knowF rfl rfl rfl (by first | rfl | assumption | exact beq_int _ | exact bne_int _) ?_ | refine ARun.fork rfl rfl rfl (fun h => ?_) (fun h => ?_)) | refine awp_cond rfl (fun h => ?_) (fun h => ?_)))
      exact ⟨(j + 1, _), ⟨⟨step, rfl, rfl, rfl, rfl, rfl, trivial⟩, ⟨rfl, trivial⟩, Nat.le_refl _⟩, ⟨hlt, miss hpw⟩, (by dsimp only; omega)⟩
    | true =>
      rw [ha] at c1
      cases hb : hidD w with
      | true =>
        rw [hb] at c2
        have hpw : P w = false := by rw [← hP]; unfold findP; rw [hb]; rfl
        (repeat' (first | refine awp_seq ?_ | refine awp_block ?_ | refine awp_region (fun _ => hmix) ?_ | refine ARun.op rfl (by first | exact True.intro | exact rfl | (unfold inR; omega) | omega | ((try unfold inR); simp only [decide_eq_true_eq, decide_eq_false_iff_not, beq_iff_eq, beq_eq_false_iff_ne, ne_eq, Bool.not_eq_true', Bool.not_eq_false', List.length_map, List.length_append, List.length_take, List.length_drop, List.length_replicate, List.length_cons, List.length_nil] at *; omega)) ?_ | refine ARun.indexAddr rfl rfl (by first | omega | (dsimp only [maxLen]; done) | (dsimp only [maxLen]; omega) | (simp only [List.length_append, List.length_map, List.length_take, List.length_drop, List.length_replicate, List.length_cons, List.length_nil, maxLen]; done) | (simp only [List.length_append, List.length_map, List.length_take, List.length_drop, List.length_replicate, List.length_cons, List.length_nil, maxLen]; omega) | (simp only [List.length_append, List.length_map, List.length_take, List.length_drop, List.length_replicate, List.length_cons, List.length_nil, maxLen] at *; done) | (simp only [List.length_append, List.length_map, List.length_take, List.length_drop, List.length_replicate, List.length_cons, List.length_nil, maxLen] at *; omega)) (by first | assumption | rfl) rfl rfl rfl rfl rfl (guardF_spec rfl) ?_ | refine callX (c1) rfl rfl rfl rfl ?_ | refine callX (c2) rfl rfl rfl rfl ?_ | ((first | refine ARun.fin (by first | (intro h; cases h; done) | (intro _; kernel_rfl)) ?_ | refine awp_skip ?_ | refine awp_exit ?_); dsimp only [thenA, blockA, AS.bump, List.length_cons, List.length_nil, reduceIte, Nat.reduceEqDiff]) | refine awp_condT rfl (by first | rfl | assumption | exact beq_int _ | exact bne_int _) ?_ | refine awp_condF rfl (by first | rfl | assumption | exact beq_int _ | exact bne_int _) ?_ | ((fail_if_success refine ARun.plain rfl ?_); first | refine ARun.knowT rfl rfl rfl (by first | rfl | assumption | exact beq_int _ | exact bne_int _) ?_ | refine ARun.knowF rfl rfl rfl (by first | rfl | assumption | exact beq_int _ | exact bne_int _) ?_ | refine ARun.fork rfl rfl rfl (fun h => ?_) (fun h => ?_)) | refine awp_cond rfl (fun h => ?_) (fun h => ?_)))
        exact ⟨(j + 1, _), ⟨⟨step, rfl, rfl, rfl, rfl, rfl, trivial⟩, ⟨rfl, trivial⟩, Nat.le_refl _⟩, ⟨hlt, miss hpw⟩, (by dsimp only; omega)⟩
      | false =>
        rw [hb] at c2
        have hpw : P w = true := by rw [← hP]; unfold findP; rw [ha, hb]; rfl
        rw [hA, e1, lastAt_hit hpe hpw, found_hit hpe, show ((l.length - 1 - j : Nat) : Int) = (l.length : Int) - 1 - (j : Nat) by omega]
        (repeat' (first | refine awp_seq ?_ | refine awp_block ?_ | refine awp_region (fun _ => hmix) ?_ | refine ARun.op rfl (by first | exact True.intro | exact rfl | (unfold inR; omega) | omega | ((try unfold inR); simp only [decide_eq_true_eq, decide_eq_false_iff_not, beq_iff_eq, beq_eq_false_iff_ne, ne_eq, Bool.not_eq_true', Bool.not_eq_false', List.length_map, List.length_append, List.length_take, List.length_drop, List.length_replicate, List.length_cons, List.length_nil] at *; omega)) ?_ | refine ARun.indexAddr rfl rfl (by first | omega | (dsimp only [maxLen]; done) | (dsimp only [maxLen]; omega) | (simp only [List.length_append, List.length_map, List.length_take, List.length_drop, List.length_replicate, List.length_cons, List.length_nil, maxLen]; done) | (simp only [List.length_append, List.length_map, List.length_take, List.length_drop, List.length_replicate, List.length_cons, List.length_nil, maxLen]; omega) | (simp only [List.length_append, List.length_map, List.length_take, List.length_drop, List.length_replicate, List.length_cons, List.length_nil, maxLen] at *; done) | (simp only [List.length_append, List.length_map, List.length_take, List.length_drop, List.length_replicate, List.length_cons, List.length_nil, maxLen] at *; omega)) (by first | assumption | rfl) rfl rfl rfl rfl rfl (guardF_spec rfl) ?_ | refine callX (c1) rfl rfl rfl rfl ?_ | refine callX (c2) rfl rfl rfl rfl ?_ | ((first | refine ARun.fin (by first | (intro h; cases h; done) | (intro _; kernel_rfl)) ?_ | refine awp_skip ?_ | refine awp_exit ?_); dsimp only [thenA, blockA, AS.bump, List.length_cons, List.length_nil, reduceIte, Nat.reduceEqDiff]) | refine awp_condT rfl (by first | rfl | assumption | exact beq_int _ | exact bne_int _) ?_ | refine awp_condF rfl (by first | rfl | assumption | exact beq_int _ | exact bne_int _) ?_ | ((fail_if_success refine ARun.plain rfl ?_); first | refine ARun.knowT rfl rfl rfl (by first | rfl | assumption | exact beq_int _ | exact bne_int _) ?_ | refine ARun.knowF rfl rfl rfl (by first | rfl | assumption | exact beq_int _ | exact bne_int _) ?_ | refine ARun.fork rfl rfl rfl (fun h => ?_) (fun h => ?_)) | refine awp_cond rfl (fun h => ?_) (fun h => ?_)))
        exact awp_ret ⟨_, ResL.cons (ResA.agg rfl rfl rfl rfl rfl rfl rfl (RL.cons (.val _) (RL.cons (.val _) (RL.cons (.val _) (RL.nil _))))) (ResL.cons (ResA.tmp (.val _)) (ResL.cons (ResA.tmp (.val _)) .nil)), rfl⟩
  · have hjj : j = l.length := by omega
    subst hjj
    have d1 : decide ((0 : Int) ≤ (l.length : Int) - 1 - ((l.length : Nat) : Int)) = false := decide_eq_false (by omega)
    rw [Nat.sub_self] at hA
    rw [hA]
    (repeat' (first | refine awp_seq ?_ | refine awp_block ?_ | refine awp_region (fun _ => hmix) ?_ | refine ARun.op rfl (by first | exact True.intro | exact rfl | (unfold inR; omega) | omega | ((try unfold inR); simp only [decide_eq_true_eq, decide_eq_false_iff_not, beq_iff_eq, beq_eq_false_iff_ne, ne_eq, Bool.not_eq_true', Bool.not_eq_false', List.length_map, List.length_append, List.length_take, List.length_drop, List.length_replicate, List.length_cons, List.length_nil] at *; omega)) ?_ | ((first | refine ARun.fin (by first | (intro h; cases h; done) | (intro _; kernel_rfl)) ?_ | refine awp_skip ?_ | refine awp_exit ?_); dsimp only [thenA, blockA, AS.bump, List.length_cons, List.length_nil, reduceIte, Nat.reduceEqDiff]) | refine awp_condT rfl (by first | rfl | assumption | exact beq_int _ | exact bne_int _) ?_ | refine awp_condF rfl (by first | rfl | assumption | exact beq_int _ | exact bne_int _) ?_ | ((fail_if_success refine ARun.plain rfl ?_); first | refine ARun.knowT rfl rfl rfl (by first | rfl | assumption | exact beq_int _ | exact bne_int _) ?_ | refine ARun.knowF rfl rfl rfl (by first | rfl | assumption | exact beq_int _ | exact bne_int _) ?_ | refine ARun.fork rfl rfl rfl (fun h => ?_) (fun h => ?_)) | refine awp_cond rfl (fun h => ?_) (fun h => ?_)))
    exact awp_ret ⟨_, ResL.cons (ResA.agg rfl rfl rfl rfl rfl rfl rfl (RL.cons (.val _) (RL.cons (.val _) (RL.cons (.val _) (RL.nil _))))) (ResL.cons (ResA.tmp (.val _)) (ResL.cons (ResA.tmp (.val _)) .nil)), rfl⟩
end Go.Proofs.Ytgkjappmcgnabaa.Dict
/- Dictionaries: Add, Flag, Cut. -/
namespace Go.Proofs.Ytgkjappmcgnabaa.Dict
set_option linter.unusedVariables false
set_option linter.unusedSimpArgs false
open Go Go.RowKit
set_option maxRecDepth 100000
attribute [local irreducible] Decidable.decide awp ARun regK toK
def encWE (r : List Wd × Int) : AV := .tup [encWs r.1, .val (.int .i64 r.2)]
def addD (l : List Wd) (name : Bs) (xt fl limit : Int) : List Wd × Int :=
  if namedD name ≠ 0 then (l, namedD name) else if ¬(0 ≤ fl ∧ fl ≤ 7) then (l, -24) else if limit ≤ l.length ∨ 1024 ≤ l.length then (l, -8) else (l ++ [⟨name, xt, fl⟩], 0)
theorem wclip_c (l : List Wd) (hl : l.length ≤ 1000000) : FnC Try.prog 90 [encWs l] (.sl 3 true (l.map encW)) := by
  refine FnC.of_awp (T := tt) (ok := tok) Try.func90 (by kernel_rfl) rfl (by kernel_rfl) (closedL_cons (closed_ws l) closedL_nil) (fun w0 st0 => ?_)
  dsimp only [frOf]
  (repeat' (first | refine awp_seq ?_ | refine awp_block ?_ | refine awp_region (fun _ => hmix) ?_ | refine ARun.op rfl (by first | exact True.intro | exact rfl | (unfold inR; omega) | omega | ((try unfold inR); simp only [decide_eq_true_eq, decide_eq_false_iff_not, beq_iff_eq, beq_eq_false_iff_ne, ne_eq, Bool.not_eq_true', Bool.not_eq_false', List.length_map, List.length_append, List.length_take, List.length_drop, List.length_replicate, List.length_cons, List.length_nil] at *; omega)) ?_ | refine ARun.sliceClip rfl rfl rfl rfl rfl rfl (by first | exact .inr rfl | exact .inl rfl | (right; simp; done)) rfl (guardF_spec rfl) ?_ | ((first | refine ARun.fin (by first | (intro h; cases h; done) | (intro _; kernel_rfl)) ?_ | refine awp_skip ?_ | refine awp_exit ?_); dsimp only [thenA, blockA, AS.bump, List.length_cons, List.length_nil, reduceIte, Nat.reduceEqDiff]) | refine awp_condT rfl (by first | rfl | assumption | exact beq_int _ | exact bne_int _) ?_ | refine awp_condF rfl (by first | rfl | assumption | exact beq_int _ | exact bne_int _) ?_ | ((fail_if_success refine ARun.plain rfl ?_); first | refine ARun.knowT rfl rfl rfl (by first | rfl | assumption | exact beq_int _ | exact bne_int _) ?_ | refine ARun.knowF rfl rfl rfl (by first | rfl | assumption | exact beq_int _ | exact bne_int _) ?_ | refine ARun.fork rfl rfl rfl (fun h => ?_) (fun h => ?_)) | refine awp_cond rfl (fun h => ?_) (fun h => ?_)))
  refine awp_ret ⟨_, ResL.cons (ResA.tmp (.closed _ (closed_map encW_closed))) .nil, rfl⟩
theorem wapp_closed (l : List Wd) (w : Wd) : ∀ el x, el ∈ l.map encW ++ [encW w] → x ∈ el → Closed x := own_closed_app encW_closed (encW_closed w)
set_option maxHeartbeats 4000000 in
theorem add_c (l : List Wd) (name : Bs) (xt fl limit : Int) (hl : l.length ≤ 1000000) (hn : name.length ≤ 1000000) (hf : -9223372036854775808 ≤ fl ∧ fl ≤ 9223372036854775807) : FnC Try.prog 46 [encWs l, St name, .val (.int .i64 xt), .val (.int .i64 fl), .val (.int .i64 limit)] (encWE (addD l name xt fl limit)) := by
  have c1 := named_c name hn
  have c2 := flagged_c fl hf
  have c3 := wclip_c l hl
  by_cases h1 : namedD name = 0
  · have d1 : (namedD name != 0) = false := by simp [h1]
    by_cases h2 : 0 ≤ fl ∧ fl ≤ 7
    · rw [decide_eq_true h2] at c2
      have e0 : (((l.map encW).length : Nat) : Int) = l.length := by rw [List.length_map]
      by_cases h3 : limit ≤ l.length ∨ 1024 ≤ l.length
      · have d3 : decide (min limit 1024 ≤ (((l.map encW).length : Nat) : Int)) = true := decide_eq_true (by omega)
        rw [show addD l name xt fl limit = (l, -8) by unfold addD; rw [if_neg (by simp [h1]), if_neg (by simp [h2]), if_pos h3]]
        refine FnC.of_awp (T := tt) (ok := tok) Try.func46 (by kernel_rfl) rfl (by kernel_rfl) (closedL_cons (closed_ws l) (closedL_cons (.val _) (closedL_cons (.val _) (closedL_cons (.val _) (closedL_cons (.val _) closedL_nil))))) (fun w0 st0 => ?_)
        dsimp only [frOf]
        (repeat' (first | refine awp_seq ?_ | refine awp_block ?_ | refine awp_region (fun _ => hmix) ?_ | refine ARun.op rfl (by first | exact True.intro | exact rfl | (unfold inR; omega) | omega | ((try unfold inR); simp only [decide_eq_true_eq, decide_eq_false_iff_not, beq_iff_eq, beq_eq_false_iff_ne, ne_eq, Bool.not_eq_true', Bool.not_eq_false', List.length_map, List.length_append, List.length_take, List.length_drop, List.length_replicate, List.length_cons, List.length_nil] at *; omega)) ?_ | refine callX (c1) rfl rfl rfl rfl ?_ | refine callX (c2) rfl rfl rfl rfl ?_ | refine callX (c3) rfl rfl rfl rfl ?_ | refine ARun.min2 rfl rfl rfl (guardF_spec rfl) ?_ | ((first | refine ARun.fin (by first | (intro h; cases h; done) | (intro _; kernel_rfl)) ?_ | refine awp_skip ?_ | refine awp_exit ?_); dsimp only [thenA, blockA, AS.bump, List.length_cons, List.length_nil, reduceIte, Nat.reduceEqDiff]) | refine awp_condT rfl (by first | rfl | assumption | exact beq_int _ | exact bne_int _) ?_ | refine awp_condF rfl (by first | rfl | assumption | exact beq_int _ | exact bne_int _) ?_ | ((fail_if_success refine ARun.plain rfl ?_); first | refine ARun.knowT rfl rfl rfl (by first | rfl | assumption | exact beq_int _ | exact bne_int _) ?_ | refine ARun.knowF rfl rfl rfl (by first | rfl | assumption | exact beq_int _ | exact bne_int _) ?_ | refine ARun.fork rfl rfl rfl (fun h => ?_) (fun h => ?_)) | refine awp_cond rfl (fun h => ?_) (fun h => ?_)))
        exact awp_ret ⟨_, (ResL.cons (ResA.tmp (.closed _ (closed_ws _))) (ResL.cons (ResA.tmp (.val _)) .nil)), rfl⟩
      · have d3 : decide (min limit 1024 ≤ (((l.map encW).length : Nat) : Int)) = false := decide_eq_false (by omega)
        rw [show addD l name xt fl limit = (l ++ [⟨name, xt, fl⟩], 0) by unfold addD; rw [if_neg (by simp [h1]), if_neg (by simp [h2]), if_neg h3]]
        refine FnC.of_awp (T := tt) (ok := tok) Try.func46 (by kernel_rfl) rfl (by kernel_rfl) (closedL_cons (closed_ws l) (closedL_cons (.val _) (closedL_cons (.val _) (closedL_cons (.val _) (closedL_cons (.val _) closedL_nil))))) (fun w0 st0 => ?_)
        dsimp only [frOf]
        (repeat' (first | refine awp_seq ?_ | refine awp_block ?_ | refine awp_region (fun _ => hmix) ?_ | refine ARun.op rfl (by first | exact True.intro | exact rfl | (unfold inR; omega) | omega | ((try unfold inR); simp only [decide_eq_true_eq, decide_eq_false_iff_not, beq_iff_eq, beq_eq_false_iff_ne, ne_eq, Bool.not_eq_true', Bool.not_eq_false', List.length_map, List.length_append, List.length_take, List.length_drop, List.length_replicate, List.length_cons, List.length_nil] at *; omega)) ?_ | refine callX (c1) rfl rfl rfl rfl ?_ | refine callX (c2) rfl rfl rfl rfl ?_ | refine callX (c3) rfl rfl rfl rfl ?_ | refine ARun.min2 rfl rfl rfl (guardF_spec rfl) ?_ | refine ARun.buildSliceO rfl rfl rfl rfl rfl rfl rfl (buildSF_spec rfl) rfl (guardF_spec rfl) ?_ | refine ARun.append_fullS rfl (by first | exact SrcA.sl rfl (.inr rfl) | exact SrcA.sl rfl (.inl rfl) | exact SrcA.ownW rfl rfl rfl rfl) rfl rfl rfl (by first | exact .inr rfl | exact .inl rfl | (right; simp; done)) (by first | exact .inr rfl | exact .inl rfl | (right; simp; done)) rfl rfl (by first | omega | (dsimp only [maxLen]; done) | (dsimp only [maxLen]; omega) | (simp only [List.length_append, List.length_map, List.length_take, List.length_drop, List.length_replicate, List.length_cons, List.length_nil, maxLen]; done) | (simp only [List.length_append, List.length_map, List.length_take, List.length_drop, List.length_replicate, List.length_cons, List.length_nil, maxLen]; omega) | (simp only [List.length_append, List.length_map, List.length_take, List.length_drop, List.length_replicate, List.length_cons, List.length_nil, maxLen] at *; done) | (simp only [List.length_append, List.length_map, List.length_take, List.length_drop, List.length_replicate, List.length_cons, List.length_nil, maxLen] at *; omega)) (by first | omega | (dsimp only [maxLen]; done) | (dsimp only [maxLen]; omega) | (simp only [List.length_append, List.length_map, List.length_take, List.length_drop, List.length_replicate, List.length_cons, List.length_nil, maxLen]; done) | (simp only [List.length_append, List.length_map, List.length_take, List.length_drop, List.length_replicate, List.length_cons, List.length_nil, maxLen]; omega) | (simp only [List.length_append, List.length_map, List.length_take, List.length_drop, List.length_replicate, List.length_cons, List.length_nil, maxLen] at *; done) | (simp only [List.length_append, List.length_map, List.length_take, List.length_drop, List.length_replicate, List.length_cons, List.length_nil, maxLen] at *; omega)) rfl (guardF_spec rfl) ?_ | ((first | refine ARun.fin (by first | (intro h; cases h; done) | (intro _; kernel_rfl)) ?_ | refine awp_skip ?_ | refine awp_exit ?_); dsimp only [thenA, blockA, AS.bump, List.length_cons, List.length_nil, reduceIte, Nat.reduceEqDiff]) | refine awp_condT rfl (by first | rfl | assumption | exact beq_int _ | exact bne_int _) ?_ | refine awp_condF rfl (by first | rfl | assumption | exact beq_int _ | exact bne_int _) ?_ | ((fail_if_success refine ARun.plain rfl ?_); first | refine ARun.knowT rfl rfl rfl (by first | rfl | assumption | exact beq_int _ | exact bne_int _) ?_ | refine ARun.knowF rfl rfl rfl (by first | rfl | assumption | exact beq_int _ | exact bne_int _) ?_ | refine ARun.fork rfl rfl rfl (fun h => ?_) (fun h => ?_)) | refine awp_cond rfl (fun h => ?_) (fun h => ?_)))
        refine awp_ret ⟨_, ResL.cons (ResA.tmp (.owned rfl rfl (by simp) (wapp_closed l ⟨name, xt, fl⟩))) (ResL.cons (ResA.tmp (.val _)) .nil), ?_⟩
        unfold encWE encWs
        rw [List.map_append]
        rfl
    · rw [decide_eq_false h2] at c2
      rw [show addD l name xt fl limit = (l, -24) by unfold addD; rw [if_neg (by simp [h1]), if_pos h2]]
      refine FnC.of_awp (T := tt) (ok := tok) Try.func46 (by kernel_rfl) rfl (by kernel_rfl) (closedL_cons (closed_ws l) (closedL_cons (.val _) (closedL_cons (.val _) (closedL_cons (.val _) (closedL_cons (.val _) closedL_nil))))) (fun w0 st0 => ?_)
      dsimp only [frOf]
      (repeat' (first | refine awp_seq ?_ | refine awp_block ?_ | refine awp_region (fun _ => hmix) ?_ | refine ARun.op rfl (by first | exact True.intro | exact rfl | (unfold inR; omega) | omega | ((try unfold inR); simp only [decide_eq_true_eq, decide_eq_false_iff_not, beq_iff_eq, beq_eq_false_iff_ne, ne_eq, Bool.not_eq_true', Bool.not_eq_false', List.length_map, List.length_append, List.length_take, List.length_drop, List.length_replicate, List.length_cons, List.length_nil] at *; omega)) ?_ | refine callX (c1) rfl rfl rfl rfl ?_ | refine callX (c2) rfl rfl rfl rfl ?_ | refine callX (c3) rfl rfl rfl rfl ?_ | ((first | refine ARun.fin (by first | (intro h; cases h; done) | (intro _; kernel_rfl)) ?_ | refine awp_skip ?_ | refine awp_exit ?_); dsimp only [thenA, blockA, AS.bump, List.length_cons, List.length_nil, reduceIte, Nat.reduceEqDiff]) | refine awp_condT rfl (by first | rfl | assumption | exact beq_int _ | exact bne_int _) ?_ | refine awp_condF rfl (by first | rfl | assumption | exact beq_int _ | exact bne_int _) ?_ | ((fail_if_success refine ARun.plain rfl ?_); first | refine ARun.knowT rfl rfl rfl (by first | rfl | assumption | exact beq_int _ | exact bne_int _) ?_ | refine ARun.knowF rfl rfl rfl (by first | rfl | assumption | exact beq_int _ | exact bne_int _) ?_ | refine ARun.fork rfl rfl rfl (fun h => ?_) (fun h => ?_)) | refine awp_cond rfl (fun h => ?_) (fun h => ?_)))
      exact awp_ret ⟨_, (ResL.cons (ResA.tmp (.closed _ (closed_ws _))) (ResL.cons (ResA.tmp (.val _)) .nil)), rfl⟩
  · have d1 : (namedD name != 0) = true := by simp [h1]
    rw [show addD l name xt fl limit = (l, namedD name) by unfold addD; rw [if_pos (by simp [h1])]]
    refine FnC.of_awp (T := tt) (ok := tok) Try.func46 (by kernel_rfl) rfl (by kernel_rfl) (closedL_cons (closed_ws l) (closedL_cons (.val _) (closedL_cons (.val _) (closedL_cons (.val _) (closedL_cons (.val _) closedL_nil))))) (fun w0 st0 => ?_)
    dsimp only [frOf]
    (repeat' (first | refine awp_seq ?_ | refine awp_block ?_ | refine awp_region (fun _ => hmix) ?_ | refine ARun.op rfl (by first | exact True.intro | exact rfl | (unfold inR; omega) | omega | ((try unfold inR); simp only [decide_eq_true_eq, decide_eq_false_iff_not, beq_iff_eq, beq_eq_false_iff_ne, ne_eq, Bool.not_eq_true', Bool.not_eq_false', List.length_map, List.length_append, List.length_take, List.length_drop, List.length_replicate, List.length_cons, List.length_nil] at *; omega)) ?_ | refine callX (c1) rfl rfl rfl rfl ?_ | refine callX (c2) rfl rfl rfl rfl ?_ | refine callX (c3) rfl rfl rfl rfl ?_ | ((first | refine ARun.fin (by first | (intro h; cases h; done) | (intro _; kernel_rfl)) ?_ | refine awp_skip ?_ | refine awp_exit ?_); dsimp only [thenA, blockA, AS.bump, List.length_cons, List.length_nil, reduceIte, Nat.reduceEqDiff]) | refine awp_condT rfl (by first | rfl | assumption | exact beq_int _ | exact bne_int _) ?_ | refine awp_condF rfl (by first | rfl | assumption | exact beq_int _ | exact bne_int _) ?_ | ((fail_if_success refine ARun.plain rfl ?_); first | refine ARun.knowT rfl rfl rfl (by first | rfl | assumption | exact beq_int _ | exact bne_int _) ?_ | refine ARun.knowF rfl rfl rfl (by first | rfl | assumption | exact beq_int _ | exact bne_int _) ?_ | refine ARun.fork rfl rfl rfl (fun h => ?_) (fun h => ?_)) | refine awp_cond rfl (fun h => ?_) (fun h => ?_)))
    exact awp_ret ⟨_, (ResL.cons (ResA.tmp (.closed _ (closed_ws _))) (ResL.cons (ResA.tmp (.val _)) .nil)), rfl⟩
end Go.Proofs.Ytgkjappmcgnabaa.Dict
/- stk: Push, Pop, Same. -/
namespace Go.Proofs.Ytgkjappmcgnabaa.Stk
set_option linter.unusedVariables false
set_option linter.unusedSimpArgs false
open Go Go.RowKit
set_option maxRecDepth 100000
attribute [local irreducible] Decidable.decide awp ARun regK toK

def encS (s : List Int) : AV := .sl 1 false (s.map encI)
theorem encI_closed (n : Int) : ∀ x, x ∈ encI n → Closed x := fun x hx => by rw [List.mem_singleton.1 hx]; exact .val _
theorem closed_s (s : List Int) : Closed (encS s) := closed_map encI_closed
theorem clip_c (s : List Int) (hl : s.length ≤ 1000000) : FnC Try.prog 101 [encS s] (.sl 1 true (s.map encI)) := by
  refine FnC.of_awp (T := tt) (ok := tok) Try.func101 (by kernel_rfl) rfl (by kernel_rfl) (closedL_cons (closed_s s) closedL_nil) (fun w0 st0 => ?_)
  dsimp only [frOf]
  (repeat' (first | refine awp_seq ?_ | refine awp_block ?_ | refine awp_region (fun _ => hmix) ?_ | refine ARun.op rfl (by first | exact True.intro | exact rfl | (unfold inR; omega) | omega | ((try unfold inR); simp only [decide_eq_true_eq, decide_eq_false_iff_not, beq_iff_eq, beq_eq_false_iff_ne, ne_eq, Bool.not_eq_true', Bool.not_eq_false', List.length_map, List.length_append, List.length_take, List.length_drop, List.length_replicate, List.length_cons, List.length_nil] at *; omega)) ?_ | refine ARun.sliceClip rfl rfl rfl rfl rfl rfl (by first | exact .inr rfl | exact .inl rfl | (right; simp; done)) rfl (guardF_spec rfl) ?_ | ((first | refine ARun.fin (by first | (intro h; cases h; done) | (intro _; kernel_rfl)) ?_ | refine awp_skip ?_ | refine awp_exit ?_); dsimp only [thenA, blockA, AS.bump, List.length_cons, List.length_nil, reduceIte, Nat.reduceEqDiff]) | refine awp_condT rfl (by first | rfl | assumption | exact beq_int _ | exact bne_int _) ?_ | refine awp_condF rfl (by first | rfl | assumption | exact beq_int _ | exact bne_int _) ?_ | ((fail_if_success refine ARun.plain rfl ?_); first | refine ARun.knowT rfl rfl rfl (by first | rfl | assumption | exact beq_int _ | exact bne_int _) ?_ | refine ARun.knowF rfl rfl rfl (by first | rfl | assumption | exact beq_int _ | exact bne_int _) ?_ | refine ARun.fork rfl rfl rfl (fun h => ?_) (fun h => ?_)) | refine awp_cond rfl (fun h => ?_) (fun h => ?_)))
  refine awp_ret ⟨_, ResL.cons (ResA.tmp (.closed _ (closed_map encI_closed))) .nil, rfl⟩

/-- Push. -/
def pushD (s : List Int) (n limit : Int) : List Int × Int := if limit ≤ (s.length : Int) then (s, -3) else (s ++ [n], 0)
theorem pushD_over {s : List Int} {n limit : Int} (h : limit ≤ (s.length : Int)) : pushD s n limit = (s, -3) := if_pos h
theorem pushD_ok {s : List Int} {n limit : Int} (h : ¬ limit ≤ (s.length : Int)) : pushD s n limit = (s ++ [n], 0) := if_neg h
theorem push_c (s : List Int) (n limit : Int) (hl : s.length ≤ 1000000) : FnC Try.prog 77 [encS s, .val (.int .i64 n), .val (.int .i64 limit)] (.tup [encS (pushD s n limit).1, .val (.int .i64 (pushD s n limit).2)]) := by
  have c := clip_c s hl
  refine FnC.of_awp (T := tt) (ok := tok) Try.func77 (by kernel_rfl) rfl (by kernel_rfl) (closedL_cons (closed_s s) (closedL_cons (.val _) (closedL_cons (.val _) closedL_nil))) (fun w0 st0 => ?_)
  dsimp only [frOf]
  (repeat' (first | refine awp_seq ?_ | refine awp_block ?_ | refine awp_region (fun _ => hmix) ?_ | refine ARun.op rfl (by first | exact True.intro | exact rfl | (unfold inR; omega) | omega | ((try unfold inR); simp only [decide_eq_true_eq, decide_eq_false_iff_not, beq_iff_eq, beq_eq_false_iff_ne, ne_eq, Bool.not_eq_true', Bool.not_eq_false', List.length_map, List.length_append, List.length_take, List.length_drop, List.length_replicate, List.length_cons, List.length_nil] at *; omega)) ?_ | refine callX (c) rfl rfl rfl rfl ?_ | refine ARun.append_fullS rfl (by first | exact SrcA.sl rfl (.inr rfl) | exact SrcA.sl rfl (.inl rfl) | exact SrcA.ownW rfl rfl rfl rfl) rfl rfl rfl (by first | exact .inr rfl | exact .inl rfl | (right; simp; done)) (by first | exact .inr rfl | exact .inl rfl | (right; simp; done)) rfl rfl (by first | omega | (dsimp only [maxLen]; done) | (dsimp only [maxLen]; omega) | (simp only [List.length_append, List.length_map, List.length_take, List.length_drop, List.length_replicate, List.length_cons, List.length_nil, maxLen]; done) | (simp only [List.length_append, List.length_map, List.length_take, List.length_drop, List.length_replicate, List.length_cons, List.length_nil, maxLen]; omega) | (simp only [List.length_append, List.length_map, List.length_take, List.length_drop, List.length_replicate, List.length_cons, List.length_nil, maxLen] at *; done) | (simp only [List.length_append, List.length_map, List.length_take, List.length_drop, List.length_replicate, List.length_cons, List.length_nil, maxLen] at *; omega)) (by first | omega | (dsimp only [maxLen]; done) | (dsimp only [maxLen]; omega) | (simp only [List.length_append, List.length_map, List.length_take, List.length_drop, List.length_replicate, List.length_cons, List.length_nil, maxLen]; done) | (simp only [List.length_append, List.length_map, List.length_take, List.length_drop, List.length_replicate, List.length_cons, List.length_nil, maxLen]; omega) | (simp only [List.length_append, List.length_map, List.length_take, List.length_drop, List.length_replicate, List.length_cons, List.length_nil, maxLen] at *; done) | (simp only [List.length_append, List.length_map, List.length_take, List.length_drop, List.length_replicate, List.length_cons, List.length_nil, maxLen] at *; omega)) rfl (guardF_spec rfl) ?_ | ((first | refine ARun.fin (by first | (intro h; cases h; done) | (intro _; kernel_rfl)) ?_ | refine awp_skip ?_ | refine awp_exit ?_); dsimp only [thenA, blockA, AS.bump, List.length_cons, List.length_nil, reduceIte, Nat.reduceEqDiff]) | refine awp_condT rfl (by first | rfl | assumption | exact beq_int _ | exact bne_int _) ?_ | refine awp_condF rfl (by first | rfl | assumption | exact beq_int _ | exact bne_int _) ?_ | ((fail_if_success refine ARun.plain rfl ?_); first | refine ARun.knowT rfl rfl rfl (by first | rfl | assumption | exact beq_int _ | exact bne_int _) ?_ | refine ARun.knowF rfl rfl rfl (by first | rfl | assumption | exact beq_int _ | exact bne_int _) ?_ | refine ARun.fork rfl rfl rfl (fun h => ?_) (fun h => ?_)) | refine awp_cond rfl (fun h => ?_) (fun h => ?_)))
  · (simp only [decide_eq_true_eq, decide_eq_false_iff_not, List.length_map] at *)
    rw [pushD_over h]
    refine awp_ret ⟨_, ResL.cons (ResA.tmp (.closed _ (closed_map encI_closed))) (ResL.cons (ResA.tmp (.val _)) .nil), rfl⟩
  · (simp only [decide_eq_true_eq, decide_eq_false_iff_not, List.length_map] at *)
    rw [pushD_ok h]
    refine awp_ret ⟨_, ResL.cons (ResA.tmp (.owned rfl rfl rfl (own_closed_app encI_closed (encI_closed n)))) (ResL.cons (ResA.tmp (.val _)) .nil), ?_⟩
    simp [retAV, encS, lkA, encI]
/-- Pop. -/
def popD (s : List Int) : Int × List Int × Int := match s.getLast? with | none => (0, s, -4) | some x => (x, s.dropLast, 0)
theorem popD_nil : popD [] = (0, [], -4) := rfl
theorem popD_snoc (p : List Int) (x : Int) : popD (p ++ [x]) = (x, p, 0) := by unfold popD; simp
theorem snoc_of {s : List Int} (h : s ≠ []) : ∃ p x, s = p ++ [x] := ⟨s.dropLast, s.getLast h, (List.dropLast_concat_getLast h).symm⟩
theorem snoc_ix (p : List Int) (x : Int) : ((p ++ [x]).map encI)[(((((p ++ [x]).map encI).length : Nat) : Int) - 1).toNat]? = some (encI x) := by
  rw [List.length_map, List.length_append, List.length_singleton, List.map_append, show (((p.length + 1 : Nat) : Int) - 1).toNat = (p.map encI).length by rw [List.length_map]; omega]
  simp
theorem pop_c (s : List Int) (hl : s.length ≤ 1000000) : FnC Try.prog 79 [encS s] (.tup [.val (.int .i64 (popD s).1), encS (popD s).2.1, .val (.int .i64 (popD s).2.2)]) := by
  refine FnC.of_awp (T := tt) (ok := tok) Try.func79 (by kernel_rfl) rfl (by kernel_rfl) (closedL_cons (closed_s s) closedL_nil) (fun w0 st0 => ?_)
  dsimp only [frOf]
  by_cases hn : s = []
  · subst hn
    have h0 : ((((([] : List Int).map encI).length : Nat) : Int) == 0) = true := by simp
    (repeat' (first | refine awp_seq ?_ | refine awp_block ?_ | refine awp_region (fun _ => hmix) ?_ | refine ARun.op rfl (by first | exact True.intro | exact rfl | (unfold inR; omega) | omega | ((try unfold inR); simp only [decide_eq_true_eq, decide_eq_false_iff_not, beq_iff_eq, beq_eq_false_iff_ne, ne_eq, Bool.not_eq_true', Bool.not_eq_false', List.length_map, List.length_append, List.length_take, List.length_drop, List.length_replicate, List.length_cons, List.length_nil] at *; omega)) ?_ | ((first | refine ARun.fin (by first | (intro h; cases h; done) | (intro _; kernel_rfl)) ?_ | refine awp_skip ?_ | refine awp_exit ?_); dsimp only [thenA, blockA, AS.bump, List.length_cons, List.length_nil, reduceIte, Nat.reduceEqDiff]) | refine awp_condT rfl (by first | rfl | assumption | exact beq_int _ | exact bne_int _) ?_ | refine awp_condF rfl (by first | rfl | assumption | exact beq_int _ | exact bne_int _) ?_ | ((fail_if_success refine ARun.plain rfl ?_); first | refine ARun.knowT rfl rfl rfl (by first | rfl | assumption | exact beq_int _ | exact bne_int _) ?_ | refine ARun.knowF rfl rfl rfl (by first | rfl | assumption | exact beq_int _ | exact bne_int _) ?_ | refine ARun.fork rfl rfl rfl (fun h => ?_) (fun h => ?_)) | refine awp_cond rfl (fun h => ?_) (fun h => ?_)))
    refine awp_ret ⟨_, (ResL.cons (ResA.tmp (.val _)) (ResL.cons (ResA.tmp (.closed _ (closed_map encI_closed))) (ResL.cons (ResA.tmp (.val _)) .nil))), rfl⟩
  · obtain ⟨p, x, rfl⟩ := snoc_of hn
    have h0 : (((((p ++ [x]).map encI).length : Nat) : Int) == 0) = false := by simp; omega
    have hs : (p ++ [x]).map encI = p.map encI ++ [encI x] := by simp
    have hi := snoc_ix p x
    rw [popD_snoc]
    (repeat' (first | refine awp_seq ?_ | refine awp_block ?_ | refine awp_region (fun _ => hmix) ?_ | refine ARun.op rfl (by first | exact True.intro | exact rfl | (unfold inR; omega) | omega | ((try unfold inR); simp only [decide_eq_true_eq, decide_eq_false_iff_not, beq_iff_eq, beq_eq_false_iff_ne, ne_eq, Bool.not_eq_true', Bool.not_eq_false', List.length_map, List.length_append, List.length_take, List.length_drop, List.length_replicate, List.length_cons, List.length_nil] at *; omega)) ?_ | refine ARun.indexAddr rfl rfl (by first | omega | (dsimp only [maxLen]; done) | (dsimp only [maxLen]; omega) | (simp only [List.length_append, List.length_map, List.length_take, List.length_drop, List.length_replicate, List.length_cons, List.length_nil, maxLen]; done) | (simp only [List.length_append, List.length_map, List.length_take, List.length_drop, List.length_replicate, List.length_cons, List.length_nil, maxLen]; omega) | (simp only [List.length_append, List.length_map, List.length_take, List.length_drop, List.length_replicate, List.length_cons, List.length_nil, maxLen] at *; done) | (simp only [List.length_append, List.length_map, List.length_take, List.length_drop, List.length_replicate, List.length_cons, List.length_nil, maxLen] at *; omega)) (by first | assumption | rfl) rfl rfl rfl rfl rfl (guardF_spec rfl) ?_ | refine ARun.sliceTo rfl (by first | assumption | rfl) rfl (by first | omega | (dsimp only [maxLen]; done) | (dsimp only [maxLen]; omega) | (simp only [List.length_append, List.length_map, List.length_take, List.length_drop, List.length_replicate, List.length_cons, List.length_nil, maxLen]; done) | (simp only [List.length_append, List.length_map, List.length_take, List.length_drop, List.length_replicate, List.length_cons, List.length_nil, maxLen]; omega) | (simp only [List.length_append, List.length_map, List.length_take, List.length_drop, List.length_replicate, List.length_cons, List.length_nil, maxLen] at *; done) | (simp only [List.length_append, List.length_map, List.length_take, List.length_drop, List.length_replicate, List.length_cons, List.length_nil, maxLen] at *; omega)) rfl rfl rfl rfl rfl (guardF_spec rfl) ?_ | ((first | refine ARun.fin (by first | (intro h; cases h; done) | (intro _; kernel_rfl)) ?_ | refine awp_skip ?_ | refine awp_exit ?_); dsimp only [thenA, blockA, AS.bump, List.length_cons, List.length_nil, reduceIte, Nat.reduceEqDiff]) | refine awp_condT rfl (by first | rfl | assumption | exact beq_int _ | exact bne_int _) ?_ | refine awp_condF rfl (by first | rfl | assumption | exact beq_int _ | exact bne_int _) ?_ | ((fail_if_success refine ARun.plain rfl ?_); first | refine ARun.knowT rfl rfl rfl (by first | rfl | assumption | exact beq_int _ | exact bne_int _) ?_ | refine ARun.knowF rfl rfl rfl (by first | rfl | assumption | exact beq_int _ | exact bne_int _) ?_ | refine ARun.fork rfl rfl rfl (fun h => ?_) (fun h => ?_)) | refine awp_cond rfl (fun h => ?_) (fun h => ?_)))
    refine awp_ret ⟨_, (ResL.cons (ResA.tmp (.val _)) (ResL.cons (ResA.tmp (.closed _ (closed_map encI_closed))) (ResL.cons (ResA.tmp (.val _)) .nil))), rfl⟩
/-- Same. -/
def sameD (a b : List Int) : Bool := decide (a = b)
theorem ref_same_c (a b : List Int) (ha : a.length ≤ 1000000) (hb : b.length ≤ 1000000) : FnC Try.prog 52 [encS a, encS b] (.val (.bool (sameD a b))) := by
  refine FnC.of_awp (T := tt) (ok := tok) Try.func52 (by kernel_rfl) rfl (by kernel_rfl) (closedL_cons (closed_s a) (closedL_cons (closed_s b) closedL_nil)) (fun w0 st0 => ?_)
  dsimp only [frOf]
  by_cases hne : a.length = b.length
  · have hc0 : ((((a.map encI).length : Nat) : Int) != (((b.map encI).length : Nat) : Int)) = false := by simp [hne]
    (repeat' (first | refine awp_seq ?_ | refine awp_block ?_ | refine awp_region (fun _ => hmix) ?_ | refine ARun.op rfl (by first | exact True.intro | exact rfl | (unfold inR; omega) | omega | ((try unfold inR); simp only [decide_eq_true_eq, decide_eq_false_iff_not, beq_iff_eq, beq_eq_false_iff_ne, ne_eq, Bool.not_eq_true', Bool.not_eq_false', List.length_map, List.length_append, List.length_take, List.length_drop, List.length_replicate, List.length_cons, List.length_nil] at *; omega)) ?_ | ((first | refine ARun.fin (by first | (intro h; cases h; done) | (intro _; kernel_rfl)) ?_ | refine awp_skip ?_ | refine awp_exit ?_); dsimp only [thenA, blockA, AS.bump, List.length_cons, List.length_nil, reduceIte, Nat.reduceEqDiff]) | refine awp_condT rfl (by first | rfl | assumption | exact beq_int _ | exact bne_int _) ?_ | refine awp_condF rfl (by first | rfl | assumption | exact beq_int _ | exact bne_int _) ?_ | ((fail_if_success refine ARun.plain rfl ?_); first | refine ARun.knowT rfl rfl rfl (by first | rfl | assumption | exact beq_int _ | exact bne_int _) ?_ | refine ARun.knowF rfl rfl rfl (by first | rfl | assumption | exact beq_int _ | exact bne_int _) ?_ | refine ARun.fork rfl rfl rfl (fun h => ?_) (fun h => ?_)) | refine awp_cond rfl (fun h => ?_) (fun h => ?_)))
    refine awp_loopT (T := Nat × Nat) (fun t => ⟨[(0, encS a), (1, encS b), (4, .val (.bool false)), (5, .val (.int .i64 (t.1 : Nat)))], [], t.2⟩)
      (fun t => t.1 ≤ a.length ∧ a.take t.1 = b.take t.1) (fun t => a.length - t.1) (0, _) ⟨Nat.zero_le _, rfl⟩ ⟨⟨rfl, rfl, rfl, rfl, trivial⟩, trivial, Nat.le_refl _⟩ (fun t ht => ?_)
    obtain ⟨k, gc⟩ := t
    obtain ⟨hk, hA⟩ := ht
    dsimp only at hk hA ⊢
    by_cases hlt : k < a.length
    · have h1 : a[k]? = some a[k] := List.getElem?_eq_getElem hlt
      have h2 : b[k]? = some b[k] := List.getElem?_eq_getElem (by omega)
      have hc : decide (((k : Nat) : Int) < (((a.map encI).length : Nat) : Int)) = true := by rw [List.length_map]; simp; omega
      have e1 := take_succ' h1
      have e2 := take_succ' h2
      by_cases heq : a[k] = b[k]
      · have hd : (a[k] != b[k]) = false := by simp [heq]
        (repeat' (first | refine awp_seq ?_ | refine awp_block ?_ | refine awp_region (fun _ => hmix) ?_ | refine ARun.op rfl (by first | exact True.intro | exact rfl | (unfold inR; omega) | omega | ((try unfold inR); simp only [decide_eq_true_eq, decide_eq_false_iff_not, beq_iff_eq, beq_eq_false_iff_ne, ne_eq, Bool.not_eq_true', Bool.not_eq_false', List.length_map, List.length_append, List.length_take, List.length_drop, List.length_replicate, List.length_cons, List.length_nil] at *; omega)) ?_ | refine ARun.indexAddr rfl rfl (by omega) (by first | with_reducible exact get_map h1 | with_reducible exact get_map h2) rfl rfl rfl rfl rfl (guardF_spec rfl) ?_ | ((first | refine ARun.fin (by first | (intro h; cases h; done) | (intro _; kernel_rfl)) ?_ | refine awp_skip ?_ | refine awp_exit ?_); dsimp only [thenA, blockA, AS.bump, List.length_cons, List.length_nil, reduceIte, Nat.reduceEqDiff]) | refine awp_condT rfl (by first | rfl | assumption | exact beq_int _ | exact bne_int _) ?_ | refine awp_condF rfl (by first | rfl | assumption | exact beq_int _ | exact bne_int _) ?_ | ((fail_if_success refine ARun.plain rfl ?_); first | refine ARun.knowT rfl rfl rfl (by first | rfl | assumption | exact beq_int _ | exact bne_int _) ?_ | refine ARun.knowF rfl rfl rfl (by first | rfl | assumption | exact beq_int _ | exact bne_int _) ?_ | refine ARun.fork rfl rfl rfl (fun h => ?_) (fun h => ?_)) | refine awp_cond rfl (fun h => ?_) (fun h => ?_)))
        refine ⟨(k + 1, _), ⟨⟨rfl, rfl, rfl, succI k, trivial⟩, trivial, Nat.le_refl _⟩, ⟨hlt, ?_⟩, (by dsimp only; omega)⟩
        dsimp only
        rw [e1, e2, hA, heq]
      · have hd : (a[k] != b[k]) = true := by simp [heq]
        (repeat' (first | refine awp_seq ?_ | refine awp_block ?_ | refine awp_region (fun _ => hmix) ?_ | refine ARun.op rfl (by first | exact True.intro | exact rfl | (unfold inR; omega) | omega | ((try unfold inR); simp only [decide_eq_true_eq, decide_eq_false_iff_not, beq_iff_eq, beq_eq_false_iff_ne, ne_eq, Bool.not_eq_true', Bool.not_eq_false', List.length_map, List.length_append, List.length_take, List.length_drop, List.length_replicate, List.length_cons, List.length_nil] at *; omega)) ?_ | refine ARun.indexAddr rfl rfl (by omega) (by first | with_reducible exact get_map h1 | with_reducible exact get_map h2) rfl rfl rfl rfl rfl (guardF_spec rfl) ?_ | ((first | refine ARun.fin (by first | (intro h; cases h; done) | (intro _; kernel_rfl)) ?_ | refine awp_skip ?_ | refine awp_exit ?_); dsimp only [thenA, blockA, AS.bump, List.length_cons, List.length_nil, reduceIte, Nat.reduceEqDiff]) | refine awp_condT rfl (by first | rfl | assumption | exact beq_int _ | exact bne_int _) ?_ | refine awp_condF rfl (by first | rfl | assumption | exact beq_int _ | exact bne_int _) ?_ | ((fail_if_success refine ARun.plain rfl ?_); first | refine ARun.knowT rfl rfl rfl (by first | rfl | assumption | exact beq_int _ | exact bne_int _) ?_ | refine ARun.knowF rfl rfl rfl (by first | rfl | assumption | exact beq_int _ | exact bne_int _) ?_ | refine ARun.fork rfl rfl rfl (fun h => ?_) (fun h => ?_)) | refine awp_cond rfl (fun h => ?_) (fun h => ?_)))
        have : sameD a b = false := by
          unfold sameD
          rw [decide_eq_false_iff_not]
          intro e
          subst e
          exact heq rfl
        rw [this]
        refine awp_ret ⟨_, ResL.cons (ResA.tmp (.val _)) .nil, rfl⟩
    · have hk : k = a.length := by omega
      subst hk
      have hc : decide (((a.length : Nat) : Int) < (((a.map encI).length : Nat) : Int)) = false := by rw [List.length_map]; simp
      (repeat' (first | refine awp_seq ?_ | refine awp_block ?_ | refine awp_region (fun _ => hmix) ?_ | refine ARun.op rfl (by first | exact True.intro | exact rfl | (unfold inR; omega) | omega | ((try unfold inR); simp only [decide_eq_true_eq, decide_eq_false_iff_not, beq_iff_eq, beq_eq_false_iff_ne, ne_eq, Bool.not_eq_true', Bool.not_eq_false', List.length_map, List.length_append, List.length_take, List.length_drop, List.length_replicate, List.length_cons, List.length_nil] at *; omega)) ?_ | ((first | refine ARun.fin (by first | (intro h; cases h; done) | (intro _; kernel_rfl)) ?_ | refine awp_skip ?_ | refine awp_exit ?_); dsimp only [thenA, blockA, AS.bump, List.length_cons, List.length_nil, reduceIte, Nat.reduceEqDiff]) | refine awp_condT rfl (by first | rfl | assumption | exact beq_int _ | exact bne_int _) ?_ | refine awp_condF rfl (by first | rfl | assumption | exact beq_int _ | exact bne_int _) ?_ | ((fail_if_success refine ARun.plain rfl ?_); first | refine ARun.knowT rfl rfl rfl (by first | rfl | assumption | exact beq_int _ | exact bne_int _) ?_ | refine ARun.knowF rfl rfl rfl (by first | rfl | assumption | exact beq_int _ | exact bne_int _) ?_ | refine ARun.fork rfl rfl rfl (fun h => ?_) (fun h => ?_)) | refine awp_cond rfl (fun h => ?_) (fun h => ?_)))
      have : sameD a b = true := by
        unfold sameD
        rw [decide_eq_true_eq]
        rw [List.take_length, hne, List.take_length] at hA
        exact hA
      rw [this]
      refine awp_ret ⟨_, ResL.cons (ResA.tmp (.val _)) .nil, rfl⟩
  · have hc0 : ((((a.map encI).length : Nat) : Int) != (((b.map encI).length : Nat) : Int)) = true := by simp; omega
    (repeat' (first | refine awp_seq ?_ | refine awp_block ?_ | refine awp_region (fun _ => hmix) ?_ | refine ARun.op rfl (by first | exact True.intro | exact rfl | (unfold inR; omega) | omega | ((try unfold inR); simp only [decide_eq_true_eq, decide_eq_false_iff_not, beq_iff_eq, beq_eq_false_iff_ne, ne_eq, Bool.not_eq_true', Bool.not_eq_false', List.length_map, List.length_append, List.length_take, List.length_drop, List.length_replicate, List.length_cons, List.length_nil] at *; omega)) ?_ | ((first | refine ARun.fin (by first | (intro h; cases h; done) | (intro _; kernel_rfl)) ?_ | refine awp_skip ?_ | refine awp_exit ?_); dsimp only [thenA, blockA, AS.bump, List.length_cons, List.length_nil, reduceIte, Nat.reduceEqDiff]) | refine awp_condT rfl (by first | rfl | assumption | exact beq_int _ | exact bne_int _) ?_ | refine awp_condF rfl (by first | rfl | assumption | exact beq_int _ | exact bne_int _) ?_ | ((fail_if_success refine ARun.plain rfl ?_); first | refine ARun.knowT rfl rfl rfl (by first | rfl | assumption | exact beq_int _ | exact bne_int _) ?_ | refine ARun.knowF rfl rfl rfl (by first | rfl | assumption | exact beq_int _ | exact bne_int _) ?_ | refine ARun.fork rfl rfl rfl (fun h => ?_) (fun h => ?_)) | refine awp_cond rfl (fun h => ?_) (fun h => ?_)))
    have : sameD a b = false := by
      unfold sameD
      rw [decide_eq_false_iff_not]
      intro e
      subst e
      exact hne rfl
    rw [this]
    refine awp_ret ⟨_, ResL.cons (ResA.tmp (.val _)) .nil, rfl⟩

end Go.Proofs.Ytgkjappmcgnabaa.Stk
/- vm: names, kinds, flags, configurations. -/
namespace Go.Proofs.Ytgkjappmcgnabaa
set_option linter.unusedVariables false
set_option linter.unusedSimpArgs false
open Go Go.RowKit
open Dict (St Bs bs_eq)
set_option maxRecDepth 100000
def nmsV : List Bs := [
  [40, 101, 120, 105, 116, 41], [40, 108, 105, 116, 41], [40, 98, 114, 97, 110, 99, 104, 41], [40, 48, 98, 114, 97, 110, 99, 104, 41],
  [40, 100, 111, 41], [40, 63, 100, 111, 41], [40, 108, 111, 111, 112, 41], [40, 43, 108, 111, 111, 112, 41], [40, 104, 97, 108, 116, 41],
  [40, 99, 97, 117, 103, 104, 116, 41], [40, 100, 111, 101, 115, 41], [40, 115, 116, 114, 41], [69, 88, 69, 67, 85, 84, 69], [67, 65, 84, 67, 72],
  [84, 72, 82, 79, 87], [73], [74], [85, 78, 76, 79, 79, 80], [62, 82], [82, 62], [82, 64], [50, 62, 82], [50, 82, 62], [68, 85, 80],
  [68, 82, 79, 80], [83, 87, 65, 80], [79, 86, 69, 82], [82, 79, 84], [45, 82, 79, 84], [78, 73, 80], [84, 85, 67, 75], [63, 68, 85, 80],
  [50, 68, 85, 80], [50, 68, 82, 79, 80], [50, 83, 87, 65, 80], [50, 79, 86, 69, 82], [80, 73, 67, 75], [82, 79, 76, 76], [68, 69, 80, 84, 72], [43],
  [45], [42], [47], [77, 79, 68], [65, 78, 68], [79, 82], [88, 79, 82], [76, 83, 72, 73, 70, 84], [82, 83, 72, 73, 70, 84], [77, 73, 78],
  [77, 65, 88], [61], [60, 62], [60], [62], [60, 61], [62, 61], [85, 60], [85, 62], [78, 69, 71, 65, 84, 69], [65, 66, 83], [73, 78, 86, 69, 82, 84],
  [49, 43], [49, 45], [50, 42], [50, 47], [48, 61], [48, 60], [48, 60, 62], [48, 62], [67, 69, 76, 76, 83], [67, 69, 76, 76, 43],
  [65, 76, 73, 71, 78, 69, 68], [47, 77, 79, 68], [42, 47], [42, 47, 77, 79, 68], [85, 77, 42], [85, 77, 47, 77, 79, 68], [77, 42],
  [83, 77, 47, 82, 69, 77], [70, 77, 47, 77, 79, 68], [83, 62, 68], [87, 73, 84, 72, 73, 78], [64], [33], [43, 33], [67, 64], [67, 33], [50, 64],
  [50, 33], [70, 73, 76, 76], [77, 79, 86, 69], [67, 79, 85, 78, 84], [72, 69, 82, 69], [65, 76, 76, 79, 84], [44], [67, 44], [65, 76, 73, 71, 78],
  [66, 65, 83, 69], [83, 84, 65, 84, 69], [84, 82, 85, 69], [70, 65, 76, 83, 69], [66, 76], [68, 69, 67, 73, 77, 65, 76], [72, 69, 88],
  [69, 77, 73, 84], [67, 82], [83, 80, 65, 67, 69], [83, 80, 65, 67, 69, 83], [84, 89, 80, 69], [46], [85, 46], [60, 35], [35], [35, 83],
  [72, 79, 76, 68], [83, 73, 71, 78], [35, 62], [62, 66, 79, 68, 89], [65, 66, 79, 82, 84], [80, 79, 83, 84], [65, 70, 84, 69, 82],
  [69, 86, 69, 82, 89], [67, 65, 78, 67, 69, 76], [65, 82, 71], [83, 69, 76, 70], [78, 79, 87], [83, 69, 84, 45, 83, 84, 65, 84, 69],
  [65, 84, 45, 83, 84, 65, 84, 69], [71, 69, 84, 45, 83, 84, 65, 84, 69]]
def spcV : List Bs := [
  [58], [59], [67, 82, 69, 65, 84, 69], [68, 79, 69, 83, 62], [86, 65, 82, 73, 65, 66, 76, 69], [67, 79, 78, 83, 84, 65, 78, 84],
  [73, 77, 77, 69, 68, 73, 65, 84, 69], [39], [91, 39, 93], [67, 72, 65, 82], [91, 67, 72, 65, 82, 93], [76, 73, 84, 69, 82, 65, 76],
  [80, 79, 83, 84, 80, 79, 78, 69], [82, 69, 67, 85, 82, 83, 69], [73, 70], [69, 76, 83, 69], [84, 72, 69, 78], [66, 69, 71, 73, 78],
  [87, 72, 73, 76, 69], [82, 69, 80, 69, 65, 84], [85, 78, 84, 73, 76], [65, 71, 65, 73, 78], [68, 79], [63, 68, 79], [76, 79, 79, 80],
  [43, 76, 79, 79, 80], [76, 69, 65, 86, 69], [83, 34], [46, 34], [40], [92], [91], [93], [70, 79, 82, 71, 69, 84], [77, 65, 67, 72, 73, 78, 69],
  [79, 78, 58], [69, 88, 73, 84]]
def onlyV : List Bs := [
  [73], [74], [85, 78, 76, 79, 79, 80], [62, 82], [82, 62], [82, 64], [50, 62, 82], [50, 82, 62]]
def nowV : List Bs := [
  [46, 34], [40], [92], [91]]
def bothV : List Bs := [
  [59], [68, 79, 69, 83, 62], [91, 39, 93], [91, 67, 72, 65, 82, 93], [76, 73, 84, 69, 82, 65, 76], [80, 79, 83, 84, 80, 79, 78, 69],
  [82, 69, 67, 85, 82, 83, 69], [73, 70], [69, 76, 83, 69], [84, 72, 69, 78], [66, 69, 71, 73, 78], [87, 72, 73, 76, 69], [82, 69, 80, 69, 65, 84],
  [85, 78, 84, 73, 76], [65, 71, 65, 73, 78], [68, 79], [63, 68, 79], [76, 79, 79, 80], [43, 76, 79, 79, 80], [76, 69, 65, 86, 69], [83, 34],
  [69, 88, 73, 84]]
def encN (l : Bs) : List AV := [St l]
theorem encN_closed (l : Bs) : ∀ x, x ∈ encN l → Closed x := fun x hx => by rw [List.mem_singleton.1 hx]; exact .val _
theorem closed_ns (l : List Bs) : Closed (.sl 1 false (l.map encN)) := closed_map encN_closed
attribute [local irreducible] Decidable.decide awp ARun regK toK
set_option maxHeartbeats 4000000 in
theorem names_c : FnC Try.prog 12 [] (.sl 1 true (nmsV.map encN)) := by
  refine FnC.of_awp (T := tt) (ok := tok) Try.func12 (by kernel_rfl) rfl (by kernel_rfl) closedL_nil (fun w0 st0 => ?_)
  dsimp only [frOf]
  (repeat' (first | refine awp_seq ?_ | refine awp_block ?_ | refine awp_region (fun _ => hmix) ?_ | refine ARun.op rfl (by first | exact True.intro | exact rfl | (unfold inR; omega) | omega | ((try unfold inR); simp only [decide_eq_true_eq, decide_eq_false_iff_not, beq_iff_eq, beq_eq_false_iff_ne, ne_eq, Bool.not_eq_true', Bool.not_eq_false', List.length_map, List.length_append, List.length_take, List.length_drop, List.length_replicate, List.length_cons, List.length_nil] at *; omega)) ?_ | ((first | refine ARun.fin (by first | (intro h; cases h; done) | (intro _; kernel_rfl)) ?_ | refine awp_skip ?_ | refine awp_exit ?_); dsimp only [thenA, blockA, AS.bump, List.length_cons, List.length_nil, reduceIte, Nat.reduceEqDiff]) | refine awp_condT rfl (by first | rfl | assumption | exact beq_int _ | exact bne_int _) ?_ | refine awp_condF rfl (by first | rfl | assumption | exact beq_int _ | exact bne_int _) ?_ | ((fail_if_success refine ARun.plain rfl ?_); first | refine ARun.knowT rfl rfl rfl (by first | rfl | assumption | exact beq_int _ | exact bne_int _) ?_ | refine ARun.knowF rfl rfl rfl (by first | rfl | assumption | exact beq_int _ | exact bne_int _) ?_ | refine ARun.fork rfl rfl rfl (fun h => ?_) (fun h => ?_)) | refine awp_cond rfl (fun h => ?_) (fun h => ?_)))
  refine awp_ret ⟨_, ResL.cons (ResA.tmp (.closed (.sl 1 true (nmsV.map encN)) (closed_map encN_closed))) .nil, rfl⟩
set_option maxHeartbeats 4000000 in
theorem specials_c : FnC Try.prog 14 [] (.sl 1 true (spcV.map encN)) := by
  refine FnC.of_awp (T := tt) (ok := tok) Try.func14 (by kernel_rfl) rfl (by kernel_rfl) closedL_nil (fun w0 st0 => ?_)
  dsimp only [frOf]
  (repeat' (first | refine awp_seq ?_ | refine awp_block ?_ | refine awp_region (fun _ => hmix) ?_ | refine ARun.op rfl (by first | exact True.intro | exact rfl | (unfold inR; omega) | omega | ((try unfold inR); simp only [decide_eq_true_eq, decide_eq_false_iff_not, beq_iff_eq, beq_eq_false_iff_ne, ne_eq, Bool.not_eq_true', Bool.not_eq_false', List.length_map, List.length_append, List.length_take, List.length_drop, List.length_replicate, List.length_cons, List.length_nil] at *; omega)) ?_ | ((first | refine ARun.fin (by first | (intro h; cases h; done) | (intro _; kernel_rfl)) ?_ | refine awp_skip ?_ | refine awp_exit ?_); dsimp only [thenA, blockA, AS.bump, List.length_cons, List.length_nil, reduceIte, Nat.reduceEqDiff]) | refine awp_condT rfl (by first | rfl | assumption | exact beq_int _ | exact bne_int _) ?_ | refine awp_condF rfl (by first | rfl | assumption | exact beq_int _ | exact bne_int _) ?_ | ((fail_if_success refine ARun.plain rfl ?_); first | refine ARun.knowT rfl rfl rfl (by first | rfl | assumption | exact beq_int _ | exact bne_int _) ?_ | refine ARun.knowF rfl rfl rfl (by first | rfl | assumption | exact beq_int _ | exact bne_int _) ?_ | refine ARun.fork rfl rfl rfl (fun h => ?_) (fun h => ?_)) | refine awp_cond rfl (fun h => ?_) (fun h => ?_)))
  refine awp_ret ⟨_, ResL.cons (ResA.tmp (.closed (.sl 1 true (spcV.map encN)) (closed_map encN_closed))) .nil, rfl⟩
set_option maxHeartbeats 4000000 in
theorem ref_names_c : FnC Try.prog 13 [] (.sl 1 true (nmsV.map encN)) := by
  refine FnC.of_awp (T := tt) (ok := tok) Try.func13 (by kernel_rfl) rfl (by kernel_rfl) closedL_nil (fun w0 st0 => ?_)
  dsimp only [frOf]
  (repeat' (first | refine awp_seq ?_ | refine awp_block ?_ | refine awp_region (fun _ => hmix) ?_ | refine ARun.op rfl (by first | exact True.intro | exact rfl | (unfold inR; omega) | omega | ((try unfold inR); simp only [decide_eq_true_eq, decide_eq_false_iff_not, beq_iff_eq, beq_eq_false_iff_ne, ne_eq, Bool.not_eq_true', Bool.not_eq_false', List.length_map, List.length_append, List.length_take, List.length_drop, List.length_replicate, List.length_cons, List.length_nil] at *; omega)) ?_ | ((first | refine ARun.fin (by first | (intro h; cases h; done) | (intro _; kernel_rfl)) ?_ | refine awp_skip ?_ | refine awp_exit ?_); dsimp only [thenA, blockA, AS.bump, List.length_cons, List.length_nil, reduceIte, Nat.reduceEqDiff]) | refine awp_condT rfl (by first | rfl | assumption | exact beq_int _ | exact bne_int _) ?_ | refine awp_condF rfl (by first | rfl | assumption | exact beq_int _ | exact bne_int _) ?_ | ((fail_if_success refine ARun.plain rfl ?_); first | refine ARun.knowT rfl rfl rfl (by first | rfl | assumption | exact beq_int _ | exact bne_int _) ?_ | refine ARun.knowF rfl rfl rfl (by first | rfl | assumption | exact beq_int _ | exact bne_int _) ?_ | refine ARun.fork rfl rfl rfl (fun h => ?_) (fun h => ?_)) | refine awp_cond rfl (fun h => ?_) (fun h => ?_)))
  refine awp_ret ⟨_, ResL.cons (ResA.tmp (.closed (.sl 1 true (nmsV.map encN)) (closed_map encN_closed))) .nil, rfl⟩
set_option maxHeartbeats 4000000 in
theorem ref_specials_c : FnC Try.prog 15 [] (.sl 1 true (spcV.map encN)) := by
  refine FnC.of_awp (T := tt) (ok := tok) Try.func15 (by kernel_rfl) rfl (by kernel_rfl) closedL_nil (fun w0 st0 => ?_)
  dsimp only [frOf]
  (repeat' (first | refine awp_seq ?_ | refine awp_block ?_ | refine awp_region (fun _ => hmix) ?_ | refine ARun.op rfl (by first | exact True.intro | exact rfl | (unfold inR; omega) | omega | ((try unfold inR); simp only [decide_eq_true_eq, decide_eq_false_iff_not, beq_iff_eq, beq_eq_false_iff_ne, ne_eq, Bool.not_eq_true', Bool.not_eq_false', List.length_map, List.length_append, List.length_take, List.length_drop, List.length_replicate, List.length_cons, List.length_nil] at *; omega)) ?_ | ((first | refine ARun.fin (by first | (intro h; cases h; done) | (intro _; kernel_rfl)) ?_ | refine awp_skip ?_ | refine awp_exit ?_); dsimp only [thenA, blockA, AS.bump, List.length_cons, List.length_nil, reduceIte, Nat.reduceEqDiff]) | refine awp_condT rfl (by first | rfl | assumption | exact beq_int _ | exact bne_int _) ?_ | refine awp_condF rfl (by first | rfl | assumption | exact beq_int _ | exact bne_int _) ?_ | ((fail_if_success refine ARun.plain rfl ?_); first | refine ARun.knowT rfl rfl rfl (by first | rfl | assumption | exact beq_int _ | exact bne_int _) ?_ | refine ARun.knowF rfl rfl rfl (by first | rfl | assumption | exact beq_int _ | exact bne_int _) ?_ | refine ARun.fork rfl rfl rfl (fun h => ?_) (fun h => ?_)) | refine awp_cond rfl (fun h => ?_) (fun h => ?_)))
  refine awp_ret ⟨_, ResL.cons (ResA.tmp (.closed (.sl 1 true (spcV.map encN)) (closed_map encN_closed))) .nil, rfl⟩
theorem len_nms : (nmsV.map encN).length = 130 := by rw [List.length_map]; rfl
theorem len_spc : (spcV.map encN).length = 37 := by rw [List.length_map]; rfl
theorem start_c : FnC Try.prog 16 [] (.val (.int .i64 1368)) := by
  have c1 := names_c
  have c2 := specials_c
  have e1 := len_nms
  have e2 := len_spc
  generalize nmsV.map encN = l1 at *
  generalize spcV.map encN = l2 at *
  have e3 : (32 : Int) + 8 * ((l1.length : Int) + (l2.length : Int)) = 1368 := by rw [e1, e2]; rfl
  refine FnC.of_awp (T := tt) (ok := tok) Try.func16 (by kernel_rfl) rfl (by kernel_rfl) closedL_nil (fun w0 st0 => ?_)
  dsimp only [frOf]
  (repeat' (first | refine awp_seq ?_ | refine awp_block ?_ | refine awp_region (fun _ => hmix) ?_ | refine ARun.op rfl (by first | exact True.intro | exact rfl | (unfold inR; omega) | omega | ((try unfold inR); simp only [decide_eq_true_eq, decide_eq_false_iff_not, beq_iff_eq, beq_eq_false_iff_ne, ne_eq, Bool.not_eq_true', Bool.not_eq_false', List.length_map, List.length_append, List.length_take, List.length_drop, List.length_replicate, List.length_cons, List.length_nil] at *; omega)) ?_ | refine callX (c1) rfl rfl rfl rfl ?_ | refine callX (c2) rfl rfl rfl rfl ?_ | ((first | refine ARun.fin (by first | (intro h; cases h; done) | (intro _; kernel_rfl)) ?_ | refine awp_skip ?_ | refine awp_exit ?_); dsimp only [thenA, blockA, AS.bump, List.length_cons, List.length_nil, reduceIte, Nat.reduceEqDiff]) | refine awp_condT rfl (by first | rfl | assumption | exact beq_int _ | exact bne_int _) ?_ | refine awp_condF rfl (by first | rfl | assumption | exact beq_int _ | exact bne_int _) ?_ | ((fail_if_success refine ARun.plain rfl ?_); first | refine ARun.knowT rfl rfl rfl (by first | rfl | assumption | exact beq_int _ | exact bne_int _) ?_ | refine ARun.knowF rfl rfl rfl (by first | rfl | assumption | exact beq_int _ | exact bne_int _) ?_ | refine ARun.fork rfl rfl rfl (fun h => ?_) (fun h => ?_)) | refine awp_cond rfl (fun h => ?_) (fun h => ?_)))
  exact awp_ret ⟨_, ResL.cons (ResA.tmp (.val _)) .nil, congrArg (fun n => AV.val (.int .i64 n)) e3.symm⟩
theorem ref_start_c : FnC Try.prog 17 [] (.val (.int .i64 1368)) := by
  refine FnC.of_awp (T := tt) (ok := tok) Try.func17 (by kernel_rfl) rfl (by kernel_rfl) closedL_nil (fun w0 st0 => ?_)
  dsimp only [frOf]
  (repeat' (first | refine awp_seq ?_ | refine awp_block ?_ | refine awp_region (fun _ => hmix) ?_ | refine ARun.op rfl (by first | exact True.intro | exact rfl | (unfold inR; omega) | omega | ((try unfold inR); simp only [decide_eq_true_eq, decide_eq_false_iff_not, beq_iff_eq, beq_eq_false_iff_ne, ne_eq, Bool.not_eq_true', Bool.not_eq_false', List.length_map, List.length_append, List.length_take, List.length_drop, List.length_replicate, List.length_cons, List.length_nil] at *; omega)) ?_ | ((first | refine ARun.fin (by first | (intro h; cases h; done) | (intro _; kernel_rfl)) ?_ | refine awp_skip ?_ | refine awp_exit ?_); dsimp only [thenA, blockA, AS.bump, List.length_cons, List.length_nil, reduceIte, Nat.reduceEqDiff]) | refine awp_condT rfl (by first | rfl | assumption | exact beq_int _ | exact bne_int _) ?_ | refine awp_condF rfl (by first | rfl | assumption | exact beq_int _ | exact bne_int _) ?_ | ((fail_if_success refine ARun.plain rfl ?_); first | refine ARun.knowT rfl rfl rfl (by first | rfl | assumption | exact beq_int _ | exact bne_int _) ?_ | refine ARun.knowF rfl rfl rfl (by first | rfl | assumption | exact beq_int _ | exact bne_int _) ?_ | refine ARun.fork rfl rfl rfl (fun h => ?_) (fun h => ?_)) | refine awp_cond rfl (fun h => ?_) (fun h => ?_)))
  exact awp_ret ⟨_, ResL.cons (ResA.tmp (.val _)) .nil, rfl⟩
theorem within_c (n lo hi : Int) : FnC Try.prog 50 [.val (.int .i64 n), .val (.int .i64 lo), .val (.int .i64 hi)] (.val (.bool (decide (lo ≤ n ∧ n ≤ hi)))) := by
  refine FnC.of_awp (T := tt) (ok := tok) Try.func50 (by kernel_rfl) rfl (by kernel_rfl) (closedL_cons (.val _) (closedL_cons (.val _) (closedL_cons (.val _) closedL_nil))) (fun w0 st0 => ?_)
  dsimp only [frOf]
  by_cases h1 : lo ≤ n
  · have d1 : decide (lo ≤ n) = true := decide_eq_true h1
    (repeat' (first | refine awp_seq ?_ | refine awp_block ?_ | refine awp_region (fun _ => hmix) ?_ | refine ARun.op rfl (by first | exact True.intro | exact rfl | (unfold inR; omega) | omega | ((try unfold inR); simp only [decide_eq_true_eq, decide_eq_false_iff_not, beq_iff_eq, beq_eq_false_iff_ne, ne_eq, Bool.not_eq_true', Bool.not_eq_false', List.length_map, List.length_append, List.length_take, List.length_drop, List.length_replicate, List.length_cons, List.length_nil] at *; omega)) ?_ | ((first | refine ARun.fin (by first | (intro h; cases h; done) | (intro _; kernel_rfl)) ?_ | refine awp_skip ?_ | refine awp_exit ?_); dsimp only [thenA, blockA, AS.bump, List.length_cons, List.length_nil, reduceIte, Nat.reduceEqDiff]) | refine awp_condT rfl (by first | rfl | assumption | exact beq_int _ | exact bne_int _) ?_ | refine awp_condF rfl (by first | rfl | assumption | exact beq_int _ | exact bne_int _) ?_ | ((fail_if_success refine ARun.plain rfl ?_); first | refine ARun.knowT rfl rfl rfl (by first | rfl | assumption | exact beq_int _ | exact bne_int _) ?_ | refine ARun.knowF rfl rfl rfl (by first | rfl | assumption | exact beq_int _ | exact bne_int _) ?_ | refine ARun.fork rfl rfl rfl (fun h => ?_) (fun h => ?_)) | refine awp_cond rfl (fun h => ?_) (fun h => ?_)))
    refine awp_ret ⟨_, ResL.cons (ResA.tmp (.val _)) .nil, congrArg (fun b => AV.val (.bool b)) ?_⟩
    exact decide_eq_decide.2 (by omega)
  · have d1 : decide (lo ≤ n) = false := decide_eq_false h1
    (repeat' (first | refine awp_seq ?_ | refine awp_block ?_ | refine awp_region (fun _ => hmix) ?_ | refine ARun.op rfl (by first | exact True.intro | exact rfl | (unfold inR; omega) | omega | ((try unfold inR); simp only [decide_eq_true_eq, decide_eq_false_iff_not, beq_iff_eq, beq_eq_false_iff_ne, ne_eq, Bool.not_eq_true', Bool.not_eq_false', List.length_map, List.length_append, List.length_take, List.length_drop, List.length_replicate, List.length_cons, List.length_nil] at *; omega)) ?_ | ((first | refine ARun.fin (by first | (intro h; cases h; done) | (intro _; kernel_rfl)) ?_ | refine awp_skip ?_ | refine awp_exit ?_); dsimp only [thenA, blockA, AS.bump, List.length_cons, List.length_nil, reduceIte, Nat.reduceEqDiff]) | refine awp_condT rfl (by first | rfl | assumption | exact beq_int _ | exact bne_int _) ?_ | refine awp_condF rfl (by first | rfl | assumption | exact beq_int _ | exact bne_int _) ?_ | ((fail_if_success refine ARun.plain rfl ?_); first | refine ARun.knowT rfl rfl rfl (by first | rfl | assumption | exact beq_int _ | exact bne_int _) ?_ | refine ARun.knowF rfl rfl rfl (by first | rfl | assumption | exact beq_int _ | exact bne_int _) ?_ | refine ARun.fork rfl rfl rfl (fun h => ?_) (fun h => ?_)) | refine awp_cond rfl (fun h => ?_) (fun h => ?_)))
    refine awp_ret ⟨_, ResL.cons (ResA.tmp (.val _)) .nil, congrArg (fun b => AV.val (.bool b)) ?_⟩
    exact decide_eq_false (by omega)
structure Cf where
  mem : Int
  data : Int
  ret : Int
  words : Int
  out : Int
def encC (c : Cf) : List AV := [.val (.int .i64 c.mem), .val (.int .i64 c.data), .val (.int .i64 c.ret), .val (.int .i64 c.words), .val (.int .i64 c.out)]
theorem encC_closed (c : Cf) : ∀ x, x ∈ encC c → Closed x := closedL_cons (.val _) (closedL_cons (.val _) (closedL_cons (.val _) (closedL_cons (.val _) (closedL_cons (.val _) closedL_nil))))
def FitsP (c : Cf) : Prop := (2048 ≤ c.mem ∧ c.mem ≤ 65536) ∧ c.mem.tmod 8 = 0 ∧ (1 ≤ c.data ∧ c.data ≤ 256) ∧ (1 ≤ c.ret ∧ c.ret ≤ 256) ∧ (200 ≤ c.words ∧ c.words ≤ 1024) ∧ 0 ≤ c.out ∧ c.out ≤ 65536
open Classical in
noncomputable def fitsD (c : Cf) : Bool := if FitsP c then true else false
theorem fits_yes {c : Cf} (h : FitsP c) : fitsD c = true := by unfold fitsD; exact if_pos h
theorem fits_no {c : Cf} (h : ¬ FitsP c) : fitsD c = false := by unfold fitsD; exact if_neg h
set_option maxHeartbeats 4000000 in
theorem fits_c (c : Cf) : FnC Try.prog 18 [.agg (encC c)] (.val (.bool (fitsD c))) := by
  have c1 := within_c c.mem 2048 65536
  have c2 := within_c c.data 1 256
  have c3 := within_c c.ret 1 256
  have c4 := within_c c.words 200 1024
  have c5 := within_c c.out 0 65536
  by_cases hF : FitsP c
  · have h' := hF
    obtain ⟨h1, h2, h3, h4, h5, h6⟩ := h'
    rw [decide_eq_true h1] at c1
    rw [decide_eq_true h3] at c2
    rw [decide_eq_true h4] at c3
    rw [decide_eq_true h5] at c4
    rw [decide_eq_true h6] at c5
    have d2 : (c.mem.tmod 8 == 0) = true := beq_iff_eq.2 h2
    rw [fits_yes hF]
    refine FnC.of_awp (T := tt) (ok := tok) Try.func18 (by kernel_rfl) rfl (by kernel_rfl) (closedL_cons (.agg (encC_closed _)) closedL_nil) (fun w0 st0 => ?_)
    dsimp only [frOf]
    (repeat' (first | refine awp_seq ?_ | refine awp_block ?_ | refine awp_region (fun _ => hmix) ?_ | refine ARun.op rfl (by first | exact True.intro | exact rfl | (unfold inR; omega) | omega | ((try unfold inR); simp only [decide_eq_true_eq, decide_eq_false_iff_not, beq_iff_eq, beq_eq_false_iff_ne, ne_eq, Bool.not_eq_true', Bool.not_eq_false', List.length_map, List.length_append, List.length_take, List.length_drop, List.length_replicate, List.length_cons, List.length_nil] at *; omega)) ?_ | refine callX (c1) rfl rfl rfl rfl ?_ | refine callX (c2) rfl rfl rfl rfl ?_ | refine callX (c3) rfl rfl rfl rfl ?_ | refine callX (c4) rfl rfl rfl rfl ?_ | refine callX (c5) rfl rfl rfl rfl ?_ | ((first | refine ARun.fin (by first | (intro h; cases h; done) | (intro _; kernel_rfl)) ?_ | refine awp_skip ?_ | refine awp_exit ?_); dsimp only [thenA, blockA, AS.bump, List.length_cons, List.length_nil, reduceIte, Nat.reduceEqDiff]) | refine awp_condT rfl (by first | rfl | assumption | exact beq_int _ | exact bne_int _) ?_ | refine awp_condF rfl (by first | rfl | assumption | exact beq_int _ | exact bne_int _) ?_ | ((fail_if_success refine ARun.plain rfl ?_); first | refine ARun.knowT rfl rfl rfl (by first | rfl | assumption | exact beq_int _ | exact bne_int _) ?_ | refine ARun.knowF rfl rfl rfl (by first | rfl | assumption | exact beq_int _ | exact bne_int _) ?_)))
    exact awp_ret ⟨_, ResL.cons (ResA.tmp (.val _)) .nil, rfl⟩
  · rw [fits_no hF]
    refine FnC.of_awp (T := tt) (ok := tok) Try.func18 (by kernel_rfl) rfl (by kernel_rfl) (closedL_cons (.agg (encC_closed _)) closedL_nil) (fun w0 st0 => ?_)
    dsimp only [frOf]
    (repeat' (first | refine awp_seq ?_ | refine awp_block ?_ | refine awp_region (fun _ => hmix) ?_ | refine ARun.op rfl (by first | exact True.intro | exact rfl | (unfold inR; omega) | omega | ((try unfold inR); simp only [decide_eq_true_eq, decide_eq_false_iff_not, beq_iff_eq, beq_eq_false_iff_ne, ne_eq, Bool.not_eq_true', Bool.not_eq_false', List.length_map, List.length_append, List.length_take, List.length_drop, List.length_replicate, List.length_cons, List.length_nil] at *; omega)) ?_ | refine callX (c1) rfl rfl rfl rfl ?_ | refine callX (c2) rfl rfl rfl rfl ?_ | refine callX (c3) rfl rfl rfl rfl ?_ | refine callX (c4) rfl rfl rfl rfl ?_ | refine callX (c5) rfl rfl rfl rfl ?_ | ((first | refine ARun.fin (by first | (intro h; cases h; done) | (intro _; kernel_rfl)) ?_ | refine awp_skip ?_ | refine awp_exit ?_); dsimp only [thenA, blockA, AS.bump, List.length_cons, List.length_nil, reduceIte, Nat.reduceEqDiff]) | refine awp_condT rfl (by first | rfl | assumption | exact beq_int _ | exact bne_int _) ?_ | refine awp_condF rfl (by first | rfl | assumption | exact beq_int _ | exact bne_int _) ?_ | ((fail_if_success refine ARun.plain rfl ?_); first | refine ARun.knowT rfl rfl rfl (by first | rfl | assumption | exact beq_int _ | exact bne_int _) ?_ | refine ARun.knowF rfl rfl rfl (by first | rfl | assumption | exact beq_int _ | exact bne_int _) ?_ | refine ARun.fork rfl rfl rfl (fun h => ?_) (fun h => ?_)) | refine awp_cond rfl (fun h => ?_) (fun h => ?_)))
    all_goals
      refine awp_ret ⟨_, ResL.cons (ResA.tmp (.val _)) .nil, congrArg (fun b => AV.val (.bool b)) ?_⟩
      first
        | rfl
        | (symm
           simp only [decide_eq_true_eq, decide_eq_false_iff_not, beq_iff_eq] at *
           exact fun q => hF ⟨by assumption, by assumption, by assumption, by assumption, by assumption, q⟩)
set_option maxHeartbeats 8000000 in
theorem ref_fits_c (c : Cf) : FnC Try.prog 19 [.agg (encC c)] (.val (.bool (fitsD c))) := by
  by_cases hF : FitsP c
  · have h' := hF
    obtain ⟨⟨h1, h2⟩, h3, ⟨h4, h5⟩, ⟨h6, h7⟩, ⟨h8, h9⟩, h10, h11⟩ := h'
    have d1 := decide_eq_true h1
    have d2 := decide_eq_true h2
    have d3 : (c.mem.tmod 8 == 0) = true := beq_iff_eq.2 h3
    have d4 := decide_eq_true h4
    have d5 := decide_eq_true h5
    have d6 := decide_eq_true h6
    have d7 := decide_eq_true h7
    have d8 := decide_eq_true h8
    have d9 := decide_eq_true h9
    have d10 := decide_eq_true h10
    have d11 := decide_eq_true h11
    rw [fits_yes hF]
    refine FnC.of_awp (T := tt) (ok := tok) Try.func19 (by kernel_rfl) rfl (by kernel_rfl) (closedL_cons (.agg (encC_closed _)) closedL_nil) (fun w0 st0 => ?_)
    dsimp only [frOf]
    (repeat' (first | refine awp_seq ?_ | refine awp_block ?_ | refine awp_region (fun _ => hmix) ?_ | refine ARun.op rfl (by first | exact True.intro | exact rfl | (unfold inR; omega) | omega | ((try unfold inR); simp only [decide_eq_true_eq, decide_eq_false_iff_not, beq_iff_eq, beq_eq_false_iff_ne, ne_eq, Bool.not_eq_true', Bool.not_eq_false', List.length_map, List.length_append, List.length_take, List.length_drop, List.length_replicate, List.length_cons, List.length_nil] at *; omega)) ?_ | ((first | refine ARun.fin (by first | (intro h; cases h; done) | (intro _; kernel_rfl)) ?_ | refine awp_skip ?_ | refine awp_exit ?_); dsimp only [thenA, blockA, AS.bump, List.length_cons, List.length_nil, reduceIte, Nat.reduceEqDiff]) | refine awp_condT rfl (by first | rfl | assumption | exact beq_int _ | exact bne_int _) ?_ | refine awp_condF rfl (by first | rfl | assumption | exact beq_int _ | exact bne_int _) ?_ | ((fail_if_success refine ARun.plain rfl ?_); first | refine ARun.knowT rfl rfl rfl (by first | rfl | assumption | exact beq_int _ | exact bne_int _) ?_ | refine ARun.knowF rfl rfl rfl (by first | rfl | assumption | exact beq_int _ | exact bne_int _) ?_)))
    exact awp_ret ⟨_, ResL.cons (ResA.tmp (.val _)) .nil, congrArg (fun b => AV.val (.bool b)) d11.symm⟩
  · rw [fits_no hF]
    refine FnC.of_awp (T := tt) (ok := tok) Try.func19 (by kernel_rfl) rfl (by kernel_rfl) (closedL_cons (.agg (encC_closed _)) closedL_nil) (fun w0 st0 => ?_)
    dsimp only [frOf]
    (repeat' (first | refine awp_seq ?_ | refine awp_block ?_ | refine awp_region (fun _ => hmix) ?_ | refine ARun.op rfl (by first | exact True.intro | exact rfl | (unfold inR; omega) | omega | ((try unfold inR); simp only [decide_eq_true_eq, decide_eq_false_iff_not, beq_iff_eq, beq_eq_false_iff_ne, ne_eq, Bool.not_eq_true', Bool.not_eq_false', List.length_map, List.length_append, List.length_take, List.length_drop, List.length_replicate, List.length_cons, List.length_nil] at *; omega)) ?_ | ((first | refine ARun.fin (by first | (intro h; cases h; done) | (intro _; kernel_rfl)) ?_ | refine awp_skip ?_ | refine awp_exit ?_); dsimp only [thenA, blockA, AS.bump, List.length_cons, List.length_nil, reduceIte, Nat.reduceEqDiff]) | refine awp_condT rfl (by first | rfl | assumption | exact beq_int _ | exact bne_int _) ?_ | refine awp_condF rfl (by first | rfl | assumption | exact beq_int _ | exact bne_int _) ?_ | ((fail_if_success refine ARun.plain rfl ?_); first | refine ARun.knowT rfl rfl rfl (by first | rfl | assumption | exact beq_int _ | exact bne_int _) ?_ | refine ARun.knowF rfl rfl rfl (by first | rfl | assumption | exact beq_int _ | exact bne_int _) ?_ | refine ARun.fork rfl rfl rfl (fun h => ?_) (fun h => ?_)) | refine awp_cond rfl (fun h => ?_) (fun h => ?_)))
    all_goals
      refine awp_ret ⟨_, ResL.cons (ResA.tmp (.val _)) .nil, congrArg (fun b => AV.val (.bool b)) ?_⟩
      first
        | rfl
        | (symm
           simp only [decide_eq_true_eq, decide_eq_false_iff_not, beq_iff_eq] at *
           exact fun q => hF ⟨⟨by assumption, by assumption⟩, by assumption, ⟨by assumption, by assumption⟩, ⟨by assumption, by assumption⟩, ⟨by assumption, by assumption⟩, by assumption, q⟩)
end Go.Proofs.Ytgkjappmcgnabaa
/- vm: rows that are compared. -/
namespace Go.Proofs.Ytgkjappmcgnabaa
set_option linter.unusedVariables false
set_option linter.unusedSimpArgs false
open Go Go.RowKit
open Stk (encS closed_s)
set_option maxRecDepth 100000
attribute [local irreducible] Decidable.decide awp ARun regK toK
structure Fr where
  d : Int
  r : Int
  ip : Int
def encFr (x : Fr) : List AV := [.val (.int .i64 x.d), .val (.int .i64 x.r), .val (.int .i64 x.ip)]
theorem encFr_closed (x : Fr) : ∀ a, a ∈ encFr x → Closed a := closedL_cons (.val _) (closedL_cons (.val _) (closedL_cons (.val _) closedL_nil))
theorem flatFr : flatOf Try.prog 96 = some [0, 0, 0] := by kernel_rfl
abbrev encLFr (l : List Fr) : AV := .sl 3 false (l.map encFr)
theorem closedFr (l : List Fr) : Closed (encLFr l) := closed_map encFr_closed
structure Rq where
  kind : Int
  arg : Int
  hand : Int
  rank : Int
  delay : Int
  id : Int
def encRq (x : Rq) : List AV := [.val (.int .i64 x.kind), .val (.int .i64 x.arg), .val (.int .i64 x.hand), .val (.int .i64 x.rank), .val (.int .i64 x.delay), .val (.int .i64 x.id)]
theorem encRq_closed (x : Rq) : ∀ a, a ∈ encRq x → Closed a := closedL_cons (.val _) (closedL_cons (.val _) (closedL_cons (.val _) (closedL_cons (.val _) (closedL_cons (.val _) (closedL_cons (.val _) closedL_nil)))))
theorem flatRq : flatOf Try.prog 101 = some [0, 0, 0, 0, 0, 0] := by kernel_rfl
abbrev encLRq (l : List Rq) : AV := .sl 6 false (l.map encRq)
theorem closedRq (l : List Rq) : Closed (encLRq l) := closed_map encRq_closed
structure Hn where
  xt : Int
  fuel : Int
  strikes : Int
  out : Bool
def encHn (x : Hn) : List AV := [.val (.int .i64 x.xt), .val (.int .i64 x.fuel), .val (.int .i64 x.strikes), .val (.bool x.out)]
theorem encHn_closed (x : Hn) : ∀ a, a ∈ encHn x → Closed a := closedL_cons (.val _) (closedL_cons (.val _) (closedL_cons (.val _) (closedL_cons (.val _) closedL_nil)))
theorem flatHn : flatOf Try.prog 98 = some [0, 0, 0, 1] := by kernel_rfl
abbrev encLHn (l : List Hn) : AV := .sl 4 false (l.map encHn)
theorem closedHn (l : List Hn) : Closed (encLHn l) := closed_map encHn_closed
open Classical in
noncomputable def sameFr (a b : List Fr) : Bool := if a = b then true else false
theorem sameFr_iff {a b : List Fr} : sameFr a b = true ↔ a = b := by
  unfold sameFr
  split <;> simp_all
theorem sameFr_no {a b : List Fr} (h : a ≠ b) : sameFr a b = false := Bool.eq_false_iff.2 (fun e => h (sameFr_iff.1 e))
open Classical in
noncomputable def sameRq (a b : List Rq) : Bool := if a = b then true else false
theorem sameRq_iff {a b : List Rq} : sameRq a b = true ↔ a = b := by
  unfold sameRq
  split <;> simp_all
theorem sameRq_no {a b : List Rq} (h : a ≠ b) : sameRq a b = false := Bool.eq_false_iff.2 (fun e => h (sameRq_iff.1 e))
open Classical in
noncomputable def sameHn (a b : List Hn) : Bool := if a = b then true else false
theorem sameHn_iff {a b : List Hn} : sameHn a b = true ↔ a = b := by
  unfold sameHn
  split <;> simp_all
theorem sameHn_no {a b : List Hn} (h : a ≠ b) : sameHn a b = false := Bool.eq_false_iff.2 (fun e => h (sameHn_iff.1 e))
set_option maxHeartbeats 4000000 in
theorem eqFr_c (a b : List Fr) (hla : a.length ≤ 1000000) : FnC Try.prog 68 [encLFr a, encLFr b] (.val (.bool (sameFr a b))) := by
  refine FnC.of_awp (T := tt) (ok := tok) Try.func68 (by kernel_rfl) rfl (by kernel_rfl) (closedL_cons (closedFr a) (closedL_cons (closedFr b) closedL_nil)) (fun w0 st0 => ?_)
  dsimp only [frOf]
  by_cases hl : a.length = b.length
  · have d1 : ((((a.map encFr).length : Nat) : Int) != (((b.map encFr).length : Nat) : Int)) = false := by simp [hl]
    (repeat' (first | refine awp_seq ?_ | refine awp_block ?_ | refine awp_region (fun _ => hmix) ?_ | refine ARun.op rfl (by first | exact True.intro | exact rfl | (unfold inR; omega) | omega | ((try unfold inR); simp only [decide_eq_true_eq, decide_eq_false_iff_not, beq_iff_eq, beq_eq_false_iff_ne, ne_eq, Bool.not_eq_true', Bool.not_eq_false', List.length_map, List.length_append, List.length_take, List.length_drop, List.length_replicate, List.length_cons, List.length_nil] at *; omega)) ?_ | ((first | refine ARun.fin (by first | (intro h; cases h; done) | (intro _; kernel_rfl)) ?_ | refine awp_skip ?_ | refine awp_exit ?_); dsimp only [thenA, blockA, AS.bump, List.length_cons, List.length_nil, reduceIte, Nat.reduceEqDiff]) | refine awp_condT rfl (by first | rfl | assumption | exact beq_int _ | exact bne_int _) ?_ | refine awp_condF rfl (by first | rfl | assumption | exact beq_int _ | exact bne_int _) ?_ | ((fail_if_success refine ARun.plain rfl ?_); first | refine ARun.knowT rfl rfl rfl (by first | rfl | assumption | exact beq_int _ | exact bne_int _) ?_ | refine ARun.knowF rfl rfl rfl (by first | rfl | assumption | exact beq_int _ | exact bne_int _) ?_ | refine ARun.fork rfl rfl rfl (fun h => ?_) (fun h => ?_)) | refine awp_cond rfl (fun h => ?_) (fun h => ?_)))
    refine awp_loopT (T := Nat × Nat) (fun t => ⟨[(13, .val (.int .i64 (t.1 : Nat))), (12, .val (.int .i64 ((a.map encFr).length : Nat))), (0, encLFr a), (1, encLFr b)], [], t.2⟩) (fun t => t.1 ≤ a.length ∧ a.take t.1 = b.take t.1) (fun t => a.length - t.1) (0, _) ⟨Nat.zero_le _, rfl⟩ ⟨⟨rfl, rfl, rfl, rfl, trivial⟩, trivial, Nat.le_refl _⟩ (fun t ht => ?_)
    obtain ⟨k, gc⟩ := t
    obtain ⟨hk, hA⟩ := ht
    dsimp only at hk hA ⊢
    clear d1
    by_cases hlt : k < a.length
    · have hp : a[k]? = some a[k] := List.getElem?_eq_getElem hlt
      have hq : b[k]? = some b[k] := List.getElem?_eq_getElem (by omega)
      have hc : decide (((k : Nat) : Int) < (((a.map encFr).length : Nat) : Int)) = true := by simp; omega
      have e1 := take_succ' hp
      have e2 := take_succ' hq
      have hne : ∀ x y, a[k]? = some x → b[k]? = some y → x ≠ y → sameFr a b = false := fun x y hx hy hxy => sameFr_no (fun h => hxy (by rw [h, hy] at hx; exact (Option.some.inj hx).symm))
      generalize a[k] = p at hp e1
      generalize b[k] = q at hq e2
      obtain ⟨p0, p1, p2⟩ := p
      obtain ⟨q0, q1, q2⟩ := q
      have key : ((p0 == q0) && ((p1 == q1) && ((p2 == q2) && true))) = true ↔ (⟨p0, p1, p2⟩ : Fr) = ⟨q0, q1, q2⟩ := by
        rw [Fr.mk.injEq]
        simp only [Bool.and_eq_true, beq_iff_eq, and_true]
      by_cases h3 : (⟨p0, p1, p2⟩ : Fr) = ⟨q0, q1, q2⟩
      · have d3 : (!((p0 == q0) && ((p1 == q1) && ((p2 == q2) && true)))) = false := by rw [key.2 h3]; rfl
        (repeat' (first | refine awp_seq ?_ | refine awp_block ?_ | refine awp_region (fun _ => hmix) ?_ | refine ARun.op rfl (by first | exact True.intro | exact rfl | (unfold inR; omega) | omega | ((try unfold inR); simp only [decide_eq_true_eq, decide_eq_false_iff_not, beq_iff_eq, beq_eq_false_iff_ne, ne_eq, Bool.not_eq_true', Bool.not_eq_false', List.length_map, List.length_append, List.length_take, List.length_drop, List.length_replicate, List.length_cons, List.length_nil] at *; omega)) ?_ | refine ARun.indexAddr rfl rfl (by omega) (by first | with_reducible exact get_map hp | with_reducible exact get_map hq) rfl rfl rfl rfl rfl (guardF_spec rfl) ?_ | refine neX flatFr rfl rfl rfl rfl rfl ?_ | ((first | refine ARun.fin (by first | (intro h; cases h; done) | (intro _; kernel_rfl)) ?_ | refine awp_skip ?_ | refine awp_exit ?_); dsimp only [thenA, blockA, AS.bump, List.length_cons, List.length_nil, reduceIte, Nat.reduceEqDiff]) | refine awp_condT rfl (by first | rfl | assumption | exact beq_int _ | exact bne_int _) ?_ | refine awp_condF rfl (by first | rfl | assumption | exact beq_int _ | exact bne_int _) ?_ | ((fail_if_success refine ARun.plain rfl ?_); first | refine ARun.knowT rfl rfl rfl (by first | rfl | assumption | exact beq_int _ | exact bne_int _) ?_ | refine ARun.knowF rfl rfl rfl (by first | rfl | assumption | exact beq_int _ | exact bne_int _) ?_ | refine ARun.fork rfl rfl rfl (fun h => ?_) (fun h => ?_)) | refine awp_cond rfl (fun h => ?_) (fun h => ?_)))
        refine ⟨(k + 1, _), ⟨⟨succI k, rfl, rfl, rfl, trivial⟩, trivial, Nat.le_refl _⟩, ⟨hlt, ?_⟩, (by dsimp only; omega)⟩
        dsimp only
        rw [e1, e2, hA, h3]
      · have d3 : (!((p0 == q0) && ((p1 == q1) && ((p2 == q2) && true)))) = true := by rw [Bool.eq_false_iff.2 (fun e => h3 (key.1 e))]; rfl
        rw [hne _ _ hp hq h3]
        (repeat' (first | refine awp_seq ?_ | refine awp_block ?_ | refine awp_region (fun _ => hmix) ?_ | refine ARun.op rfl (by first | exact True.intro | exact rfl | (unfold inR; omega) | omega | ((try unfold inR); simp only [decide_eq_true_eq, decide_eq_false_iff_not, beq_iff_eq, beq_eq_false_iff_ne, ne_eq, Bool.not_eq_true', Bool.not_eq_false', List.length_map, List.length_append, List.length_take, List.length_drop, List.length_replicate, List.length_cons, List.length_nil] at *; omega)) ?_ | refine ARun.indexAddr rfl rfl (by omega) (by first | with_reducible exact get_map hp | with_reducible exact get_map hq) rfl rfl rfl rfl rfl (guardF_spec rfl) ?_ | refine neX flatFr rfl rfl rfl rfl rfl ?_ | ((first | refine ARun.fin (by first | (intro h; cases h; done) | (intro _; kernel_rfl)) ?_ | refine awp_skip ?_ | refine awp_exit ?_); dsimp only [thenA, blockA, AS.bump, List.length_cons, List.length_nil, reduceIte, Nat.reduceEqDiff]) | refine awp_condT rfl (by first | rfl | assumption | exact beq_int _ | exact bne_int _) ?_ | refine awp_condF rfl (by first | rfl | assumption | exact beq_int _ | exact bne_int _) ?_ | ((fail_if_success refine ARun.plain rfl ?_); first | refine ARun.knowT rfl rfl rfl (by first | rfl | assumption | exact beq_int _ | exact bne_int _) ?_ | refine ARun.knowF rfl rfl rfl (by first | rfl | assumption | exact beq_int _ | exact bne_int _) ?_ | refine ARun.fork rfl rfl rfl (fun h => ?_) (fun h => ?_)) | refine awp_cond rfl (fun h => ?_) (fun h => ?_)))
        exact awp_ret ⟨_, ResL.cons (ResA.tmp (.val _)) .nil, rfl⟩
    · have hkk : k = a.length := by omega
      subst hkk
      have hc : decide (((a.length : Nat) : Int) < (((a.map encFr).length : Nat) : Int)) = false := by simp
      rw [List.take_length, hl, List.take_length] at hA
      rw [sameFr_iff.2 hA]
      (repeat' (first | refine awp_seq ?_ | refine awp_block ?_ | refine awp_region (fun _ => hmix) ?_ | refine ARun.op rfl (by first | exact True.intro | exact rfl | (unfold inR; omega) | omega | ((try unfold inR); simp only [decide_eq_true_eq, decide_eq_false_iff_not, beq_iff_eq, beq_eq_false_iff_ne, ne_eq, Bool.not_eq_true', Bool.not_eq_false', List.length_map, List.length_append, List.length_take, List.length_drop, List.length_replicate, List.length_cons, List.length_nil] at *; omega)) ?_ | ((first | refine ARun.fin (by first | (intro h; cases h; done) | (intro _; kernel_rfl)) ?_ | refine awp_skip ?_ | refine awp_exit ?_); dsimp only [thenA, blockA, AS.bump, List.length_cons, List.length_nil, reduceIte, Nat.reduceEqDiff]) | refine awp_condT rfl (by first | rfl | assumption | exact beq_int _ | exact bne_int _) ?_ | refine awp_condF rfl (by first | rfl | assumption | exact beq_int _ | exact bne_int _) ?_ | ((fail_if_success refine ARun.plain rfl ?_); first | refine ARun.knowT rfl rfl rfl (by first | rfl | assumption | exact beq_int _ | exact bne_int _) ?_ | refine ARun.knowF rfl rfl rfl (by first | rfl | assumption | exact beq_int _ | exact bne_int _) ?_ | refine ARun.fork rfl rfl rfl (fun h => ?_) (fun h => ?_)) | refine awp_cond rfl (fun h => ?_) (fun h => ?_)))
      exact awp_ret ⟨_, ResL.cons (ResA.tmp (.val _)) .nil, rfl⟩
  · have d1 : ((((a.map encFr).length : Nat) : Int) != (((b.map encFr).length : Nat) : Int)) = true := by simp; omega
    rw [sameFr_no (fun h => hl (by rw [h]))]
    (repeat' (first | refine awp_seq ?_ | refine awp_block ?_ | refine awp_region (fun _ => hmix) ?_ | refine ARun.op rfl (by first | exact True.intro | exact rfl | (unfold inR; omega) | omega | ((try unfold inR); simp only [decide_eq_true_eq, decide_eq_false_iff_not, beq_iff_eq, beq_eq_false_iff_ne, ne_eq, Bool.not_eq_true', Bool.not_eq_false', List.length_map, List.length_append, List.length_take, List.length_drop, List.length_replicate, List.length_cons, List.length_nil] at *; omega)) ?_ | ((first | refine ARun.fin (by first | (intro h; cases h; done) | (intro _; kernel_rfl)) ?_ | refine awp_skip ?_ | refine awp_exit ?_); dsimp only [thenA, blockA, AS.bump, List.length_cons, List.length_nil, reduceIte, Nat.reduceEqDiff]) | refine awp_condT rfl (by first | rfl | assumption | exact beq_int _ | exact bne_int _) ?_ | refine awp_condF rfl (by first | rfl | assumption | exact beq_int _ | exact bne_int _) ?_ | ((fail_if_success refine ARun.plain rfl ?_); first | refine ARun.knowT rfl rfl rfl (by first | rfl | assumption | exact beq_int _ | exact bne_int _) ?_ | refine ARun.knowF rfl rfl rfl (by first | rfl | assumption | exact beq_int _ | exact bne_int _) ?_ | refine ARun.fork rfl rfl rfl (fun h => ?_) (fun h => ?_)) | refine awp_cond rfl (fun h => ?_) (fun h => ?_)))
    exact awp_ret ⟨_, ResL.cons (ResA.tmp (.val _)) .nil, rfl⟩
set_option maxHeartbeats 4000000 in
theorem eqRq_c (a b : List Rq) (hla : a.length ≤ 1000000) : FnC Try.prog 72 [encLRq a, encLRq b] (.val (.bool (sameRq a b))) := by
  refine FnC.of_awp (T := tt) (ok := tok) Try.func72 (by kernel_rfl) rfl (by kernel_rfl) (closedL_cons (closedRq a) (closedL_cons (closedRq b) closedL_nil)) (fun w0 st0 => ?_)
  dsimp only [frOf]
  by_cases hl : a.length = b.length
  · have d1 : ((((a.map encRq).length : Nat) : Int) != (((b.map encRq).length : Nat) : Int)) = false := by simp [hl]
    (repeat' (first | refine awp_seq ?_ | refine awp_block ?_ | refine awp_region (fun _ => hmix) ?_ | refine ARun.op rfl (by first | exact True.intro | exact rfl | (unfold inR; omega) | omega | ((try unfold inR); simp only [decide_eq_true_eq, decide_eq_false_iff_not, beq_iff_eq, beq_eq_false_iff_ne, ne_eq, Bool.not_eq_true', Bool.not_eq_false', List.length_map, List.length_append, List.length_take, List.length_drop, List.length_replicate, List.length_cons, List.length_nil] at *; omega)) ?_ | ((first | refine ARun.fin (by first | (intro h; cases h; done) | (intro _; kernel_rfl)) ?_ | refine awp_skip ?_ | refine awp_exit ?_); dsimp only [thenA, blockA, AS.bump, List.length_cons, List.length_nil, reduceIte, Nat.reduceEqDiff]) | refine awp_condT rfl (by first | rfl | assumption | exact beq_int _ | exact bne_int _) ?_ | refine awp_condF rfl (by first | rfl | assumption | exact beq_int _ | exact bne_int _) ?_ | ((fail_if_success refine ARun.plain rfl ?_); first | refine ARun.knowT rfl rfl rfl (by first | rfl | assumption | exact beq_int _ | exact bne_int _) ?_ | refine ARun.knowF rfl rfl rfl (by first | rfl | assumption | exact beq_int _ | exact bne_int _) ?_ | refine ARun.fork rfl rfl rfl (fun h => ?_) (fun h => ?_)) | refine awp_cond rfl (fun h => ?_) (fun h => ?_)))
    refine awp_loopT (T := Nat × Nat) (fun t => ⟨[(13, .val (.int .i64 (t.1 : Nat))), (12, .val (.int .i64 ((a.map encRq).length : Nat))), (0, encLRq a), (1, encLRq b)], [], t.2⟩) (fun t => t.1 ≤ a.length ∧ a.take t.1 = b.take t.1) (fun t => a.length - t.1) (0, _) ⟨Nat.zero_le _, rfl⟩ ⟨⟨rfl, rfl, rfl, rfl, trivial⟩, trivial, Nat.le_refl _⟩ (fun t ht => ?_)
    obtain ⟨k, gc⟩ := t
    obtain ⟨hk, hA⟩ := ht
    dsimp only at hk hA ⊢
    clear d1
    by_cases hlt : k < a.length
    · have hp : a[k]? = some a[k] := List.getElem?_eq_getElem hlt
      have hq : b[k]? = some b[k] := List.getElem?_eq_getElem (by omega)
      have hc : decide (((k : Nat) : Int) < (((a.map encRq).length : Nat) : Int)) = true := by simp; omega
      have e1 := take_succ' hp
      have e2 := take_succ' hq
      have hne : ∀ x y, a[k]? = some x → b[k]? = some y → x ≠ y → sameRq a b = false := fun x y hx hy hxy => sameRq_no (fun h => hxy (by rw [h, hy] at hx; exact (Option.some.inj hx).symm))
      generalize a[k] = p at hp e1
      generalize b[k] = q at hq e2
      obtain ⟨p0, p1, p2, p3, p4, p5⟩ := p
      obtain ⟨q0, q1, q2, q3, q4, q5⟩ := q
      have key : ((p0 == q0) && ((p1 == q1) && ((p2 == q2) && ((p3 == q3) && ((p4 == q4) && ((p5 == q5) && true)))))) = true ↔ (⟨p0, p1, p2, p3, p4, p5⟩ : Rq) = ⟨q0, q1, q2, q3, q4, q5⟩ := by
        rw [Rq.mk.injEq]
        simp only [Bool.and_eq_true, beq_iff_eq, and_true]
      by_cases h3 : (⟨p0, p1, p2, p3, p4, p5⟩ : Rq) = ⟨q0, q1, q2, q3, q4, q5⟩
      · have d3 : (!((p0 == q0) && ((p1 == q1) && ((p2 == q2) && ((p3 == q3) && ((p4 == q4) && ((p5 == q5) && true))))))) = false := by rw [key.2 h3]; rfl
        (repeat' (first | refine awp_seq ?_ | refine awp_block ?_ | refine awp_region (fun _ => hmix) ?_ | refine ARun.op rfl (by first | exact True.intro | exact rfl | (unfold inR; omega) | omega | ((try unfold inR); simp only [decide_eq_true_eq, decide_eq_false_iff_not, beq_iff_eq, beq_eq_false_iff_ne, ne_eq, Bool.not_eq_true', Bool.not_eq_false', List.length_map, List.length_append, List.length_take, List.length_drop, List.length_replicate, List.length_cons, List.length_nil] at *; omega)) ?_ | refine ARun.indexAddr rfl rfl (by omega) (by first | with_reducible exact get_map hp | with_reducible exact get_map hq) rfl rfl rfl rfl rfl (guardF_spec rfl) ?_ | refine neX flatRq rfl rfl rfl rfl rfl ?_ | ((first | refine ARun.fin (by first | (intro h; cases h; done) | (intro _; kernel_rfl)) ?_ | refine awp_skip ?_ | refine awp_exit ?_); dsimp only [thenA, blockA, AS.bump, List.length_cons, List.length_nil, reduceIte, Nat.reduceEqDiff]) | refine awp_condT rfl (by first | rfl | assumption | exact beq_int _ | exact bne_int _) ?_ | refine awp_condF rfl (by first | rfl | assumption | exact beq_int _ | exact bne_int _) ?_ | ((fail_if_success refine ARun.plain rfl ?_); first | refine ARun.knowT rfl rfl rfl (by first | rfl | assumption | exact beq_int _ | exact bne_int _) ?_ | refine ARun.knowF rfl rfl rfl (by first | rfl | assumption | exact beq_int _ | exact bne_int _) ?_ | refine ARun.fork rfl rfl rfl (fun h => ?_) (fun h => ?_)) | refine awp_cond rfl (fun h => ?_) (fun h => ?_)))
        refine ⟨(k + 1, _), ⟨⟨succI k, rfl, rfl, rfl, trivial⟩, trivial, Nat.le_refl _⟩, ⟨hlt, ?_⟩, (by dsimp only; omega)⟩
        dsimp only
        rw [e1, e2, hA, h3]
      · have d3 : (!((p0 == q0) && ((p1 == q1) && ((p2 == q2) && ((p3 == q3) && ((p4 == q4) && ((p5 == q5) && true))))))) = true := by rw [Bool.eq_false_iff.2 (fun e => h3 (key.1 e))]; rfl
        rw [hne _ _ hp hq h3]
        (repeat' (first | refine awp_seq ?_ | refine awp_block ?_ | refine awp_region (fun _ => hmix) ?_ | refine ARun.op rfl (by first | exact True.intro | exact rfl | (unfold inR; omega) | omega | ((try unfold inR); simp only [decide_eq_true_eq, decide_eq_false_iff_not, beq_iff_eq, beq_eq_false_iff_ne, ne_eq, Bool.not_eq_true', Bool.not_eq_false', List.length_map, List.length_append, List.length_take, List.length_drop, List.length_replicate, List.length_cons, List.length_nil] at *; omega)) ?_ | refine ARun.indexAddr rfl rfl (by omega) (by first | with_reducible exact get_map hp | with_reducible exact get_map hq) rfl rfl rfl rfl rfl (guardF_spec rfl) ?_ | refine neX flatRq rfl rfl rfl rfl rfl ?_ | ((first | refine ARun.fin (by first | (intro h; cases h; done) | (intro _; kernel_rfl)) ?_ | refine awp_skip ?_ | refine awp_exit ?_); dsimp only [thenA, blockA, AS.bump, List.length_cons, List.length_nil, reduceIte, Nat.reduceEqDiff]) | refine awp_condT rfl (by first | rfl | assumption | exact beq_int _ | exact bne_int _) ?_ | refine awp_condF rfl (by first | rfl | assumption | exact beq_int _ | exact bne_int _) ?_ | ((fail_if_success refine ARun.plain rfl ?_); first | refine ARun.knowT rfl rfl rfl (by first | rfl | assumption | exact beq_int _ | exact bne_int _) ?_ | refine ARun.knowF rfl rfl rfl (by first | rfl | assumption | exact beq_int _ | exact bne_int _) ?_ | refine ARun.fork rfl rfl rfl (fun h => ?_) (fun h => ?_)) | refine awp_cond rfl (fun h => ?_) (fun h => ?_)))
        exact awp_ret ⟨_, ResL.cons (ResA.tmp (.val _)) .nil, rfl⟩
    · have hkk : k = a.length := by omega
      subst hkk
      have hc : decide (((a.length : Nat) : Int) < (((a.map encRq).length : Nat) : Int)) = false := by simp
      rw [List.take_length, hl, List.take_length] at hA
      rw [sameRq_iff.2 hA]
      (repeat' (first | refine awp_seq ?_ | refine awp_block ?_ | refine awp_region (fun _ => hmix) ?_ | refine ARun.op rfl (by first | exact True.intro | exact rfl | (unfold inR; omega) | omega | ((try unfold inR); simp only [decide_eq_true_eq, decide_eq_false_iff_not, beq_iff_eq, beq_eq_false_iff_ne, ne_eq, Bool.not_eq_true', Bool.not_eq_false', List.length_map, List.length_append, List.length_take, List.length_drop, List.length_replicate, List.length_cons, List.length_nil] at *; omega)) ?_ | ((first | refine ARun.fin (by first | (intro h; cases h; done) | (intro _; kernel_rfl)) ?_ | refine awp_skip ?_ | refine awp_exit ?_); dsimp only [thenA, blockA, AS.bump, List.length_cons, List.length_nil, reduceIte, Nat.reduceEqDiff]) | refine awp_condT rfl (by first | rfl | assumption | exact beq_int _ | exact bne_int _) ?_ | refine awp_condF rfl (by first | rfl | assumption | exact beq_int _ | exact bne_int _) ?_ | ((fail_if_success refine ARun.plain rfl ?_); first | refine ARun.knowT rfl rfl rfl (by first | rfl | assumption | exact beq_int _ | exact bne_int _) ?_ | refine ARun.knowF rfl rfl rfl (by first | rfl | assumption | exact beq_int _ | exact bne_int _) ?_ | refine ARun.fork rfl rfl rfl (fun h => ?_) (fun h => ?_)) | refine awp_cond rfl (fun h => ?_) (fun h => ?_)))
      exact awp_ret ⟨_, ResL.cons (ResA.tmp (.val _)) .nil, rfl⟩
  · have d1 : ((((a.map encRq).length : Nat) : Int) != (((b.map encRq).length : Nat) : Int)) = true := by simp; omega
    rw [sameRq_no (fun h => hl (by rw [h]))]
    (repeat' (first | refine awp_seq ?_ | refine awp_block ?_ | refine awp_region (fun _ => hmix) ?_ | refine ARun.op rfl (by first | exact True.intro | exact rfl | (unfold inR; omega) | omega | ((try unfold inR); simp only [decide_eq_true_eq, decide_eq_false_iff_not, beq_iff_eq, beq_eq_false_iff_ne, ne_eq, Bool.not_eq_true', Bool.not_eq_false', List.length_map, List.length_append, List.length_take, List.length_drop, List.length_replicate, List.length_cons, List.length_nil] at *; omega)) ?_ | ((first | refine ARun.fin (by first | (intro h; cases h; done) | (intro _; kernel_rfl)) ?_ | refine awp_skip ?_ | refine awp_exit ?_); dsimp only [thenA, blockA, AS.bump, List.length_cons, List.length_nil, reduceIte, Nat.reduceEqDiff]) | refine awp_condT rfl (by first | rfl | assumption | exact beq_int _ | exact bne_int _) ?_ | refine awp_condF rfl (by first | rfl | assumption | exact beq_int _ | exact bne_int _) ?_ | ((fail_if_success refine ARun.plain rfl ?_); first | refine ARun.knowT rfl rfl rfl (by first | rfl | assumption | exact beq_int _ | exact bne_int _) ?_ | refine ARun.knowF rfl rfl rfl (by first | rfl | assumption | exact beq_int _ | exact bne_int _) ?_ | refine ARun.fork rfl rfl rfl (fun h => ?_) (fun h => ?_)) | refine awp_cond rfl (fun h => ?_) (fun h => ?_)))
    exact awp_ret ⟨_, ResL.cons (ResA.tmp (.val _)) .nil, rfl⟩
set_option maxHeartbeats 4000000 in
theorem eqHn_c (a b : List Hn) (hla : a.length ≤ 1000000) : FnC Try.prog 73 [encLHn a, encLHn b] (.val (.bool (sameHn a b))) := by
  refine FnC.of_awp (T := tt) (ok := tok) Try.func73 (by kernel_rfl) rfl (by kernel_rfl) (closedL_cons (closedHn a) (closedL_cons (closedHn b) closedL_nil)) (fun w0 st0 => ?_)
  dsimp only [frOf]
  by_cases hl : a.length = b.length
  · have d1 : ((((a.map encHn).length : Nat) : Int) != (((b.map encHn).length : Nat) : Int)) = false := by simp [hl]
    (repeat' (first | refine awp_seq ?_ | refine awp_block ?_ | refine awp_region (fun _ => hmix) ?_ | refine ARun.op rfl (by first | exact True.intro | exact rfl | (unfold inR; omega) | omega | ((try unfold inR); simp only [decide_eq_true_eq, decide_eq_false_iff_not, beq_iff_eq, beq_eq_false_iff_ne, ne_eq, Bool.not_eq_true', Bool.not_eq_false', List.length_map, List.length_append, List.length_take, List.length_drop, List.length_replicate, List.length_cons, List.length_nil] at *; omega)) ?_ | ((first | refine ARun.fin (by first | (intro h; cases h; done) | (intro _; kernel_rfl)) ?_ | refine awp_skip ?_ | refine awp_exit ?_); dsimp only [thenA, blockA, AS.bump, List.length_cons, List.length_nil, reduceIte, Nat.reduceEqDiff]) | refine awp_condT rfl (by first | rfl | assumption | exact beq_int _ | exact bne_int _) ?_ | refine awp_condF rfl (by first | rfl | assumption | exact beq_int _ | exact bne_int _) ?_ | ((fail_if_success refine ARun.plain rfl ?_); first | refine ARun.knowT rfl rfl rfl (by first | rfl | assumption | exact beq_int _ | exact bne_int _) ?_ | refine ARun.knowF rfl rfl rfl (by first | rfl | assumption | exact beq_int _ | exact bne_int _) ?_ | refine ARun.fork rfl rfl rfl (fun h => ?_) (fun h => ?_)) | refine awp_cond rfl (fun h => ?_) (fun h => ?_)))
    refine awp_loopT (T := Nat × Nat) (fun t => ⟨[(13, .val (.int .i64 (t.1 : Nat))), (12, .val (.int .i64 ((a.map encHn).length : Nat))), (0, encLHn a), (1, encLHn b)], [], t.2⟩) (fun t => t.1 ≤ a.length ∧ a.take t.1 = b.take t.1) (fun t => a.length - t.1) (0, _) ⟨Nat.zero_le _, rfl⟩ ⟨⟨rfl, rfl, rfl, rfl, trivial⟩, trivial, Nat.le_refl _⟩ (fun t ht => ?_)
    obtain ⟨k, gc⟩ := t
    obtain ⟨hk, hA⟩ := ht
    dsimp only at hk hA ⊢
    clear d1
    by_cases hlt : k < a.length
    · have hp : a[k]? = some a[k] := List.getElem?_eq_getElem hlt
      have hq : b[k]? = some b[k] := List.getElem?_eq_getElem (by omega)
      have hc : decide (((k : Nat) : Int) < (((a.map encHn).length : Nat) : Int)) = true := by simp; omega
      have e1 := take_succ' hp
      have e2 := take_succ' hq
      have hne : ∀ x y, a[k]? = some x → b[k]? = some y → x ≠ y → sameHn a b = false := fun x y hx hy hxy => sameHn_no (fun h => hxy (by rw [h, hy] at hx; exact (Option.some.inj hx).symm))
      generalize a[k] = p at hp e1
      generalize b[k] = q at hq e2
      obtain ⟨p0, p1, p2, p3⟩ := p
      obtain ⟨q0, q1, q2, q3⟩ := q
      have key : ((p0 == q0) && ((p1 == q1) && ((p2 == q2) && ((p3 == q3) && true)))) = true ↔ (⟨p0, p1, p2, p3⟩ : Hn) = ⟨q0, q1, q2, q3⟩ := by
        rw [Hn.mk.injEq]
        simp only [Bool.and_eq_true, beq_iff_eq, and_true]
      by_cases h3 : (⟨p0, p1, p2, p3⟩ : Hn) = ⟨q0, q1, q2, q3⟩
      · have d3 : (!((p0 == q0) && ((p1 == q1) && ((p2 == q2) && ((p3 == q3) && true))))) = false := by rw [key.2 h3]; rfl
        (repeat' (first | refine awp_seq ?_ | refine awp_block ?_ | refine awp_region (fun _ => hmix) ?_ | refine ARun.op rfl (by first | exact True.intro | exact rfl | (unfold inR; omega) | omega | ((try unfold inR); simp only [decide_eq_true_eq, decide_eq_false_iff_not, beq_iff_eq, beq_eq_false_iff_ne, ne_eq, Bool.not_eq_true', Bool.not_eq_false', List.length_map, List.length_append, List.length_take, List.length_drop, List.length_replicate, List.length_cons, List.length_nil] at *; omega)) ?_ | refine ARun.indexAddr rfl rfl (by omega) (by first | with_reducible exact get_map hp | with_reducible exact get_map hq) rfl rfl rfl rfl rfl (guardF_spec rfl) ?_ | refine neX flatHn rfl rfl rfl rfl rfl ?_ | ((first | refine ARun.fin (by first | (intro h; cases h; done) | (intro _; kernel_rfl)) ?_ | refine awp_skip ?_ | refine awp_exit ?_); dsimp only [thenA, blockA, AS.bump, List.length_cons, List.length_nil, reduceIte, Nat.reduceEqDiff]) | refine awp_condT rfl (by first | rfl | assumption | exact beq_int _ | exact bne_int _) ?_ | refine awp_condF rfl (by first | rfl | assumption | exact beq_int _ | exact bne_int _) ?_ | ((fail_if_success refine ARun.plain rfl ?_); first | refine ARun.knowT rfl rfl rfl (by first | rfl | assumption | exact beq_int _ | exact bne_int _) ?_ | refine ARun.knowF rfl rfl rfl (by first | rfl | assumption | exact beq_int _ | exact bne_int _) ?_ | refine ARun.fork rfl rfl rfl (fun h => ?_) (fun h => ?_)) | refine awp_cond rfl (fun h => ?_) (fun h => ?_)))
        refine ⟨(k + 1, _), ⟨⟨succI k, rfl, rfl, rfl, trivial⟩, trivial, Nat.le_refl _⟩, ⟨hlt, ?_⟩, (by dsimp only; omega)⟩
        dsimp only
        rw [e1, e2, hA, h3]
      · have d3 : (!((p0 == q0) && ((p1 == q1) && ((p2 == q2) && ((p3 == q3) && true))))) = true := by rw [Bool.eq_false_iff.2 (fun e => h3 (key.1 e))]; rfl
        rw [hne _ _ hp hq h3]
        (repeat' (first | refine awp_seq ?_ | refine awp_block ?_ | refine awp_region (fun _ => hmix) ?_ | refine ARun.op rfl (by first | exact True.intro | exact rfl | (unfold inR; omega) | omega | ((try unfold inR); simp only [decide_eq_true_eq, decide_eq_false_iff_not, beq_iff_eq, beq_eq_false_iff_ne, ne_eq, Bool.not_eq_true', Bool.not_eq_false', List.length_map, List.length_append, List.length_take, List.length_drop, List.length_replicate, List.length_cons, List.length_nil] at *; omega)) ?_ | refine ARun.indexAddr rfl rfl (by omega) (by first | with_reducible exact get_map hp | with_reducible exact get_map hq) rfl rfl rfl rfl rfl (guardF_spec rfl) ?_ | refine neX flatHn rfl rfl rfl rfl rfl ?_ | ((first | refine ARun.fin (by first | (intro h; cases h; done) | (intro _; kernel_rfl)) ?_ | refine awp_skip ?_ | refine awp_exit ?_); dsimp only [thenA, blockA, AS.bump, List.length_cons, List.length_nil, reduceIte, Nat.reduceEqDiff]) | refine awp_condT rfl (by first | rfl | assumption | exact beq_int _ | exact bne_int _) ?_ | refine awp_condF rfl (by first | rfl | assumption | exact beq_int _ | exact bne_int _) ?_ | ((fail_if_success refine ARun.plain rfl ?_); first | refine ARun.knowT rfl rfl rfl (by first | rfl | assumption | exact beq_int _ | exact bne_int _) ?_ | refine ARun.knowF rfl rfl rfl (by first | rfl | assumption | exact beq_int _ | exact bne_int _) ?_ | refine ARun.fork rfl rfl rfl (fun h => ?_) (fun h => ?_)) | refine awp_cond rfl (fun h => ?_) (fun h => ?_)))
        exact awp_ret ⟨_, ResL.cons (ResA.tmp (.val _)) .nil, rfl⟩
    · have hkk : k = a.length := by omega
      subst hkk
      have hc : decide (((a.length : Nat) : Int) < (((a.map encHn).length : Nat) : Int)) = false := by simp
      rw [List.take_length, hl, List.take_length] at hA
      rw [sameHn_iff.2 hA]
      (repeat' (first | refine awp_seq ?_ | refine awp_block ?_ | refine awp_region (fun _ => hmix) ?_ | refine ARun.op rfl (by first | exact True.intro | exact rfl | (unfold inR; omega) | omega | ((try unfold inR); simp only [decide_eq_true_eq, decide_eq_false_iff_not, beq_iff_eq, beq_eq_false_iff_ne, ne_eq, Bool.not_eq_true', Bool.not_eq_false', List.length_map, List.length_append, List.length_take, List.length_drop, List.length_replicate, List.length_cons, List.length_nil] at *; omega)) ?_ | ((first | refine ARun.fin (by first | (intro h; cases h; done) | (intro _; kernel_rfl)) ?_ | refine awp_skip ?_ | refine awp_exit ?_); dsimp only [thenA, blockA, AS.bump, List.length_cons, List.length_nil, reduceIte, Nat.reduceEqDiff]) | refine awp_condT rfl (by first | rfl | assumption | exact beq_int _ | exact bne_int _) ?_ | refine awp_condF rfl (by first | rfl | assumption | exact beq_int _ | exact bne_int _) ?_ | ((fail_if_success refine ARun.plain rfl ?_); first | refine ARun.knowT rfl rfl rfl (by first | rfl | assumption | exact beq_int _ | exact bne_int _) ?_ | refine ARun.knowF rfl rfl rfl (by first | rfl | assumption | exact beq_int _ | exact bne_int _) ?_ | refine ARun.fork rfl rfl rfl (fun h => ?_) (fun h => ?_)) | refine awp_cond rfl (fun h => ?_) (fun h => ?_)))
      exact awp_ret ⟨_, ResL.cons (ResA.tmp (.val _)) .nil, rfl⟩
  · have d1 : ((((a.map encHn).length : Nat) : Int) != (((b.map encHn).length : Nat) : Int)) = true := by simp; omega
    rw [sameHn_no (fun h => hl (by rw [h]))]
    (repeat' (first | refine awp_seq ?_ | refine awp_block ?_ | refine awp_region (fun _ => hmix) ?_ | refine ARun.op rfl (by first | exact True.intro | exact rfl | (unfold inR; omega) | omega | ((try unfold inR); simp only [decide_eq_true_eq, decide_eq_false_iff_not, beq_iff_eq, beq_eq_false_iff_ne, ne_eq, Bool.not_eq_true', Bool.not_eq_false', List.length_map, List.length_append, List.length_take, List.length_drop, List.length_replicate, List.length_cons, List.length_nil] at *; omega)) ?_ | ((first | refine ARun.fin (by first | (intro h; cases h; done) | (intro _; kernel_rfl)) ?_ | refine awp_skip ?_ | refine awp_exit ?_); dsimp only [thenA, blockA, AS.bump, List.length_cons, List.length_nil, reduceIte, Nat.reduceEqDiff]) | refine awp_condT rfl (by first | rfl | assumption | exact beq_int _ | exact bne_int _) ?_ | refine awp_condF rfl (by first | rfl | assumption | exact beq_int _ | exact bne_int _) ?_ | ((fail_if_success refine ARun.plain rfl ?_); first | refine ARun.knowT rfl rfl rfl (by first | rfl | assumption | exact beq_int _ | exact bne_int _) ?_ | refine ARun.knowF rfl rfl rfl (by first | rfl | assumption | exact beq_int _ | exact bne_int _) ?_ | refine ARun.fork rfl rfl rfl (fun h => ?_) (fun h => ?_)) | refine awp_cond rfl (fun h => ?_) (fun h => ?_)))
    exact awp_ret ⟨_, ResL.cons (ResA.tmp (.val _)) .nil, rfl⟩
set_option maxHeartbeats 4000000 in
theorem ref_frames_c (a b : List Fr) (hla : a.length ≤ 1000000) : FnC Try.prog 53 [encLFr a, encLFr b] (.val (.bool (sameFr a b))) := by
  refine FnC.of_awp (T := tt) (ok := tok) Try.func53 (by kernel_rfl) rfl (by kernel_rfl) (closedL_cons (closedFr a) (closedL_cons (closedFr b) closedL_nil)) (fun w0 st0 => ?_)
  dsimp only [frOf]
  by_cases hl : a.length = b.length
  · have d1 : ((((a.map encFr).length : Nat) : Int) != (((b.map encFr).length : Nat) : Int)) = false := by simp [hl]
    (repeat' (first | refine awp_seq ?_ | refine awp_block ?_ | refine awp_region (fun _ => hmix) ?_ | refine ARun.op rfl (by first | exact True.intro | exact rfl | (unfold inR; omega) | omega | ((try unfold inR); simp only [decide_eq_true_eq, decide_eq_false_iff_not, beq_iff_eq, beq_eq_false_iff_ne, ne_eq, Bool.not_eq_true', Bool.not_eq_false', List.length_map, List.length_append, List.length_take, List.length_drop, List.length_replicate, List.length_cons, List.length_nil] at *; omega)) ?_ | ((first | refine ARun.fin (by first | (intro h; cases h; done) | (intro _; kernel_rfl)) ?_ | refine awp_skip ?_ | refine awp_exit ?_); dsimp only [thenA, blockA, AS.bump, List.length_cons, List.length_nil, reduceIte, Nat.reduceEqDiff]) | refine awp_condT rfl (by first | rfl | assumption | exact beq_int _ | exact bne_int _) ?_ | refine awp_condF rfl (by first | rfl | assumption | exact beq_int _ | exact bne_int _) ?_ | ((fail_if_success refine ARun.plain rfl ?_); first | refine ARun.knowT rfl rfl rfl (by first | rfl | assumption | exact beq_int _ | exact bne_int _) ?_ | refine ARun.knowF rfl rfl rfl (by first | rfl | assumption | exact beq_int _ | exact bne_int _) ?_ | refine ARun.fork rfl rfl rfl (fun h => ?_) (fun h => ?_)) | refine awp_cond rfl (fun h => ?_) (fun h => ?_)))
    refine awp_loopT (T := Nat × Nat) (fun t => ⟨[(5, .val (.int .i64 (t.1 : Nat))), (0, encLFr a), (1, encLFr b)], [], t.2⟩) (fun t => t.1 ≤ a.length ∧ a.take t.1 = b.take t.1) (fun t => a.length - t.1) (0, _) ⟨Nat.zero_le _, rfl⟩ ⟨⟨rfl, rfl, rfl, trivial⟩, trivial, Nat.le_refl _⟩ (fun t ht => ?_)
    obtain ⟨k, gc⟩ := t
    obtain ⟨hk, hA⟩ := ht
    dsimp only at hk hA ⊢
    clear d1
    by_cases hlt : k < a.length
    · have hp : a[k]? = some a[k] := List.getElem?_eq_getElem hlt
      have hq : b[k]? = some b[k] := List.getElem?_eq_getElem (by omega)
      have hc : decide (((k : Nat) : Int) < (((a.map encFr).length : Nat) : Int)) = true := by simp; omega
      have e1 := take_succ' hp
      have e2 := take_succ' hq
      have hne : ∀ x y, a[k]? = some x → b[k]? = some y → x ≠ y → sameFr a b = false := fun x y hx hy hxy => sameFr_no (fun h => hxy (by rw [h, hy] at hx; exact (Option.some.inj hx).symm))
      generalize a[k] = p at hp e1
      generalize b[k] = q at hq e2
      obtain ⟨p0, p1, p2⟩ := p
      obtain ⟨q0, q1, q2⟩ := q
      by_cases h3 : p0 = q0
      · have d3 : (p0 != q0) = false := by simp [h3]
        by_cases h4 : p1 = q1
        · have d4 : (p1 != q1) = false := by simp [h4]
          by_cases h5 : p2 = q2
          · have d5 : (p2 != q2) = false := by simp [h5]
            (repeat' (first | refine awp_seq ?_ | refine awp_block ?_ | refine awp_region (fun _ => hmix) ?_ | refine ARun.op rfl (by first | exact True.intro | exact rfl | (unfold inR; omega) | omega | ((try unfold inR); simp only [decide_eq_true_eq, decide_eq_false_iff_not, beq_iff_eq, beq_eq_false_iff_ne, ne_eq, Bool.not_eq_true', Bool.not_eq_false', List.length_map, List.length_append, List.length_take, List.length_drop, List.length_replicate, List.length_cons, List.length_nil] at *; omega)) ?_ | refine ARun.indexAddr rfl rfl (by omega) (by first | with_reducible exact get_map hp | with_reducible exact get_map hq) rfl rfl rfl rfl rfl (guardF_spec rfl) ?_ | ((first | refine ARun.fin (by first | (intro h; cases h; done) | (intro _; kernel_rfl)) ?_ | refine awp_skip ?_ | refine awp_exit ?_); dsimp only [thenA, blockA, AS.bump, List.length_cons, List.length_nil, reduceIte, Nat.reduceEqDiff]) | refine awp_condT rfl (by first | rfl | assumption | exact beq_int _ | exact bne_int _) ?_ | refine awp_condF rfl (by first | rfl | assumption | exact beq_int _ | exact bne_int _) ?_ | ((fail_if_success refine ARun.plain rfl ?_); first | refine ARun.knowT rfl rfl rfl (by first | rfl | assumption | exact beq_int _ | exact bne_int _) ?_ | refine ARun.knowF rfl rfl rfl (by first | rfl | assumption | exact beq_int _ | exact bne_int _) ?_ | refine ARun.fork rfl rfl rfl (fun h => ?_) (fun h => ?_)) | refine awp_cond rfl (fun h => ?_) (fun h => ?_)))
            refine ⟨(k + 1, _), ⟨⟨succI k, rfl, rfl, trivial⟩, trivial, Nat.le_refl _⟩, ⟨hlt, ?_⟩, (by dsimp only; omega)⟩
            dsimp only
            rw [e1, e2, hA, h3, h4, h5]
          · have d5 : (p2 != q2) = true := by simp [h5]
            rw [hne _ _ hp hq (by simp [h5])]
            (repeat' (first | refine awp_seq ?_ | refine awp_block ?_ | refine awp_region (fun _ => hmix) ?_ | refine ARun.op rfl (by first | exact True.intro | exact rfl | (unfold inR; omega) | omega | ((try unfold inR); simp only [decide_eq_true_eq, decide_eq_false_iff_not, beq_iff_eq, beq_eq_false_iff_ne, ne_eq, Bool.not_eq_true', Bool.not_eq_false', List.length_map, List.length_append, List.length_take, List.length_drop, List.length_replicate, List.length_cons, List.length_nil] at *; omega)) ?_ | refine ARun.indexAddr rfl rfl (by omega) (by first | with_reducible exact get_map hp | with_reducible exact get_map hq) rfl rfl rfl rfl rfl (guardF_spec rfl) ?_ | ((first | refine ARun.fin (by first | (intro h; cases h; done) | (intro _; kernel_rfl)) ?_ | refine awp_skip ?_ | refine awp_exit ?_); dsimp only [thenA, blockA, AS.bump, List.length_cons, List.length_nil, reduceIte, Nat.reduceEqDiff]) | refine awp_condT rfl (by first | rfl | assumption | exact beq_int _ | exact bne_int _) ?_ | refine awp_condF rfl (by first | rfl | assumption | exact beq_int _ | exact bne_int _) ?_ | ((fail_if_success refine ARun.plain rfl ?_); first | refine ARun.knowT rfl rfl rfl (by first | rfl | assumption | exact beq_int _ | exact bne_int _) ?_ | refine ARun.knowF rfl rfl rfl (by first | rfl | assumption | exact beq_int _ | exact bne_int _) ?_ | refine ARun.fork rfl rfl rfl (fun h => ?_) (fun h => ?_)) | refine awp_cond rfl (fun h => ?_) (fun h => ?_)))
            exact awp_ret ⟨_, ResL.cons (ResA.tmp (.val _)) .nil, rfl⟩
        · have d4 : (p1 != q1) = true := by simp [h4]
          rw [hne _ _ hp hq (by simp [h4])]
          (repeat' (first | refine awp_seq ?_ | refine awp_block ?_ | refine awp_region (fun _ => hmix) ?_ | refine ARun.op rfl (by first | exact True.intro | exact rfl | (unfold inR; omega) | omega | ((try unfold inR); simp only [decide_eq_true_eq, decide_eq_false_iff_not, beq_iff_eq, beq_eq_false_iff_ne, ne_eq, Bool.not_eq_true', Bool.not_eq_false', List.length_map, List.length_append, List.length_take, List.length_drop, List.length_replicate, List.length_cons, List.length_nil] at *; omega)) ?_ | refine ARun.indexAddr rfl rfl (by omega) (by first | with_reducible exact get_map hp | with_reducible exact get_map hq) rfl rfl rfl rfl rfl (guardF_spec rfl) ?_ | ((first | refine ARun.fin (by first | (intro h; cases h; done) | (intro _; kernel_rfl)) ?_ | refine awp_skip ?_ | refine awp_exit ?_); dsimp only [thenA, blockA, AS.bump, List.length_cons, List.length_nil, reduceIte, Nat.reduceEqDiff]) | refine awp_condT rfl (by first | rfl | assumption | exact beq_int _ | exact bne_int _) ?_ | refine awp_condF rfl (by first | rfl | assumption | exact beq_int _ | exact bne_int _) ?_ | ((fail_if_success refine ARun.plain rfl ?_); first | refine ARun.knowT rfl rfl rfl (by first | rfl | assumption | exact beq_int _ | exact bne_int _) ?_ | refine ARun.knowF rfl rfl rfl (by first | rfl | assumption | exact beq_int _ | exact bne_int _) ?_ | refine ARun.fork rfl rfl rfl (fun h => ?_) (fun h => ?_)) | refine awp_cond rfl (fun h => ?_) (fun h => ?_)))
          exact awp_ret ⟨_, ResL.cons (ResA.tmp (.val _)) .nil, rfl⟩
      · have d3 : (p0 != q0) = true := by simp [h3]
        rw [hne _ _ hp hq (by simp [h3])]
        (repeat' (first | refine awp_seq ?_ | refine awp_block ?_ | refine awp_region (fun _ => hmix) ?_ | refine ARun.op rfl (by first | exact True.intro | exact rfl | (unfold inR; omega) | omega | ((try unfold inR); simp only [decide_eq_true_eq, decide_eq_false_iff_not, beq_iff_eq, beq_eq_false_iff_ne, ne_eq, Bool.not_eq_true', Bool.not_eq_false', List.length_map, List.length_append, List.length_take, List.length_drop, List.length_replicate, List.length_cons, List.length_nil] at *; omega)) ?_ | refine ARun.indexAddr rfl rfl (by omega) (by first | with_reducible exact get_map hp | with_reducible exact get_map hq) rfl rfl rfl rfl rfl (guardF_spec rfl) ?_ | ((first | refine ARun.fin (by first | (intro h; cases h; done) | (intro _; kernel_rfl)) ?_ | refine awp_skip ?_ | refine awp_exit ?_); dsimp only [thenA, blockA, AS.bump, List.length_cons, List.length_nil, reduceIte, Nat.reduceEqDiff]) | refine awp_condT rfl (by first | rfl | assumption | exact beq_int _ | exact bne_int _) ?_ | refine awp_condF rfl (by first | rfl | assumption | exact beq_int _ | exact bne_int _) ?_ | ((fail_if_success refine ARun.plain rfl ?_); first | refine ARun.knowT rfl rfl rfl (by first | rfl | assumption | exact beq_int _ | exact bne_int _) ?_ | refine ARun.knowF rfl rfl rfl (by first | rfl | assumption | exact beq_int _ | exact bne_int _) ?_ | refine ARun.fork rfl rfl rfl (fun h => ?_) (fun h => ?_)) | refine awp_cond rfl (fun h => ?_) (fun h => ?_)))
        exact awp_ret ⟨_, ResL.cons (ResA.tmp (.val _)) .nil, rfl⟩
    · have hkk : k = a.length := by omega
      subst hkk
      have hc : decide (((a.length : Nat) : Int) < (((a.map encFr).length : Nat) : Int)) = false := by simp
      rw [List.take_length, hl, List.take_length] at hA
      rw [sameFr_iff.2 hA]
      (repeat' (first | refine awp_seq ?_ | refine awp_block ?_ | refine awp_region (fun _ => hmix) ?_ | refine ARun.op rfl (by first | exact True.intro | exact rfl | (unfold inR; omega) | omega | ((try unfold inR); simp only [decide_eq_true_eq, decide_eq_false_iff_not, beq_iff_eq, beq_eq_false_iff_ne, ne_eq, Bool.not_eq_true', Bool.not_eq_false', List.length_map, List.length_append, List.length_take, List.length_drop, List.length_replicate, List.length_cons, List.length_nil] at *; omega)) ?_ | ((first | refine ARun.fin (by first | (intro h; cases h; done) | (intro _; kernel_rfl)) ?_ | refine awp_skip ?_ | refine awp_exit ?_); dsimp only [thenA, blockA, AS.bump, List.length_cons, List.length_nil, reduceIte, Nat.reduceEqDiff]) | refine awp_condT rfl (by first | rfl | assumption | exact beq_int _ | exact bne_int _) ?_ | refine awp_condF rfl (by first | rfl | assumption | exact beq_int _ | exact bne_int _) ?_ | ((fail_if_success refine ARun.plain rfl ?_); first | refine ARun.knowT rfl rfl rfl (by first | rfl | assumption | exact beq_int _ | exact bne_int _) ?_ | refine ARun.knowF rfl rfl rfl (by first | rfl | assumption | exact beq_int _ | exact bne_int _) ?_ | refine ARun.fork rfl rfl rfl (fun h => ?_) (fun h => ?_)) | refine awp_cond rfl (fun h => ?_) (fun h => ?_)))
      exact awp_ret ⟨_, ResL.cons (ResA.tmp (.val _)) .nil, rfl⟩
  · have d1 : ((((a.map encFr).length : Nat) : Int) != (((b.map encFr).length : Nat) : Int)) = true := by simp; omega
    rw [sameFr_no (fun h => hl (by rw [h]))]
    (repeat' (first | refine awp_seq ?_ | refine awp_block ?_ | refine awp_region (fun _ => hmix) ?_ | refine ARun.op rfl (by first | exact True.intro | exact rfl | (unfold inR; omega) | omega | ((try unfold inR); simp only [decide_eq_true_eq, decide_eq_false_iff_not, beq_iff_eq, beq_eq_false_iff_ne, ne_eq, Bool.not_eq_true', Bool.not_eq_false', List.length_map, List.length_append, List.length_take, List.length_drop, List.length_replicate, List.length_cons, List.length_nil] at *; omega)) ?_ | ((first | refine ARun.fin (by first | (intro h; cases h; done) | (intro _; kernel_rfl)) ?_ | refine awp_skip ?_ | refine awp_exit ?_); dsimp only [thenA, blockA, AS.bump, List.length_cons, List.length_nil, reduceIte, Nat.reduceEqDiff]) | refine awp_condT rfl (by first | rfl | assumption | exact beq_int _ | exact bne_int _) ?_ | refine awp_condF rfl (by first | rfl | assumption | exact beq_int _ | exact bne_int _) ?_ | ((fail_if_success refine ARun.plain rfl ?_); first | refine ARun.knowT rfl rfl rfl (by first | rfl | assumption | exact beq_int _ | exact bne_int _) ?_ | refine ARun.knowF rfl rfl rfl (by first | rfl | assumption | exact beq_int _ | exact bne_int _) ?_ | refine ARun.fork rfl rfl rfl (fun h => ?_) (fun h => ?_)) | refine awp_cond rfl (fun h => ?_) (fun h => ?_)))
    exact awp_ret ⟨_, ResL.cons (ResA.tmp (.val _)) .nil, rfl⟩
set_option maxHeartbeats 4000000 in
theorem ref_reqs_c (a b : List Rq) (hla : a.length ≤ 1000000) : FnC Try.prog 56 [encLRq a, encLRq b] (.val (.bool (sameRq a b))) := by
  refine FnC.of_awp (T := tt) (ok := tok) Try.func56 (by kernel_rfl) rfl (by kernel_rfl) (closedL_cons (closedRq a) (closedL_cons (closedRq b) closedL_nil)) (fun w0 st0 => ?_)
  dsimp only [frOf]
  by_cases hl : a.length = b.length
  · have d1 : ((((a.map encRq).length : Nat) : Int) != (((b.map encRq).length : Nat) : Int)) = false := by simp [hl]
    (repeat' (first | refine awp_seq ?_ | refine awp_block ?_ | refine awp_region (fun _ => hmix) ?_ | refine ARun.op rfl (by first | exact True.intro | exact rfl | (unfold inR; omega) | omega | ((try unfold inR); simp only [decide_eq_true_eq, decide_eq_false_iff_not, beq_iff_eq, beq_eq_false_iff_ne, ne_eq, Bool.not_eq_true', Bool.not_eq_false', List.length_map, List.length_append, List.length_take, List.length_drop, List.length_replicate, List.length_cons, List.length_nil] at *; omega)) ?_ | ((first | refine ARun.fin (by first | (intro h; cases h; done) | (intro _; kernel_rfl)) ?_ | refine awp_skip ?_ | refine awp_exit ?_); dsimp only [thenA, blockA, AS.bump, List.length_cons, List.length_nil, reduceIte, Nat.reduceEqDiff]) | refine awp_condT rfl (by first | rfl | assumption | exact beq_int _ | exact bne_int _) ?_ | refine awp_condF rfl (by first | rfl | assumption | exact beq_int _ | exact bne_int _) ?_ | ((fail_if_success refine ARun.plain rfl ?_); first | refine ARun.knowT rfl rfl rfl (by first | rfl | assumption | exact beq_int _ | exact bne_int _) ?_ | refine ARun.knowF rfl rfl rfl (by first | rfl | assumption | exact beq_int _ | exact bne_int _) ?_ | refine ARun.fork rfl rfl rfl (fun h => ?_) (fun h => ?_)) | refine awp_cond rfl (fun h => ?_) (fun h => ?_)))
    refine awp_loopT (T := Nat × Nat) (fun t => ⟨[(5, .val (.int .i64 (t.1 : Nat))), (0, encLRq a), (1, encLRq b)], [], t.2⟩) (fun t => t.1 ≤ a.length ∧ a.take t.1 = b.take t.1) (fun t => a.length - t.1) (0, _) ⟨Nat.zero_le _, rfl⟩ ⟨⟨rfl, rfl, rfl, trivial⟩, trivial, Nat.le_refl _⟩ (fun t ht => ?_)
    obtain ⟨k, gc⟩ := t
    obtain ⟨hk, hA⟩ := ht
    dsimp only at hk hA ⊢
    clear d1
    by_cases hlt : k < a.length
    · have hp : a[k]? = some a[k] := List.getElem?_eq_getElem hlt
      have hq : b[k]? = some b[k] := List.getElem?_eq_getElem (by omega)
      have hc : decide (((k : Nat) : Int) < (((a.map encRq).length : Nat) : Int)) = true := by simp; omega
      have e1 := take_succ' hp
      have e2 := take_succ' hq
      have hne : ∀ x y, a[k]? = some x → b[k]? = some y → x ≠ y → sameRq a b = false := fun x y hx hy hxy => sameRq_no (fun h => hxy (by rw [h, hy] at hx; exact (Option.some.inj hx).symm))
      generalize a[k] = p at hp e1
      generalize b[k] = q at hq e2
      obtain ⟨p0, p1, p2, p3, p4, p5⟩ := p
      obtain ⟨q0, q1, q2, q3, q4, q5⟩ := q
      have key : ((p0 == q0) && ((p1 == q1) && ((p2 == q2) && ((p3 == q3) && ((p4 == q4) && ((p5 == q5) && true)))))) = true ↔ (⟨p0, p1, p2, p3, p4, p5⟩ : Rq) = ⟨q0, q1, q2, q3, q4, q5⟩ := by
        rw [Rq.mk.injEq]
        simp only [Bool.and_eq_true, beq_iff_eq, and_true]
      by_cases h3 : (⟨p0, p1, p2, p3, p4, p5⟩ : Rq) = ⟨q0, q1, q2, q3, q4, q5⟩
      · have d3 : (!((p0 == q0) && ((p1 == q1) && ((p2 == q2) && ((p3 == q3) && ((p4 == q4) && ((p5 == q5) && true))))))) = false := by rw [key.2 h3]; rfl
        (repeat' (first | refine awp_seq ?_ | refine awp_block ?_ | refine awp_region (fun _ => hmix) ?_ | refine ARun.op rfl (by first | exact True.intro | exact rfl | (unfold inR; omega) | omega | ((try unfold inR); simp only [decide_eq_true_eq, decide_eq_false_iff_not, beq_iff_eq, beq_eq_false_iff_ne, ne_eq, Bool.not_eq_true', Bool.not_eq_false', List.length_map, List.length_append, List.length_take, List.length_drop, List.length_replicate, List.length_cons, List.length_nil] at *; omega)) ?_ | refine ARun.indexAddr rfl rfl (by omega) (by first | with_reducible exact get_map hp | with_reducible exact get_map hq) rfl rfl rfl rfl rfl (guardF_spec rfl) ?_ | refine neX flatRq rfl rfl rfl rfl rfl ?_ | ((first | refine ARun.fin (by first | (intro h; cases h; done) | (intro _; kernel_rfl)) ?_ | refine awp_skip ?_ | refine awp_exit ?_); dsimp only [thenA, blockA, AS.bump, List.length_cons, List.length_nil, reduceIte, Nat.reduceEqDiff]) | refine awp_condT rfl (by first | rfl | assumption | exact beq_int _ | exact bne_int _) ?_ | refine awp_condF rfl (by first | rfl | assumption | exact beq_int _ | exact bne_int _) ?_ | ((fail_if_success refine ARun.plain rfl ?_); first | refine ARun.knowT rfl rfl rfl (by first | rfl | assumption | exact beq_int _ | exact bne_int _) ?_ | refine ARun.knowF rfl rfl rfl (by first | rfl | assumption | exact beq_int _ | exact bne_int _) ?_ | refine ARun.fork rfl rfl rfl (fun h => ?_) (fun h => ?_)) | refine awp_cond rfl (fun h => ?_) (fun h => ?_)))
        refine ⟨(k + 1, _), ⟨⟨succI k, rfl, rfl, trivial⟩, trivial, Nat.le_refl _⟩, ⟨hlt, ?_⟩, (by dsimp only; omega)⟩
        dsimp only
        rw [e1, e2, hA, h3]
      · have d3 : (!((p0 == q0) && ((p1 == q1) && ((p2 == q2) && ((p3 == q3) && ((p4 == q4) && ((p5 == q5) && true))))))) = true := by rw [Bool.eq_false_iff.2 (fun e => h3 (key.1 e))]; rfl
        rw [hne _ _ hp hq h3]
        (repeat' (first | refine awp_seq ?_ | refine awp_block ?_ | refine awp_region (fun _ => hmix) ?_ | refine ARun.op rfl (by first | exact True.intro | exact rfl | (unfold inR; omega) | omega | ((try unfold inR); simp only [decide_eq_true_eq, decide_eq_false_iff_not, beq_iff_eq, beq_eq_false_iff_ne, ne_eq, Bool.not_eq_true', Bool.not_eq_false', List.length_map, List.length_append, List.length_take, List.length_drop, List.length_replicate, List.length_cons, List.length_nil] at *; omega)) ?_ | refine ARun.indexAddr rfl rfl (by omega) (by first | with_reducible exact get_map hp | with_reducible exact get_map hq) rfl rfl rfl rfl rfl (guardF_spec rfl) ?_ | refine neX flatRq rfl rfl rfl rfl rfl ?_ | ((first | refine ARun.fin (by first | (intro h; cases h; done) | (intro _; kernel_rfl)) ?_ | refine awp_skip ?_ | refine awp_exit ?_); dsimp only [thenA, blockA, AS.bump, List.length_cons, List.length_nil, reduceIte, Nat.reduceEqDiff]) | refine awp_condT rfl (by first | rfl | assumption | exact beq_int _ | exact bne_int _) ?_ | refine awp_condF rfl (by first | rfl | assumption | exact beq_int _ | exact bne_int _) ?_ | ((fail_if_success refine ARun.plain rfl ?_); first | refine ARun.knowT rfl rfl rfl (by first | rfl | assumption | exact beq_int _ | exact bne_int _) ?_ | refine ARun.knowF rfl rfl rfl (by first | rfl | assumption | exact beq_int _ | exact bne_int _) ?_ | refine ARun.fork rfl rfl rfl (fun h => ?_) (fun h => ?_)) | refine awp_cond rfl (fun h => ?_) (fun h => ?_)))
        exact awp_ret ⟨_, ResL.cons (ResA.tmp (.val _)) .nil, rfl⟩
    · have hkk : k = a.length := by omega
      subst hkk
      have hc : decide (((a.length : Nat) : Int) < (((a.map encRq).length : Nat) : Int)) = false := by simp
      rw [List.take_length, hl, List.take_length] at hA
      rw [sameRq_iff.2 hA]
      (repeat' (first | refine awp_seq ?_ | refine awp_block ?_ | refine awp_region (fun _ => hmix) ?_ | refine ARun.op rfl (by first | exact True.intro | exact rfl | (unfold inR; omega) | omega | ((try unfold inR); simp only [decide_eq_true_eq, decide_eq_false_iff_not, beq_iff_eq, beq_eq_false_iff_ne, ne_eq, Bool.not_eq_true', Bool.not_eq_false', List.length_map, List.length_append, List.length_take, List.length_drop, List.length_replicate, List.length_cons, List.length_nil] at *; omega)) ?_ | ((first | refine ARun.fin (by first | (intro h; cases h; done) | (intro _; kernel_rfl)) ?_ | refine awp_skip ?_ | refine awp_exit ?_); dsimp only [thenA, blockA, AS.bump, List.length_cons, List.length_nil, reduceIte, Nat.reduceEqDiff]) | refine awp_condT rfl (by first | rfl | assumption | exact beq_int _ | exact bne_int _) ?_ | refine awp_condF rfl (by first | rfl | assumption | exact beq_int _ | exact bne_int _) ?_ | ((fail_if_success refine ARun.plain rfl ?_); first | refine ARun.knowT rfl rfl rfl (by first | rfl | assumption | exact beq_int _ | exact bne_int _) ?_ | refine ARun.knowF rfl rfl rfl (by first | rfl | assumption | exact beq_int _ | exact bne_int _) ?_ | refine ARun.fork rfl rfl rfl (fun h => ?_) (fun h => ?_)) | refine awp_cond rfl (fun h => ?_) (fun h => ?_)))
      exact awp_ret ⟨_, ResL.cons (ResA.tmp (.val _)) .nil, rfl⟩
  · have d1 : ((((a.map encRq).length : Nat) : Int) != (((b.map encRq).length : Nat) : Int)) = true := by simp; omega
    rw [sameRq_no (fun h => hl (by rw [h]))]
    (repeat' (first | refine awp_seq ?_ | refine awp_block ?_ | refine awp_region (fun _ => hmix) ?_ | refine ARun.op rfl (by first | exact True.intro | exact rfl | (unfold inR; omega) | omega | ((try unfold inR); simp only [decide_eq_true_eq, decide_eq_false_iff_not, beq_iff_eq, beq_eq_false_iff_ne, ne_eq, Bool.not_eq_true', Bool.not_eq_false', List.length_map, List.length_append, List.length_take, List.length_drop, List.length_replicate, List.length_cons, List.length_nil] at *; omega)) ?_ | ((first | refine ARun.fin (by first | (intro h; cases h; done) | (intro _; kernel_rfl)) ?_ | refine awp_skip ?_ | refine awp_exit ?_); dsimp only [thenA, blockA, AS.bump, List.length_cons, List.length_nil, reduceIte, Nat.reduceEqDiff]) | refine awp_condT rfl (by first | rfl | assumption | exact beq_int _ | exact bne_int _) ?_ | refine awp_condF rfl (by first | rfl | assumption | exact beq_int _ | exact bne_int _) ?_ | ((fail_if_success refine ARun.plain rfl ?_); first | refine ARun.knowT rfl rfl rfl (by first | rfl | assumption | exact beq_int _ | exact bne_int _) ?_ | refine ARun.knowF rfl rfl rfl (by first | rfl | assumption | exact beq_int _ | exact bne_int _) ?_ | refine ARun.fork rfl rfl rfl (fun h => ?_) (fun h => ?_)) | refine awp_cond rfl (fun h => ?_) (fun h => ?_)))
    exact awp_ret ⟨_, ResL.cons (ResA.tmp (.val _)) .nil, rfl⟩
set_option maxHeartbeats 4000000 in
theorem ref_hands_c (a b : List Hn) (hla : a.length ≤ 1000000) : FnC Try.prog 57 [encLHn a, encLHn b] (.val (.bool (sameHn a b))) := by
  refine FnC.of_awp (T := tt) (ok := tok) Try.func57 (by kernel_rfl) rfl (by kernel_rfl) (closedL_cons (closedHn a) (closedL_cons (closedHn b) closedL_nil)) (fun w0 st0 => ?_)
  dsimp only [frOf]
  by_cases hl : a.length = b.length
  · have d1 : ((((a.map encHn).length : Nat) : Int) != (((b.map encHn).length : Nat) : Int)) = false := by simp [hl]
    (repeat' (first | refine awp_seq ?_ | refine awp_block ?_ | refine awp_region (fun _ => hmix) ?_ | refine ARun.op rfl (by first | exact True.intro | exact rfl | (unfold inR; omega) | omega | ((try unfold inR); simp only [decide_eq_true_eq, decide_eq_false_iff_not, beq_iff_eq, beq_eq_false_iff_ne, ne_eq, Bool.not_eq_true', Bool.not_eq_false', List.length_map, List.length_append, List.length_take, List.length_drop, List.length_replicate, List.length_cons, List.length_nil] at *; omega)) ?_ | ((first | refine ARun.fin (by first | (intro h; cases h; done) | (intro _; kernel_rfl)) ?_ | refine awp_skip ?_ | refine awp_exit ?_); dsimp only [thenA, blockA, AS.bump, List.length_cons, List.length_nil, reduceIte, Nat.reduceEqDiff]) | refine awp_condT rfl (by first | rfl | assumption | exact beq_int _ | exact bne_int _) ?_ | refine awp_condF rfl (by first | rfl | assumption | exact beq_int _ | exact bne_int _) ?_ | ((fail_if_success refine ARun.plain rfl ?_); first | refine ARun.knowT rfl rfl rfl (by first | rfl | assumption | exact beq_int _ | exact bne_int _) ?_ | refine ARun.knowF rfl rfl rfl (by first | rfl | assumption | exact beq_int _ | exact bne_int _) ?_ | refine ARun.fork rfl rfl rfl (fun h => ?_) (fun h => ?_)) | refine awp_cond rfl (fun h => ?_) (fun h => ?_)))
    refine awp_loopT (T := Nat × Nat) (fun t => ⟨[(5, .val (.int .i64 (t.1 : Nat))), (0, encLHn a), (1, encLHn b)], [], t.2⟩) (fun t => t.1 ≤ a.length ∧ a.take t.1 = b.take t.1) (fun t => a.length - t.1) (0, _) ⟨Nat.zero_le _, rfl⟩ ⟨⟨rfl, rfl, rfl, trivial⟩, trivial, Nat.le_refl _⟩ (fun t ht => ?_)
    obtain ⟨k, gc⟩ := t
    obtain ⟨hk, hA⟩ := ht
    dsimp only at hk hA ⊢
    clear d1
    by_cases hlt : k < a.length
    · have hp : a[k]? = some a[k] := List.getElem?_eq_getElem hlt
      have hq : b[k]? = some b[k] := List.getElem?_eq_getElem (by omega)
      have hc : decide (((k : Nat) : Int) < (((a.map encHn).length : Nat) : Int)) = true := by simp; omega
      have e1 := take_succ' hp
      have e2 := take_succ' hq
      have hne : ∀ x y, a[k]? = some x → b[k]? = some y → x ≠ y → sameHn a b = false := fun x y hx hy hxy => sameHn_no (fun h => hxy (by rw [h, hy] at hx; exact (Option.some.inj hx).symm))
      generalize a[k] = p at hp e1
      generalize b[k] = q at hq e2
      obtain ⟨p0, p1, p2, p3⟩ := p
      obtain ⟨q0, q1, q2, q3⟩ := q
      have key : ((p0 == q0) && ((p1 == q1) && ((p2 == q2) && ((p3 == q3) && true)))) = true ↔ (⟨p0, p1, p2, p3⟩ : Hn) = ⟨q0, q1, q2, q3⟩ := by
        rw [Hn.mk.injEq]
        simp only [Bool.and_eq_true, beq_iff_eq, and_true]
      by_cases h3 : (⟨p0, p1, p2, p3⟩ : Hn) = ⟨q0, q1, q2, q3⟩
      · have d3 : (!((p0 == q0) && ((p1 == q1) && ((p2 == q2) && ((p3 == q3) && true))))) = false := by rw [key.2 h3]; rfl
        (repeat' (first | refine awp_seq ?_ | refine awp_block ?_ | refine awp_region (fun _ => hmix) ?_ | refine ARun.op rfl (by first | exact True.intro | exact rfl | (unfold inR; omega) | omega | ((try unfold inR); simp only [decide_eq_true_eq, decide_eq_false_iff_not, beq_iff_eq, beq_eq_false_iff_ne, ne_eq, Bool.not_eq_true', Bool.not_eq_false', List.length_map, List.length_append, List.length_take, List.length_drop, List.length_replicate, List.length_cons, List.length_nil] at *; omega)) ?_ | refine ARun.indexAddr rfl rfl (by omega) (by first | with_reducible exact get_map hp | with_reducible exact get_map hq) rfl rfl rfl rfl rfl (guardF_spec rfl) ?_ | refine neX flatHn rfl rfl rfl rfl rfl ?_ | ((first | refine ARun.fin (by first | (intro h; cases h; done) | (intro _; kernel_rfl)) ?_ | refine awp_skip ?_ | refine awp_exit ?_); dsimp only [thenA, blockA, AS.bump, List.length_cons, List.length_nil, reduceIte, Nat.reduceEqDiff]) | refine awp_condT rfl (by first | rfl | assumption | exact beq_int _ | exact bne_int _) ?_ | refine awp_condF rfl (by first | rfl | assumption | exact beq_int _ | exact bne_int _) ?_ | ((fail_if_success refine ARun.plain rfl ?_); first | refine ARun.knowT rfl rfl rfl (by first | rfl | assumption | exact beq_int _ | exact bne_int _) ?_ | refine ARun.knowF rfl rfl rfl (by first | rfl | assumption | exact beq_int _ | exact bne_int _) ?_ | refine ARun.fork rfl rfl rfl (fun h => ?_) (fun h => ?_)) | refine awp_cond rfl (fun h => ?_) (fun h => ?_)))
        refine ⟨(k + 1, _), ⟨⟨succI k, rfl, rfl, trivial⟩, trivial, Nat.le_refl _⟩, ⟨hlt, ?_⟩, (by dsimp only; omega)⟩
        dsimp only
        rw [e1, e2, hA, h3]
      · have d3 : (!((p0 == q0) && ((p1 == q1) && ((p2 == q2) && ((p3 == q3) && true))))) = true := by rw [Bool.eq_false_iff.2 (fun e => h3 (key.1 e))]; rfl
        rw [hne _ _ hp hq h3]
        (repeat' (first | refine awp_seq ?_ | refine awp_block ?_ | refine awp_region (fun _ => hmix) ?_ | refine ARun.op rfl (by first | exact True.intro | exact rfl | (unfold inR; omega) | omega | ((try unfold inR); simp only [decide_eq_true_eq, decide_eq_false_iff_not, beq_iff_eq, beq_eq_false_iff_ne, ne_eq, Bool.not_eq_true', Bool.not_eq_false', List.length_map, List.length_append, List.length_take, List.length_drop, List.length_replicate, List.length_cons, List.length_nil] at *; omega)) ?_ | refine ARun.indexAddr rfl rfl (by omega) (by first | with_reducible exact get_map hp | with_reducible exact get_map hq) rfl rfl rfl rfl rfl (guardF_spec rfl) ?_ | refine neX flatHn rfl rfl rfl rfl rfl ?_ | ((first | refine ARun.fin (by first | (intro h; cases h; done) | (intro _; kernel_rfl)) ?_ | refine awp_skip ?_ | refine awp_exit ?_); dsimp only [thenA, blockA, AS.bump, List.length_cons, List.length_nil, reduceIte, Nat.reduceEqDiff]) | refine awp_condT rfl (by first | rfl | assumption | exact beq_int _ | exact bne_int _) ?_ | refine awp_condF rfl (by first | rfl | assumption | exact beq_int _ | exact bne_int _) ?_ | ((fail_if_success refine ARun.plain rfl ?_); first | refine ARun.knowT rfl rfl rfl (by first | rfl | assumption | exact beq_int _ | exact bne_int _) ?_ | refine ARun.knowF rfl rfl rfl (by first | rfl | assumption | exact beq_int _ | exact bne_int _) ?_ | refine ARun.fork rfl rfl rfl (fun h => ?_) (fun h => ?_)) | refine awp_cond rfl (fun h => ?_) (fun h => ?_)))
        exact awp_ret ⟨_, ResL.cons (ResA.tmp (.val _)) .nil, rfl⟩
    · have hkk : k = a.length := by omega
      subst hkk
      have hc : decide (((a.length : Nat) : Int) < (((a.map encHn).length : Nat) : Int)) = false := by simp
      rw [List.take_length, hl, List.take_length] at hA
      rw [sameHn_iff.2 hA]
      (repeat' (first | refine awp_seq ?_ | refine awp_block ?_ | refine awp_region (fun _ => hmix) ?_ | refine ARun.op rfl (by first | exact True.intro | exact rfl | (unfold inR; omega) | omega | ((try unfold inR); simp only [decide_eq_true_eq, decide_eq_false_iff_not, beq_iff_eq, beq_eq_false_iff_ne, ne_eq, Bool.not_eq_true', Bool.not_eq_false', List.length_map, List.length_append, List.length_take, List.length_drop, List.length_replicate, List.length_cons, List.length_nil] at *; omega)) ?_ | ((first | refine ARun.fin (by first | (intro h; cases h; done) | (intro _; kernel_rfl)) ?_ | refine awp_skip ?_ | refine awp_exit ?_); dsimp only [thenA, blockA, AS.bump, List.length_cons, List.length_nil, reduceIte, Nat.reduceEqDiff]) | refine awp_condT rfl (by first | rfl | assumption | exact beq_int _ | exact bne_int _) ?_ | refine awp_condF rfl (by first | rfl | assumption | exact beq_int _ | exact bne_int _) ?_ | ((fail_if_success refine ARun.plain rfl ?_); first | refine ARun.knowT rfl rfl rfl (by first | rfl | assumption | exact beq_int _ | exact bne_int _) ?_ | refine ARun.knowF rfl rfl rfl (by first | rfl | assumption | exact beq_int _ | exact bne_int _) ?_ | refine ARun.fork rfl rfl rfl (fun h => ?_) (fun h => ?_)) | refine awp_cond rfl (fun h => ?_) (fun h => ?_)))
      exact awp_ret ⟨_, ResL.cons (ResA.tmp (.val _)) .nil, rfl⟩
  · have d1 : ((((a.map encHn).length : Nat) : Int) != (((b.map encHn).length : Nat) : Int)) = true := by simp; omega
    rw [sameHn_no (fun h => hl (by rw [h]))]
    (repeat' (first | refine awp_seq ?_ | refine awp_block ?_ | refine awp_region (fun _ => hmix) ?_ | refine ARun.op rfl (by first | exact True.intro | exact rfl | (unfold inR; omega) | omega | ((try unfold inR); simp only [decide_eq_true_eq, decide_eq_false_iff_not, beq_iff_eq, beq_eq_false_iff_ne, ne_eq, Bool.not_eq_true', Bool.not_eq_false', List.length_map, List.length_append, List.length_take, List.length_drop, List.length_replicate, List.length_cons, List.length_nil] at *; omega)) ?_ | ((first | refine ARun.fin (by first | (intro h; cases h; done) | (intro _; kernel_rfl)) ?_ | refine awp_skip ?_ | refine awp_exit ?_); dsimp only [thenA, blockA, AS.bump, List.length_cons, List.length_nil, reduceIte, Nat.reduceEqDiff]) | refine awp_condT rfl (by first | rfl | assumption | exact beq_int _ | exact bne_int _) ?_ | refine awp_condF rfl (by first | rfl | assumption | exact beq_int _ | exact bne_int _) ?_ | ((fail_if_success refine ARun.plain rfl ?_); first | refine ARun.knowT rfl rfl rfl (by first | rfl | assumption | exact beq_int _ | exact bne_int _) ?_ | refine ARun.knowF rfl rfl rfl (by first | rfl | assumption | exact beq_int _ | exact bne_int _) ?_ | refine ARun.fork rfl rfl rfl (fun h => ?_) (fun h => ?_)) | refine awp_cond rfl (fun h => ?_) (fun h => ?_)))
    exact awp_ret ⟨_, ResL.cons (ResA.tmp (.val _)) .nil, rfl⟩
set_option maxHeartbeats 4000000 in
theorem eqI_c (a b : List Int) (hla : a.length ≤ 1000000) : FnC Try.prog 67 [encS a, encS b] (.val (.bool (decide (a = b)))) := by
  refine FnC.of_awp (T := tt) (ok := tok) Try.func67 (by kernel_rfl) rfl (by kernel_rfl) (closedL_cons (closed_s a) (closedL_cons (closed_s b) closedL_nil)) (fun w0 st0 => ?_)
  dsimp only [frOf]
  by_cases hl : a.length = b.length
  · have d1 : ((((a.map encI).length : Nat) : Int) != (((b.map encI).length : Nat) : Int)) = false := by simp [hl]
    (repeat' (first | refine awp_seq ?_ | refine awp_block ?_ | refine awp_region (fun _ => hmix) ?_ | refine ARun.op rfl (by first | exact True.intro | exact rfl | (unfold inR; omega) | omega | ((try unfold inR); simp only [decide_eq_true_eq, decide_eq_false_iff_not, beq_iff_eq, beq_eq_false_iff_ne, ne_eq, Bool.not_eq_true', Bool.not_eq_false', List.length_map, List.length_append, List.length_take, List.length_drop, List.length_replicate, List.length_cons, List.length_nil] at *; omega)) ?_ | ((first | refine ARun.fin (by first | (intro h; cases h; done) | (intro _; kernel_rfl)) ?_ | refine awp_skip ?_ | refine awp_exit ?_); dsimp only [thenA, blockA, AS.bump, List.length_cons, List.length_nil, reduceIte, Nat.reduceEqDiff]) | refine awp_condT rfl (by first | rfl | assumption | exact beq_int _ | exact bne_int _) ?_ | refine awp_condF rfl (by first | rfl | assumption | exact beq_int _ | exact bne_int _) ?_ | ((fail_if_success refine ARun.plain rfl ?_); first | refine ARun.knowT rfl rfl rfl (by first | rfl | assumption | exact beq_int _ | exact bne_int _) ?_ | refine ARun.knowF rfl rfl rfl (by first | rfl | assumption | exact beq_int _ | exact bne_int _) ?_ | refine ARun.fork rfl rfl rfl (fun h => ?_) (fun h => ?_)) | refine awp_cond rfl (fun h => ?_) (fun h => ?_)))
    refine awp_loopT (T := Nat × Nat) (fun t => ⟨[(13, .val (.int .i64 (t.1 : Nat))), (12, .val (.int .i64 ((a.map encI).length : Nat))), (0, encS a), (1, encS b)], [], t.2⟩) (fun t => t.1 ≤ a.length ∧ a.take t.1 = b.take t.1) (fun t => a.length - t.1) (0, _) ⟨Nat.zero_le _, rfl⟩ ⟨⟨rfl, rfl, rfl, rfl, trivial⟩, trivial, Nat.le_refl _⟩ (fun t ht => ?_)
    obtain ⟨k, gc⟩ := t
    obtain ⟨hk, hA⟩ := ht
    dsimp only at hk hA ⊢
    clear d1
    by_cases hlt : k < a.length
    · have hp : a[k]? = some a[k] := List.getElem?_eq_getElem hlt
      have hq : b[k]? = some b[k] := List.getElem?_eq_getElem (by omega)
      have hc : decide (((k : Nat) : Int) < (((a.map encI).length : Nat) : Int)) = true := by simp; omega
      have e1 := take_succ' hp
      have e2 := take_succ' hq
      have hne : ∀ x y, a[k]? = some x → b[k]? = some y → x ≠ y → decide (a = b) = false := fun x y hx hy hxy => decide_eq_false (fun h => hxy (by rw [h, hy] at hx; exact (Option.some.inj hx).symm))
      generalize a[k] = p at hp e1
      generalize b[k] = q at hq e2
      by_cases h3 : p = q
      · have d3 : (p != q) = false := by simp [h3]
        (repeat' (first | refine awp_seq ?_ | refine awp_block ?_ | refine awp_region (fun _ => hmix) ?_ | refine ARun.op rfl (by first | exact True.intro | exact rfl | (unfold inR; omega) | omega | ((try unfold inR); simp only [decide_eq_true_eq, decide_eq_false_iff_not, beq_iff_eq, beq_eq_false_iff_ne, ne_eq, Bool.not_eq_true', Bool.not_eq_false', List.length_map, List.length_append, List.length_take, List.length_drop, List.length_replicate, List.length_cons, List.length_nil] at *; omega)) ?_ | refine ARun.indexAddr rfl rfl (by omega) (by first | with_reducible exact get_map hp | with_reducible exact get_map hq) rfl rfl rfl rfl rfl (guardF_spec rfl) ?_ | ((first | refine ARun.fin (by first | (intro h; cases h; done) | (intro _; kernel_rfl)) ?_ | refine awp_skip ?_ | refine awp_exit ?_); dsimp only [thenA, blockA, AS.bump, List.length_cons, List.length_nil, reduceIte, Nat.reduceEqDiff]) | refine awp_condT rfl (by first | rfl | assumption | exact beq_int _ | exact bne_int _) ?_ | refine awp_condF rfl (by first | rfl | assumption | exact beq_int _ | exact bne_int _) ?_ | ((fail_if_success refine ARun.plain rfl ?_); first | refine ARun.knowT rfl rfl rfl (by first | rfl | assumption | exact beq_int _ | exact bne_int _) ?_ | refine ARun.knowF rfl rfl rfl (by first | rfl | assumption | exact beq_int _ | exact bne_int _) ?_ | refine ARun.fork rfl rfl rfl (fun h => ?_) (fun h => ?_)) | refine awp_cond rfl (fun h => ?_) (fun h => ?_)))
        refine ⟨(k + 1, _), ⟨⟨succI k, rfl, rfl, rfl, trivial⟩, trivial, Nat.le_refl _⟩, ⟨hlt, ?_⟩, (by dsimp only; omega)⟩
        dsimp only
        rw [e1, e2, hA, h3]
      · have d3 : (p != q) = true := by simp [h3]
        rw [hne _ _ hp hq h3]
        (repeat' (first | refine awp_seq ?_ | refine awp_block ?_ | refine awp_region (fun _ => hmix) ?_ | refine ARun.op rfl (by first | exact True.intro | exact rfl | (unfold inR; omega) | omega | ((try unfold inR); simp only [decide_eq_true_eq, decide_eq_false_iff_not, beq_iff_eq, beq_eq_false_iff_ne, ne_eq, Bool.not_eq_true', Bool.not_eq_false', List.length_map, List.length_append, List.length_take, List.length_drop, List.length_replicate, List.length_cons, List.length_nil] at *; omega)) ?_ | refine ARun.indexAddr rfl rfl (by omega) (by first | with_reducible exact get_map hp | with_reducible exact get_map hq) rfl rfl rfl rfl rfl (guardF_spec rfl) ?_ | ((first | refine ARun.fin (by first | (intro h; cases h; done) | (intro _; kernel_rfl)) ?_ | refine awp_skip ?_ | refine awp_exit ?_); dsimp only [thenA, blockA, AS.bump, List.length_cons, List.length_nil, reduceIte, Nat.reduceEqDiff]) | refine awp_condT rfl (by first | rfl | assumption | exact beq_int _ | exact bne_int _) ?_ | refine awp_condF rfl (by first | rfl | assumption | exact beq_int _ | exact bne_int _) ?_ | ((fail_if_success refine ARun.plain rfl ?_); first | refine ARun.knowT rfl rfl rfl (by first | rfl | assumption | exact beq_int _ | exact bne_int _) ?_ | refine ARun.knowF rfl rfl rfl (by first | rfl | assumption | exact beq_int _ | exact bne_int _) ?_ | refine ARun.fork rfl rfl rfl (fun h => ?_) (fun h => ?_)) | refine awp_cond rfl (fun h => ?_) (fun h => ?_)))
        exact awp_ret ⟨_, ResL.cons (ResA.tmp (.val _)) .nil, rfl⟩
    · have hkk : k = a.length := by omega
      subst hkk
      have hc : decide (((a.length : Nat) : Int) < (((a.map encI).length : Nat) : Int)) = false := by simp
      rw [List.take_length, hl, List.take_length] at hA
      rw [show decide (a = b) = true from decide_eq_true hA]
      (repeat' (first | refine awp_seq ?_ | refine awp_block ?_ | refine awp_region (fun _ => hmix) ?_ | refine ARun.op rfl (by first | exact True.intro | exact rfl | (unfold inR; omega) | omega | ((try unfold inR); simp only [decide_eq_true_eq, decide_eq_false_iff_not, beq_iff_eq, beq_eq_false_iff_ne, ne_eq, Bool.not_eq_true', Bool.not_eq_false', List.length_map, List.length_append, List.length_take, List.length_drop, List.length_replicate, List.length_cons, List.length_nil] at *; omega)) ?_ | ((first | refine ARun.fin (by first | (intro h; cases h; done) | (intro _; kernel_rfl)) ?_ | refine awp_skip ?_ | refine awp_exit ?_); dsimp only [thenA, blockA, AS.bump, List.length_cons, List.length_nil, reduceIte, Nat.reduceEqDiff]) | refine awp_condT rfl (by first | rfl | assumption | exact beq_int _ | exact bne_int _) ?_ | refine awp_condF rfl (by first | rfl | assumption | exact beq_int _ | exact bne_int _) ?_ | ((fail_if_success refine ARun.plain rfl ?_); first | refine ARun.knowT rfl rfl rfl (by first | rfl | assumption | exact beq_int _ | exact bne_int _) ?_ | refine ARun.knowF rfl rfl rfl (by first | rfl | assumption | exact beq_int _ | exact bne_int _) ?_ | refine ARun.fork rfl rfl rfl (fun h => ?_) (fun h => ?_)) | refine awp_cond rfl (fun h => ?_) (fun h => ?_)))
      exact awp_ret ⟨_, ResL.cons (ResA.tmp (.val _)) .nil, rfl⟩
  · have d1 : ((((a.map encI).length : Nat) : Int) != (((b.map encI).length : Nat) : Int)) = true := by simp; omega
    rw [show decide (a = b) = false from decide_eq_false (fun h => hl (by rw [h]))]
    (repeat' (first | refine awp_seq ?_ | refine awp_block ?_ | refine awp_region (fun _ => hmix) ?_ | refine ARun.op rfl (by first | exact True.intro | exact rfl | (unfold inR; omega) | omega | ((try unfold inR); simp only [decide_eq_true_eq, decide_eq_false_iff_not, beq_iff_eq, beq_eq_false_iff_ne, ne_eq, Bool.not_eq_true', Bool.not_eq_false', List.length_map, List.length_append, List.length_take, List.length_drop, List.length_replicate, List.length_cons, List.length_nil] at *; omega)) ?_ | ((first | refine ARun.fin (by first | (intro h; cases h; done) | (intro _; kernel_rfl)) ?_ | refine awp_skip ?_ | refine awp_exit ?_); dsimp only [thenA, blockA, AS.bump, List.length_cons, List.length_nil, reduceIte, Nat.reduceEqDiff]) | refine awp_condT rfl (by first | rfl | assumption | exact beq_int _ | exact bne_int _) ?_ | refine awp_condF rfl (by first | rfl | assumption | exact beq_int _ | exact bne_int _) ?_ | ((fail_if_success refine ARun.plain rfl ?_); first | refine ARun.knowT rfl rfl rfl (by first | rfl | assumption | exact beq_int _ | exact bne_int _) ?_ | refine ARun.knowF rfl rfl rfl (by first | rfl | assumption | exact beq_int _ | exact bne_int _) ?_ | refine ARun.fork rfl rfl rfl (fun h => ?_) (fun h => ?_)) | refine awp_cond rfl (fun h => ?_) (fun h => ?_)))
    exact awp_ret ⟨_, ResL.cons (ResA.tmp (.val _)) .nil, rfl⟩
end Go.Proofs.Ytgkjappmcgnabaa
