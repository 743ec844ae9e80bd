/- evq: older events; the best one; Post, of the program and of the document's answer. -/
import Derived.Test.YtpolenndeeaodabQ3
import Derived.Test.YtpolenndeeaodabB6
namespace Go.Proofs.Ytpolenndeeaodab
set_option linter.unusedVariables false
set_option linter.unusedSimpArgs false
open Go Go.RowKit
set_option maxRecDepth 100000
attribute [local irreducible] Decidable.decide awp ARun regK toK

def olderE (e : E) (age : Int) : E :=
  if e.2.1 == 0 then e else
  if e.2.2.2.2 + 1 == age then (e.1, e.2.1 - 1, e.2.2.1, e.2.2.2.1, 0) else (e.1, e.2.1, e.2.2.1, e.2.2.2.1, e.2.2.2.2 + 1)
theorem older_c (e : E) (age : Int) (h1 : -9223372036854775807 ≤ e.2.1 ∧ e.2.1 ≤ 9223372036854775807) (h2 : -9223372036854775808 ≤ e.2.2.2.2 ∧ e.2.2.2.2 ≤ 9223372036854775806) :
    FnC Try.prog 24 [.agg (encEv e), .val (.int .i64 age)] (.agg (encEv (olderE e age))) := by
  refine FnC.of_awp (T := tt) (ok := tok) Try.func24 (by kernel_rfl) rfl (by kernel_rfl) (closedL_cons (closed_e e) (closedL_cons (.val _) closedL_nil)) (fun w0 st0 => ?_)
  dsimp only [frOf]
  (repeat' (first | refine awp_seq ?_ | refine awp_block ?_ | refine awp_region (fun _ => hmix) ?_ | refine ARun.op rfl (by first | exact True.intro | exact rfl | (unfold inR; omega)) ?_ | (refine ARun.fin (by first | (intro h; cases h; done) | (intro _; kernel_rfl)) ?_; dsimp only [thenA, blockA, AS.bump, List.length_cons, List.length_nil, reduceIte, Nat.reduceEqDiff]) | (refine awp_skip ?_; dsimp only [thenA, blockA, AS.bump, List.length_cons, List.length_nil, reduceIte, Nat.reduceEqDiff]) | (refine awp_exit ?_; dsimp only [thenA, blockA, AS.bump, List.length_cons, List.length_nil, reduceIte, Nat.reduceEqDiff]) | refine awp_condT rfl (by first | rfl | assumption) ?_ | refine awp_condF rfl (by first | rfl | assumption) ?_ | ((fail_if_success refine ARun.plain rfl ?_); first | refine ARun.knowT rfl rfl rfl (by first | rfl | assumption) ?_ | refine ARun.knowF rfl rfl rfl (by first | rfl | assumption) ?_ | refine ARun.fork rfl rfl rfl (fun h => ?_) (fun h => ?_)) | refine awp_cond rfl (fun h => ?_) (fun h => ?_)))
  all_goals (refine awp_ret ⟨_, ResL.cons (ResA.agg rfl rfl rfl rfl rfl rfl rfl (RL.cons (.val _) (RL.cons (.val _) (RL.cons (.val _) (RL.cons (.val _) (RL.cons (.val _) (RL.nil _))))))) .nil, ?_⟩; show AV.agg _ = AV.agg _; simp [olderE, encEv, *])

def bestUp (l : List E) : Nat → Nat
  | 0 => 0
  | k + 1 => if aheadE (l[k]?.getD (0, 0, 0, 0, 0)) (l[bestUp l k]?.getD (0, 0, 0, 0, 0)) then k else bestUp l k
theorem bestUp_lt (l : List E) : ∀ k, k ≤ l.length → 0 < l.length → bestUp l k < l.length
  | 0, _, h => h
  | k + 1, hk, h => by
    rw [bestUp]
    split
    · omega
    · exact bestUp_lt l k (by omega) h

theorem best_c (l : List E) (hl : l.length ≤ 9223372036854775807) : FnC Try.prog 22 [.sl 5 false (l.map encEv), .val (.func (.func 23) #[] #[])] (.val (.int .i64 (bestUp l l.length))) := by
  refine FnC.of_awp (T := tt) (ok := tok) Try.func22 (by kernel_rfl) rfl (by kernel_rfl) (closedL_cons (closed_map closed_ev) (closedL_cons (.val _) closedL_nil)) (fun w0 st0 => ?_)
  dsimp only [frOf]
  (repeat' (first | refine awp_seq ?_ | refine awp_block ?_ | refine awp_region (fun _ => hmix) ?_ | refine ARun.op rfl (by first | exact True.intro | exact rfl | (unfold inR; omega)) ?_ | (refine ARun.fin (by first | (intro h; cases h; done) | (intro _; kernel_rfl)) ?_; dsimp only [thenA, blockA, AS.bump, List.length_cons, List.length_nil, reduceIte, Nat.reduceEqDiff]) | (refine awp_skip ?_; dsimp only [thenA, blockA, AS.bump, List.length_cons, List.length_nil, reduceIte, Nat.reduceEqDiff]) | (refine awp_exit ?_; dsimp only [thenA, blockA, AS.bump, List.length_cons, List.length_nil, reduceIte, Nat.reduceEqDiff]) | refine awp_condT rfl (by first | rfl | assumption) ?_ | refine awp_condF rfl (by first | rfl | assumption) ?_ | ((fail_if_success refine ARun.plain rfl ?_); first | refine ARun.knowT rfl rfl rfl (by first | rfl | assumption) ?_ | refine ARun.knowF rfl rfl rfl (by first | rfl | assumption) ?_ | refine ARun.fork rfl rfl rfl (fun h => ?_) (fun h => ?_)) | refine awp_cond rfl (fun h => ?_) (fun h => ?_)))
  refine awp_loopT (T := Nat × Nat) (fun t => ⟨[(0, .sl 5 false (l.map encEv)), (1, .val (.func (.func 23) #[] #[])), (5, .val (.int .i64 (bestUp l t.1))), (8, .val (.int .i64 (l.map encEv).length)), (9, .val (.int .i64 (t.1 : Nat)))], [], t.2⟩)
    (fun t => t.1 ≤ l.length) (fun t => l.length - t.1) (0, _) (Nat.zero_le _) ⟨⟨rfl, rfl, rfl, rfl, rfl, trivial⟩, trivial, Nat.le_refl _⟩ (fun t ht => ?_)
  obtain ⟨k, g⟩ := t
  dsimp only at ht ⊢
  by_cases hlt : k < l.length
  · have h1 : l[k]? = some l[k] := List.getElem?_eq_getElem hlt
    have hb := bestUp_lt l k ht (by omega)
    have h2 : l[bestUp l k]? = some (l[bestUp l k]) := List.getElem?_eq_getElem hb
    have hs : bestUp l (k + 1) = if aheadE l[k] l[bestUp l k] then k else bestUp l k := by
      rw [bestUp, h1, h2]
      rfl
    have hc : decide (((k : Nat) : Int) < (((l.map encEv).length : Nat) : Int)) = true := by rw [List.length_map]; simp; omega
    (repeat' (first | refine awp_seq ?_ | refine awp_block ?_ | refine awp_region (fun _ => hmix) ?_ | refine ARun.op rfl (by first | exact True.intro | exact rfl | (unfold inR; omega)) ?_ | refine ARun.indexAddr rfl rfl (by omega) (by first | with_reducible exact get_map h1 | with_reducible exact get_map h2) rfl rfl rfl rfl rfl (guardF_spec rfl) ?_ | refine callX (ahead_c _ _) rfl rfl rfl rfl ?_ | (refine ARun.fin (by first | (intro h; cases h; done) | (intro _; kernel_rfl)) ?_; dsimp only [thenA, blockA, AS.bump, List.length_cons, List.length_nil, reduceIte, Nat.reduceEqDiff]) | (refine awp_skip ?_; dsimp only [thenA, blockA, AS.bump, List.length_cons, List.length_nil, reduceIte, Nat.reduceEqDiff]) | (refine awp_exit ?_; dsimp only [thenA, blockA, AS.bump, List.length_cons, List.length_nil, reduceIte, Nat.reduceEqDiff]) | refine awp_condT rfl (by first | rfl | assumption) ?_ | refine awp_condF rfl (by first | rfl | assumption) ?_ | ((fail_if_success refine ARun.plain rfl ?_); first | refine ARun.knowT rfl rfl rfl (by first | rfl | assumption) ?_ | refine ARun.knowF rfl rfl rfl (by first | rfl | assumption) ?_ | refine ARun.fork rfl rfl rfl (fun h => ?_) (fun h => ?_)) | refine awp_cond rfl (fun h => ?_) (fun h => ?_)))
    · refine ⟨(k + 1, _), ⟨⟨rfl, rfl, ?_, rfl, succI k, trivial⟩, trivial, Nat.le_refl _⟩, hlt, by dsimp only; omega⟩
      rw [hs, h]; rfl
    · refine ⟨(k + 1, _), ⟨⟨rfl, rfl, ?_, rfl, succI k, trivial⟩, trivial, Nat.le_refl _⟩, hlt, by dsimp only; omega⟩
      rw [hs, h]; rfl
  · have hc : decide (((k : Nat) : Int) < (((l.map encEv).length : Nat) : Int)) = false := by rw [List.length_map]; simp; omega
    (repeat' (first | refine awp_seq ?_ | refine awp_block ?_ | refine awp_region (fun _ => hmix) ?_ | refine ARun.op rfl (by first | exact True.intro | exact rfl | (unfold inR; omega)) ?_ | (refine ARun.fin (by first | (intro h; cases h; done) | (intro _; kernel_rfl)) ?_; dsimp only [thenA, blockA, AS.bump, List.length_cons, List.length_nil, reduceIte, Nat.reduceEqDiff]) | (refine awp_skip ?_; dsimp only [thenA, blockA, AS.bump, List.length_cons, List.length_nil, reduceIte, Nat.reduceEqDiff]) | (refine awp_exit ?_; dsimp only [thenA, blockA, AS.bump, List.length_cons, List.length_nil, reduceIte, Nat.reduceEqDiff]) | refine awp_condT rfl (by first | rfl | assumption) ?_ | refine awp_condF rfl (by first | rfl | assumption) ?_ | ((fail_if_success refine ARun.plain rfl ?_); first | refine ARun.knowT rfl rfl rfl (by first | rfl | assumption) ?_ | refine ARun.knowF rfl rfl rfl (by first | rfl | assumption) ?_ | refine ARun.fork rfl rfl rfl (fun h => ?_) (fun h => ?_)) | refine awp_cond rfl (fun h => ?_) (fun h => ?_)))
    refine awp_ret ⟨_, ResL.cons (ResA.tmp (.val _)) .nil, ?_⟩
    have hk' : k = l.length := by omega
    rw [hk']
    rfl
end Go.Proofs.Ytpolenndeeaodab
