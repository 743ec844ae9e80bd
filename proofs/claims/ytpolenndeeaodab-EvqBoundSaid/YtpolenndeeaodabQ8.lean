/- evq: which queues are right: of the program, and of the document's answer. -/
import Derived.Test.YtpolenndeeaodabQ7
namespace Go.Proofs.Ytpolenndeeaodab
set_option linter.unusedVariables false
set_option linter.unusedSimpArgs false
open Go Go.RowKit
set_option maxRecDepth 100000
attribute [local irreducible] Decidable.decide awp ARun regK toK

def lastUp (l : List E) : Nat → Int
  | 0 => -1
  | k + 1 => (l[k]?.getD (0, 0, 0, 0, 0)).1
/-- What an event must be, where the one ahead of it has the number b and the last age is w. -/
def GoodE (b w : Int) (e : E) : Prop := b < e.1 ∧ (0 ≤ e.2.1 ∧ e.2.1 ≤ 3) ∧ (0 ≤ e.2.2.2.2 ∧ e.2.2.2.2 ≤ w) ∧ ¬(e.2.1 = 0 ∧ 0 < e.2.2.2.2)
def AllGood (l : List E) (w : Int) (n : Nat) : Prop := ∀ (j : Nat) (e : E), j < n → l[j]? = some e → GoodE (lastUp l j) w e
def RightP (q : Q) : Prop := (1 ≤ q.room ∧ q.room ≤ 64) ∧ (1 ≤ q.age ∧ q.age ≤ 1048576) ∧ (0 ≤ q.next ∧ q.next ≤ 4611686018427387904) ∧ (q.ev.length : Int) ≤ q.room ∧ lastUp q.ev q.ev.length < q.next ∧ AllGood q.ev (q.age - 1) q.ev.length
open Classical in
noncomputable def rightQ (q : Q) : Bool := if RightP q then true else false
theorem rightQ_yes {q : Q} (h : RightP q) : rightQ q = true := by unfold rightQ; exact if_pos h
theorem rightQ_no {q : Q} (h : ¬ RightP q) : rightQ q = false := by unfold rightQ; exact if_neg h
theorem rightQ_iff {q : Q} : rightQ q = true ↔ RightP q := by
  by_cases h : RightP q
  · simp [rightQ_yes h, h]
  · simp [rightQ_no h, h]
theorem AllGood.zero (l : List E) (w : Int) : AllGood l w 0 := fun j e hj => absurd hj (by omega)
theorem AllGood.succ {l : List E} {w : Int} {k : Nat} {e : E} (h : AllGood l w k) (he : l[k]? = some e) (hg : GoodE (lastUp l k) w e) : AllGood l w (k + 1) := fun j e' hj hje => by
  by_cases hjk : j = k
  · subst hjk; rw [he] at hje; rw [← Option.some.inj hje]; exact hg
  · exact h j e' (by omega) hje
theorem lastUp_succ {l : List E} {k : Nat} {e : E} (he : l[k]? = some e) : lastUp l (k + 1) = e.1 := by rw [lastUp, he]; rfl

theorem right_c (q : Q) (hl : q.ev.length ≤ 1000000) : FnC Try.prog 13 [.agg (encQ q)] (.val (.bool (rightQ q))) := by
  refine FnC.of_awp (T := tt) (ok := tok) Try.func13 (by kernel_rfl) rfl (by kernel_rfl) (closedL_cons (closed_q q) closedL_nil) (fun w0 st0 => ?_)
  dsimp only [frOf]
  (repeat' (first | refine awp_seq ?_ | refine awp_block ?_ | refine awp_region (fun _ => hmix) ?_ | refine ARun.op rfl (by first | exact True.intro | exact rfl | (unfold inR; omega)) ?_ | (refine ARun.fin (by first | (intro h; cases h; done) | (intro _; kernel_rfl)) ?_; dsimp only [thenA, blockA, AS.bump, List.length_cons, List.length_nil, reduceIte, Nat.reduceEqDiff]) | (refine awp_skip ?_; dsimp only [thenA, blockA, AS.bump, List.length_cons, List.length_nil, reduceIte, Nat.reduceEqDiff]) | (refine awp_exit ?_; dsimp only [thenA, blockA, AS.bump, List.length_cons, List.length_nil, reduceIte, Nat.reduceEqDiff]) | refine awp_condT rfl (by first | rfl | assumption) ?_ | refine awp_condF rfl (by first | rfl | assumption) ?_ | ((fail_if_success refine ARun.plain rfl ?_); first | refine ARun.knowT rfl rfl rfl (by first | rfl | assumption) ?_ | refine ARun.knowF rfl rfl rfl (by first | rfl | assumption) ?_ | refine ARun.fork rfl rfl rfl (fun h => ?_) (fun h => ?_)) | refine awp_cond rfl (fun h => ?_) (fun h => ?_)))
  have hw : 1 ≤ q.age ∧ q.age ≤ 1048576 → IntKind.i64.wrap (q.age - 1) = q.age - 1 := fun h => IntWalk.i64_in _ (by omega)
  generalize hwe : IntKind.i64.wrap (q.age - 1) = w at hw
  refine awp_loopT (T := Nat × Nat) (fun t => ⟨[(1, .ptr 1 0 0 0), (2, .val (.bool false)), (3, .val (.int .i64 (lastUp q.ev t.1))), (7, .sl 5 false (q.ev.map encEv)), (8, .val (.int .i64 (q.ev.map encEv).length)), (9, .val (.int .i64 (t.1 : Nat)))], [(1, some ⟨0, 4, [encQ q]⟩)], t.2⟩)
    (fun t => t.1 ≤ q.ev.length ∧ AllGood q.ev w t.1) (fun t => q.ev.length - t.1) (0, _) ⟨Nat.zero_le _, AllGood.zero _ _⟩ ⟨⟨rfl, rfl, rfl, rfl, rfl, rfl, trivial⟩, ⟨rfl, trivial⟩, Nat.le_refl _⟩ (fun t ht => ?_)
  obtain ⟨k, gc⟩ := t
  obtain ⟨hk, hA⟩ := ht
  dsimp only at hk hA ⊢
  by_cases hlt : k < q.ev.length
  · have h1 : q.ev[k]? = some q.ev[k] := List.getElem?_eq_getElem hlt
    have hc : decide (((k : Nat) : Int) < (((q.ev.map encEv).length : Nat) : Int)) = true := by rw [List.length_map]; simp; omega
    generalize hx : q.ev[k] = x at *
    obtain ⟨xi, xr, xh, xa, xg⟩ := x
    have hb : BinR Try.prog .sub 3 (.int .i64 q.age) (.int .i64 1) (.int .i64 w) := by rw [← hwe]; exact bin_sub
    have hls := lastUp_succ h1
    have no : ¬ GoodE (lastUp q.ev k) w (xi, xr, xh, xa, xg) → rightQ q = false := fun hP => rightQ_no (fun hR => hP (by
      have := hR.2.2.2.2.2 k _ hlt h1
      rw [hw hR.2.1]; exact this))
    clear hc
    have hc : decide (((k : Nat) : Int) < (((q.ev.map encEv).length : Nat) : Int)) = true := by rw [List.length_map]; simp; omega
    (repeat' (first | refine awp_seq ?_ | refine awp_block ?_ | refine awp_region (fun _ => hmix) ?_ | refine ARun.op rfl (by first | exact True.intro | exact rfl | (unfold inR; omega)) ?_ | refine ARun.indexAddr rfl rfl (by omega) (by first | with_reducible exact get_map h1 | with_reducible exact get_map h1) rfl rfl rfl rfl rfl (guardF_spec rfl) ?_ | refine callX (within_c _ _ _) rfl rfl rfl rfl ?_ | refine ARun.bin rfl rfl hb rfl (guardF_spec rfl) ?_ | (refine ARun.fin (by first | (intro h; cases h; done) | (intro _; kernel_rfl)) ?_; dsimp only [thenA, blockA, AS.bump, List.length_cons, List.length_nil, reduceIte, Nat.reduceEqDiff]) | (refine awp_skip ?_; dsimp only [thenA, blockA, AS.bump, List.length_cons, List.length_nil, reduceIte, Nat.reduceEqDiff]) | (refine awp_exit ?_; dsimp only [thenA, blockA, AS.bump, List.length_cons, List.length_nil, reduceIte, Nat.reduceEqDiff]) | refine awp_condT rfl (by first | rfl | assumption) ?_ | refine awp_condF rfl (by first | rfl | assumption) ?_ | ((fail_if_success refine ARun.plain rfl ?_); first | refine ARun.knowT rfl rfl rfl (by first | rfl | assumption) ?_ | refine ARun.knowF rfl rfl rfl (by first | rfl | assumption) ?_ | refine ARun.fork rfl rfl rfl (fun h => ?_) (fun h => ?_)) | refine awp_cond rfl (fun h => ?_) (fun h => ?_)))
    · (have e := no (fun hg => by simp only [GoodE] at hg; (simp only [decide_eq_true_eq, decide_eq_false_iff_not, beq_iff_eq, beq_eq_false_iff_ne, Bool.not_eq_true', Bool.not_eq_false', Bool.and_eq_true, Bool.and_eq_false_iff, Bool.or_eq_true, ne_eq, List.length_map] at *); omega); rw [e]; refine awp_ret ⟨_, ResL.cons (ResA.tmp (.val _)) .nil, rfl⟩)
    · (have e := no (fun hg => by simp only [GoodE] at hg; (simp only [decide_eq_true_eq, decide_eq_false_iff_not, beq_iff_eq, beq_eq_false_iff_ne, Bool.not_eq_true', Bool.not_eq_false', Bool.and_eq_true, Bool.and_eq_false_iff, Bool.or_eq_true, ne_eq, List.length_map] at *); omega); rw [e]; refine awp_ret ⟨_, ResL.cons (ResA.tmp (.val _)) .nil, rfl⟩)
    · (have e := no (fun hg => by simp only [GoodE] at hg; (simp only [decide_eq_true_eq, decide_eq_false_iff_not, beq_iff_eq, beq_eq_false_iff_ne, Bool.not_eq_true', Bool.not_eq_false', Bool.and_eq_true, Bool.and_eq_false_iff, Bool.or_eq_true, ne_eq, List.length_map] at *); omega); rw [e]; refine awp_ret ⟨_, ResL.cons (ResA.tmp (.val _)) .nil, rfl⟩)
    · (have e := no (fun hg => by simp only [GoodE] at hg; (simp only [decide_eq_true_eq, decide_eq_false_iff_not, beq_iff_eq, beq_eq_false_iff_ne, Bool.not_eq_true', Bool.not_eq_false', Bool.and_eq_true, Bool.and_eq_false_iff, Bool.or_eq_true, ne_eq, List.length_map] at *); omega); rw [e]; refine awp_ret ⟨_, ResL.cons (ResA.tmp (.val _)) .nil, rfl⟩)
    · (have hg : GoodE (lastUp q.ev k) w (xi, xr, xh, xa, xg) := (by simp only [GoodE]; (simp only [decide_eq_true_eq, decide_eq_false_iff_not, beq_iff_eq, beq_eq_false_iff_ne, Bool.not_eq_true', Bool.not_eq_false', Bool.and_eq_true, Bool.and_eq_false_iff, Bool.or_eq_true, ne_eq, List.length_map] at *); omega); exact ⟨(k + 1, _), ⟨⟨rfl, rfl, by dsimp only; rw [hls]; rfl, rfl, rfl, succI k, trivial⟩, ⟨rfl, trivial⟩, Nat.le_refl _⟩, ⟨hlt, hA.succ h1 hg⟩, by dsimp only; omega⟩)
    · (have hg : GoodE (lastUp q.ev k) w (xi, xr, xh, xa, xg) := (by simp only [GoodE]; (simp only [decide_eq_true_eq, decide_eq_false_iff_not, beq_iff_eq, beq_eq_false_iff_ne, Bool.not_eq_true', Bool.not_eq_false', Bool.and_eq_true, Bool.and_eq_false_iff, Bool.or_eq_true, ne_eq, List.length_map] at *); omega); exact ⟨(k + 1, _), ⟨⟨rfl, rfl, by dsimp only; rw [hls]; rfl, rfl, rfl, succI k, trivial⟩, ⟨rfl, trivial⟩, Nat.le_refl _⟩, ⟨hlt, hA.succ h1 hg⟩, by dsimp only; omega⟩)
  · have hk : k = q.ev.length := by omega
    subst hk
    have hc : decide (((q.ev.length : Nat) : Int) < (((q.ev.map encEv).length : Nat) : Int)) = false := by rw [List.length_map]; simp
    (repeat' (first | refine awp_seq ?_ | refine awp_block ?_ | refine awp_region (fun _ => hmix) ?_ | refine ARun.op rfl (by first | exact True.intro | exact rfl | (unfold inR; omega)) ?_ | refine callX (within_c _ _ _) rfl rfl rfl rfl ?_ | (refine ARun.fin (by first | (intro h; cases h; done) | (intro _; kernel_rfl)) ?_; dsimp only [thenA, blockA, AS.bump, List.length_cons, List.length_nil, reduceIte, Nat.reduceEqDiff]) | (refine awp_skip ?_; dsimp only [thenA, blockA, AS.bump, List.length_cons, List.length_nil, reduceIte, Nat.reduceEqDiff]) | (refine awp_exit ?_; dsimp only [thenA, blockA, AS.bump, List.length_cons, List.length_nil, reduceIte, Nat.reduceEqDiff]) | refine awp_condT rfl (by first | rfl | assumption) ?_ | refine awp_condF rfl (by first | rfl | assumption) ?_ | ((fail_if_success refine ARun.plain rfl ?_); first | refine ARun.knowT rfl rfl rfl (by first | rfl | assumption) ?_ | refine ARun.knowF rfl rfl rfl (by first | rfl | assumption) ?_ | refine ARun.fork rfl rfl rfl (fun h => ?_) (fun h => ?_)) | refine awp_cond rfl (fun h => ?_) (fun h => ?_)))
    all_goals (refine awp_ret ⟨_, ResL.cons (ResA.tmp (.val _)) .nil, ?_⟩; show AV.val (.bool _) = AV.val (.bool _); congr 2; clear hc)
    · refine (Bool.eq_iff_iff.2 ?_)
      rw [rightQ_iff]
      (simp only [decide_eq_true_eq, decide_eq_false_iff_not, beq_iff_eq, beq_eq_false_iff_ne, Bool.not_eq_true', Bool.not_eq_false', Bool.and_eq_true, Bool.and_eq_false_iff, Bool.or_eq_true, ne_eq, List.length_map] at *)
      unfold RightP
      constructor
      · intro h; exact h.2.2.2.2.1
      · intro h
        have hwq := hw (by omega)
        rw [hwq] at hA
        exact ⟨by omega, by omega, by omega, by omega, h, hA⟩
    all_goals (refine rightQ_no (fun hR => ?_); unfold RightP at hR; obtain ⟨_, _, _, _, _, _⟩ := hR; (simp only [decide_eq_true_eq, decide_eq_false_iff_not, beq_iff_eq, beq_eq_false_iff_ne, Bool.not_eq_true', Bool.not_eq_false', Bool.and_eq_true, Bool.and_eq_false_iff, Bool.or_eq_true, ne_eq, List.length_map] at *); omega)
end Go.Proofs.Ytpolenndeeaodab
