/- evq: which queues are right, of the document's answer. -/
import Derived.Test.YtpolenndeeaodabQ8
namespace Go.Proofs.Ytpolenndeeaodab
set_option linter.unusedVariables false
set_option linter.unusedSimpArgs false
open Go Go.RowKit
set_option maxRecDepth 100000
attribute [local irreducible] Decidable.decide awp ARun regK toK

theorem AllGood.lo {l : List E} {w : Int} {n : Nat} (h : AllGood l w n) (hn : n ≤ l.length) : -1 ≤ lastUp l n := by
  induction n with
  | zero => exact Int.le_refl _
  | succ n ih =>
    have he : l[n]? = some l[n] := List.getElem?_eq_getElem (by omega)
    have h1 := h n _ (by omega) he
    have h2 := ih (fun j e hj => h j e (by omega)) (by omega)
    rw [lastUp_succ he]
    have := h1.1
    omega
theorem AllGood.hi {l : List E} {w : Int} {n k : Nat} (h : AllGood l w n) (hn : n ≤ l.length) {e : E} (hk : k < n) (he : l[k]? = some e) : e.1 ≤ lastUp l n := by
  induction n with
  | zero => omega
  | succ n ih =>
    have hen : l[n]? = some l[n] := List.getElem?_eq_getElem (by omega)
    rw [lastUp_succ hen]
    by_cases hkn : k = n
    · subst hkn; rw [he] at hen; rw [← Option.some.inj hen]; exact Int.le_refl _
    · have h1 := h n _ (by omega) hen
      have h2 := ih (fun j e hj => h j e (by omega)) (by omega) (by omega)
      have := h1.1
      omega

set_option maxHeartbeats 4000000 in
theorem ref_right_c (q : Q) (hl : q.ev.length ≤ 9223372036854775807) : FnC Try.prog 11 [.agg (encQ q)] (.val (.bool (rightQ q))) := by
  refine FnC.of_awp (T := tt) (ok := tok) Try.func11 (by kernel_rfl) rfl (by kernel_rfl) (closedL_cons (closed_q q) closedL_nil) (fun w0 st0 => ?_)
  dsimp only [frOf]
  (repeat' (first | refine awp_seq ?_ | refine awp_block ?_ | refine awp_region (fun _ => hmix) ?_ | refine ARun.op rfl (by first | exact True.intro | exact rfl | (unfold inR; omega)) ?_ | (refine ARun.fin (by first | (intro h; cases h; done) | (intro _; kernel_rfl)) ?_; dsimp only [thenA, blockA, AS.bump, List.length_cons, List.length_nil, reduceIte, Nat.reduceEqDiff]) | (refine awp_skip ?_; dsimp only [thenA, blockA, AS.bump, List.length_cons, List.length_nil, reduceIte, Nat.reduceEqDiff]) | (refine awp_exit ?_; dsimp only [thenA, blockA, AS.bump, List.length_cons, List.length_nil, reduceIte, Nat.reduceEqDiff]) | refine awp_condT rfl (by first | rfl | assumption) ?_ | refine awp_condF rfl (by first | rfl | assumption) ?_ | ((fail_if_success refine ARun.plain rfl ?_); first | refine ARun.knowT rfl rfl rfl (by first | rfl | assumption) ?_ | refine ARun.knowF rfl rfl rfl (by first | rfl | assumption) ?_ | refine ARun.fork rfl rfl rfl (fun h => ?_) (fun h => ?_)) | refine awp_cond rfl (fun h => ?_) (fun h => ?_)))
  all_goals first | (refine awp_ret ⟨_, ResL.cons (ResA.tmp (.val _)) .nil, ?_⟩; show AV.val (.bool _) = AV.val (.bool _); congr 2; refine rightQ_no (fun hR => ?_); unfold RightP at hR; obtain ⟨_, _, _, _, _, _⟩ := hR; (simp only [decide_eq_true_eq, decide_eq_false_iff_not, beq_iff_eq, bne_iff_ne, bne_eq_false_iff_eq, beq_eq_false_iff_ne, Bool.not_eq_true', Bool.not_eq_false', Bool.and_eq_true, Bool.and_eq_false_iff, Bool.or_eq_true, ne_eq, List.length_map] at *); omega) | skip
  have hcond : (1 ≤ q.room ∧ q.room ≤ 64) ∧ (1 ≤ q.age ∧ q.age ≤ 1048576) ∧ (0 ≤ q.next ∧ q.next ≤ 4611686018427387904) ∧ (q.ev.length : Int) ≤ q.room := by (simp only [decide_eq_true_eq, decide_eq_false_iff_not, beq_iff_eq, bne_iff_ne, bne_eq_false_iff_eq, beq_eq_false_iff_ne, Bool.not_eq_true', Bool.not_eq_false', Bool.and_eq_true, Bool.and_eq_false_iff, Bool.or_eq_true, ne_eq, List.length_map] at *); omega
  rename_i k0 k1 k2 k3 k4 k5
  clear k0 k1 k2 k3 k4 k5 h
  refine awp_loopT (T := Nat × Nat) (fun t => ⟨[(1, .ptr 1 0 0 0), (2, .val (.bool false)), (3, .val (.int .i64 (t.1 : Nat)))], [(1, some ⟨0, 4, [encQ q]⟩)], t.2⟩)
    (fun t => t.1 ≤ q.ev.length ∧ AllGood q.ev (q.age - 1) t.1 ∧ lastUp q.ev t.1 < q.next) (fun t => q.ev.length - t.1) (0, _) ⟨Nat.zero_le _, AllGood.zero _ _, by show -1 < q.next; omega⟩ ⟨⟨rfl, rfl, rfl, trivial⟩, ⟨rfl, trivial⟩, Nat.le_refl _⟩ (fun t ht => ?_)
  obtain ⟨k, gc⟩ := t
  obtain ⟨hk, hA, hln⟩ := ht
  dsimp only at hk hA hln ⊢
  by_cases hlt : k < q.ev.length
  · have h1 : q.ev[k]? = some q.ev[k] := List.getElem?_eq_getElem hlt
    generalize hx : q.ev[k] = x at *
    obtain ⟨xi, xr, xh, xa, xg⟩ := x
    have hls := lastUp_succ h1
    have hlo := hA.lo hk
    have no : (lastUp q.ev k ≥ -1 → (xi, xr, xh, xa, xg).1 < q.next → GoodE (lastUp q.ev k) (q.age - 1) (xi, xr, xh, xa, xg) → False) → rightQ q = false := fun hP => rightQ_no (fun hR => hP hlo (by
      have h5 := hR.2.2.2.2.2.hi (Nat.le_refl _) hlt h1
      have := hR.2.2.2.2.1
      omega) (hR.2.2.2.2.2 k _ hlt h1))
    have hc : decide (((k : Nat) : Int) < (((q.ev.map encEv).length : Nat) : Int)) = true := by rw [List.length_map]; simp; omega
    clear hx
    cases k with
    | zero =>
      have hz : decide ((0 : Int) < ((0 : Nat) : Int)) = false := by simp
      have hl0 : lastUp q.ev 0 = -1 := rfl
      (repeat' (first | refine awp_seq ?_ | refine awp_block ?_ | refine awp_region (fun _ => hmix) ?_ | refine ARun.op rfl (by first | exact True.intro | exact rfl | (unfold inR; omega)) ?_ | refine ARun.indexAddr rfl rfl (by omega) (by first | with_reducible exact get_map h1 | with_reducible exact get_map h1) rfl rfl rfl rfl rfl (guardF_spec rfl) ?_ | (refine ARun.fin (by first | (intro h; cases h; done) | (intro _; kernel_rfl)) ?_; dsimp only [thenA, blockA, AS.bump, List.length_cons, List.length_nil, reduceIte, Nat.reduceEqDiff]) | (refine awp_skip ?_; dsimp only [thenA, blockA, AS.bump, List.length_cons, List.length_nil, reduceIte, Nat.reduceEqDiff]) | (refine awp_exit ?_; dsimp only [thenA, blockA, AS.bump, List.length_cons, List.length_nil, reduceIte, Nat.reduceEqDiff]) | refine awp_condT rfl (by first | rfl | assumption) ?_ | refine awp_condF rfl (by first | rfl | assumption) ?_ | ((fail_if_success refine ARun.plain rfl ?_); first | refine ARun.knowT rfl rfl rfl (by first | rfl | assumption) ?_ | refine ARun.knowF rfl rfl rfl (by first | rfl | assumption) ?_ | refine ARun.fork rfl rfl rfl (fun h => ?_) (fun h => ?_)) | refine awp_cond rfl (fun h => ?_) (fun h => ?_)))
      all_goals (clear hc hz; first | (have e := no (fun hm hn hg => by simp only [GoodE] at hg; dsimp only at hn; (simp only [decide_eq_true_eq, decide_eq_false_iff_not, beq_iff_eq, bne_iff_ne, bne_eq_false_iff_eq, beq_eq_false_iff_ne, Bool.not_eq_true', Bool.not_eq_false', Bool.and_eq_true, Bool.and_eq_false_iff, Bool.or_eq_true, ne_eq, List.length_map] at *); omega); rw [e]; refine awp_ret ⟨_, ResL.cons (ResA.tmp (.val _)) .nil, rfl⟩) | (exact ⟨(_, _), ⟨⟨rfl, rfl, succI _, trivial⟩, ⟨rfl, trivial⟩, Nat.le_refl _⟩, ⟨hlt, hA.succ h1 (by simp only [GoodE]; (simp only [decide_eq_true_eq, decide_eq_false_iff_not, beq_iff_eq, bne_iff_ne, bne_eq_false_iff_eq, beq_eq_false_iff_ne, Bool.not_eq_true', Bool.not_eq_false', Bool.and_eq_true, Bool.and_eq_false_iff, Bool.or_eq_true, ne_eq, List.length_map] at *); omega), (by have hn := ‹decide (q.next ≤ xi) = false›; simp only [decide_eq_false_iff_not] at hn; dsimp only; rw [hls]; dsimp only; omega)⟩, by dsimp only; omega⟩))
    | succ k =>
      have hz : decide ((0 : Int) < ((k + 1 : Nat) : Int)) = true := by simp
      have hp : q.ev[k]? = some q.ev[k] := List.getElem?_eq_getElem (by omega)
      generalize hpe : q.ev[k] = p at *
      clear hpe
      obtain ⟨pi, pr, ph, pa, pg⟩ := p
      have hl0 : lastUp q.ev (k + 1) = pi := lastUp_succ hp
      have hpm : (q.ev.map encEv)[(((k + 1 : Nat) : Int) - 1).toNat]? = some (encEv (pi, pr, ph, pa, pg)) := by
        rw [show ((((k + 1 : Nat) : Int) - 1).toNat) = k by omega, List.getElem?_map, hp]; rfl
      (repeat' (first | refine awp_seq ?_ | refine awp_block ?_ | refine awp_region (fun _ => hmix) ?_ | refine ARun.op rfl (by first | exact True.intro | exact rfl | (unfold inR; omega)) ?_ | refine ARun.indexAddr rfl rfl (by omega) (by first | with_reducible exact get_map h1 | with_reducible exact get_map h1) rfl rfl rfl rfl rfl (guardF_spec rfl) ?_ | refine ARun.indexAddr rfl rfl (by omega) hpm rfl rfl rfl rfl rfl (guardF_spec rfl) ?_ | (refine ARun.fin (by first | (intro h; cases h; done) | (intro _; kernel_rfl)) ?_; dsimp only [thenA, blockA, AS.bump, List.length_cons, List.length_nil, reduceIte, Nat.reduceEqDiff]) | (refine awp_skip ?_; dsimp only [thenA, blockA, AS.bump, List.length_cons, List.length_nil, reduceIte, Nat.reduceEqDiff]) | (refine awp_exit ?_; dsimp only [thenA, blockA, AS.bump, List.length_cons, List.length_nil, reduceIte, Nat.reduceEqDiff]) | refine awp_condT rfl (by first | rfl | assumption) ?_ | refine awp_condF rfl (by first | rfl | assumption) ?_ | ((fail_if_success refine ARun.plain rfl ?_); first | refine ARun.knowT rfl rfl rfl (by first | rfl | assumption) ?_ | refine ARun.knowF rfl rfl rfl (by first | rfl | assumption) ?_ | refine ARun.fork rfl rfl rfl (fun h => ?_) (fun h => ?_)) | refine awp_cond rfl (fun h => ?_) (fun h => ?_)))
      all_goals (clear hc hz hpm; first | (have e := no (fun hm hn hg => by simp only [GoodE] at hg; dsimp only at hn; (simp only [decide_eq_true_eq, decide_eq_false_iff_not, beq_iff_eq, bne_iff_ne, bne_eq_false_iff_eq, beq_eq_false_iff_ne, Bool.not_eq_true', Bool.not_eq_false', Bool.and_eq_true, Bool.and_eq_false_iff, Bool.or_eq_true, ne_eq, List.length_map] at *); omega); rw [e]; refine awp_ret ⟨_, ResL.cons (ResA.tmp (.val _)) .nil, rfl⟩) | (exact ⟨(_, _), ⟨⟨rfl, rfl, succI _, trivial⟩, ⟨rfl, trivial⟩, Nat.le_refl _⟩, ⟨hlt, hA.succ h1 (by simp only [GoodE]; (simp only [decide_eq_true_eq, decide_eq_false_iff_not, beq_iff_eq, bne_iff_ne, bne_eq_false_iff_eq, beq_eq_false_iff_ne, Bool.not_eq_true', Bool.not_eq_false', Bool.and_eq_true, Bool.and_eq_false_iff, Bool.or_eq_true, ne_eq, List.length_map] at *); omega), (by have hn := ‹decide (q.next ≤ xi) = false›; simp only [decide_eq_false_iff_not] at hn; dsimp only; rw [hls]; dsimp only; omega)⟩, by dsimp only; omega⟩))
  · have hk : k = q.ev.length := by omega
    subst hk
    have hc : decide (((q.ev.length : Nat) : Int) < (((q.ev.map encEv).length : Nat) : Int)) = false := by rw [List.length_map]; simp
    (repeat' (first | refine awp_seq ?_ | refine awp_block ?_ | refine awp_region (fun _ => hmix) ?_ | refine ARun.op rfl (by first | exact True.intro | exact rfl | (unfold inR; omega)) ?_ | (refine ARun.fin (by first | (intro h; cases h; done) | (intro _; kernel_rfl)) ?_; dsimp only [thenA, blockA, AS.bump, List.length_cons, List.length_nil, reduceIte, Nat.reduceEqDiff]) | (refine awp_skip ?_; dsimp only [thenA, blockA, AS.bump, List.length_cons, List.length_nil, reduceIte, Nat.reduceEqDiff]) | (refine awp_exit ?_; dsimp only [thenA, blockA, AS.bump, List.length_cons, List.length_nil, reduceIte, Nat.reduceEqDiff]) | refine awp_condT rfl (by first | rfl | assumption) ?_ | refine awp_condF rfl (by first | rfl | assumption) ?_ | ((fail_if_success refine ARun.plain rfl ?_); first | refine ARun.knowT rfl rfl rfl (by first | rfl | assumption) ?_ | refine ARun.knowF rfl rfl rfl (by first | rfl | assumption) ?_ | refine ARun.fork rfl rfl rfl (fun h => ?_) (fun h => ?_)) | refine awp_cond rfl (fun h => ?_) (fun h => ?_)))
    refine awp_ret ⟨_, ResL.cons (ResA.tmp (.val _)) .nil, ?_⟩
    rw [rightQ_yes ⟨hcond.1, hcond.2.1, hcond.2.2.1, hcond.2.2.2, hln, hA⟩]
    rfl
end Go.Proofs.Ytpolenndeeaodab
