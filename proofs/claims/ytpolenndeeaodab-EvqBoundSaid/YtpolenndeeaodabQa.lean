/- evq: new queues and like ones, of the document's answer. -/
import Derived.Test.YtpolenndeeaodabQ9
import Derived.Test.YtpolenndeeaodabB7
namespace Go.Proofs.Ytpolenndeeaodab
set_option linter.unusedVariables false
set_option linter.unusedSimpArgs false
open Go Go.RowKit
set_option maxRecDepth 100000
attribute [local irreducible] Decidable.decide awp ARun regK toK

theorem ref_new_c (room age : Int) : FnC Try.prog 10 [.val (.int .i64 room), .val (.int .i64 age)] (.tup [.agg (encQ (newQ room age).1), .val (.int .i64 (newQ room age).2)]) := by
  refine FnC.of_awp (T := tt) (ok := tok) Try.func10 (by kernel_rfl) rfl (by kernel_rfl) (closedL_cons (.val _) (closedL_cons (.val _) closedL_nil)) (fun w0 st0 => ?_)
  dsimp only [frOf]
  (repeat' (first | refine awp_seq ?_ | refine awp_block ?_ | refine awp_region (fun _ => hmix) ?_ | refine ARun.op rfl (by first | exact True.intro | exact rfl | (unfold inR; omega)) ?_ | (refine ARun.fin (by first | (intro h; cases h; done) | (intro _; kernel_rfl)) ?_; dsimp only [thenA, blockA, AS.bump, List.length_cons, List.length_nil, reduceIte, Nat.reduceEqDiff]) | (refine awp_skip ?_; dsimp only [thenA, blockA, AS.bump, List.length_cons, List.length_nil, reduceIte, Nat.reduceEqDiff]) | (refine awp_exit ?_; dsimp only [thenA, blockA, AS.bump, List.length_cons, List.length_nil, reduceIte, Nat.reduceEqDiff]) | refine awp_condT rfl (by first | rfl | assumption) ?_ | refine awp_condF rfl (by first | rfl | assumption) ?_ | ((fail_if_success refine ARun.plain rfl ?_); first | refine ARun.knowT rfl rfl rfl (by first | rfl | assumption) ?_ | refine ARun.knowF rfl rfl rfl (by first | rfl | assumption) ?_ | refine ARun.fork rfl rfl rfl (fun h => ?_) (fun h => ?_)) | refine awp_cond rfl (fun h => ?_) (fun h => ?_)))
  all_goals refine awp_ret ⟨_, ResL.cons (ResA.agg rfl rfl rfl rfl rfl rfl rfl (RL.cons (.nilSl (sz' := 5)) (RL.cons (.val _) (RL.cons (.val _) (RL.cons (.val _) (RL.nil _)))))) (ResL.cons (ResA.tmp (.val _)) .nil), ?_⟩
  all_goals first | (rw [newQ_no (by unfold newOk; (simp only [decide_eq_true_eq, decide_eq_false_iff_not, beq_iff_eq, bne_iff_ne, bne_eq_false_iff_eq, beq_eq_false_iff_ne, Bool.not_eq_true', Bool.not_eq_false', Bool.and_eq_true, Bool.and_eq_false_iff, Bool.or_eq_true, ne_eq, List.length_map] at *); omega)]; rfl) | (rw [newQ_yes (by unfold newOk; (simp only [decide_eq_true_eq, decide_eq_false_iff_not, beq_iff_eq, bne_iff_ne, bne_eq_false_iff_eq, beq_eq_false_iff_ne, Bool.not_eq_true', Bool.not_eq_false', Bool.and_eq_true, Bool.and_eq_false_iff, Bool.or_eq_true, ne_eq, List.length_map] at *); omega)]; rfl)

theorem eqEvs_cons {l m : List E} {k : Nat} {a b : E} (h1 : l[k]? = some a) (h2 : m[k]? = some b) (hn : eqEv a b = false) (hp : eqEvs l m = eqEvs (l.drop k) (m.drop k)) : eqEvs l m = false := by
  rw [hp, eqEvs_drop h1 h2, hn, Bool.false_and]
theorem ref_same_c (a b : Q) (hl : a.ev.length ≤ 9223372036854775807) : FnC Try.prog 12 [.agg (encQ a), .agg (encQ b)] (.val (.bool (sameQ a b))) := by
  refine FnC.of_awp (T := tt) (ok := tok) Try.func12 (by kernel_rfl) rfl (by kernel_rfl) (closedL_cons (closed_q a) (closedL_cons (closed_q b) closedL_nil)) (fun w0 st0 => ?_)
  dsimp only [frOf]
  (repeat' (first | refine awp_seq ?_ | refine awp_block ?_ | refine awp_region (fun _ => hmix) ?_ | refine ARun.op rfl (by first | exact True.intro | exact rfl | (unfold inR; omega)) ?_ | (refine ARun.fin (by first | (intro h; cases h; done) | (intro _; kernel_rfl)) ?_; dsimp only [thenA, blockA, AS.bump, List.length_cons, List.length_nil, reduceIte, Nat.reduceEqDiff]) | (refine awp_skip ?_; dsimp only [thenA, blockA, AS.bump, List.length_cons, List.length_nil, reduceIte, Nat.reduceEqDiff]) | (refine awp_exit ?_; dsimp only [thenA, blockA, AS.bump, List.length_cons, List.length_nil, reduceIte, Nat.reduceEqDiff]) | refine awp_condT rfl (by first | rfl | assumption) ?_ | refine awp_condF rfl (by first | rfl | assumption) ?_ | ((fail_if_success refine ARun.plain rfl ?_); first | refine ARun.knowT rfl rfl rfl (by first | rfl | assumption) ?_ | refine ARun.knowF rfl rfl rfl (by first | rfl | assumption) ?_ | refine ARun.fork rfl rfl rfl (fun h => ?_) (fun h => ?_)) | refine awp_cond rfl (fun h => ?_) (fun h => ?_)))
  · have hne : eqEvs a.ev b.ev = false := eqEvs_len _ _ (fun e => by rw [List.length_map, List.length_map, e] at h; simp at h)
    refine awp_ret ⟨_, ResL.cons (ResA.tmp (.val _)) .nil, ?_⟩
    unfold sameQ; rw [hne]; rfl
  iterate 3
    · refine awp_ret ⟨_, ResL.cons (ResA.tmp (.val _)) .nil, ?_⟩
      have : sameQ a b = false := by unfold sameQ; (simp only [decide_eq_true_eq, decide_eq_false_iff_not, beq_iff_eq, bne_iff_ne, bne_eq_false_iff_eq, beq_eq_false_iff_ne, Bool.not_eq_true', Bool.not_eq_false', Bool.and_eq_true, Bool.and_eq_false_iff, Bool.or_eq_true, ne_eq, List.length_map] at *); simp [*]
      rw [this]; rfl
  rename_i k0 k1 k2
  rw [List.length_map, List.length_map] at k0
  have hlen : a.ev.length = b.ev.length := by have := bne_eq_false_iff_eq.1 k0; omega
  have hs : sameQ a b = eqEvs a.ev b.ev := by unfold sameQ; simp only [bne_eq_false_iff_eq] at k1 k2 h; simp [k1, k2, h]
  rw [hs]
  clear hs k0 k1 k2 h
  refine awp_loopT (T := Nat × Nat) (fun t => ⟨[(2, .ptr 2 0 0 0), (3, .ptr 3 1 0 0), (5, .val (.int .i64 (t.1 : Nat)))], [(2, some ⟨0, 4, [encQ a]⟩), (3, some ⟨1, 4, [encQ b]⟩)], t.2⟩)
    (fun t => t.1 ≤ a.ev.length ∧ eqEvs a.ev b.ev = eqEvs (a.ev.drop t.1) (b.ev.drop t.1)) (fun t => a.ev.length - t.1) (0, _) ⟨Nat.zero_le _, rfl⟩ ⟨⟨rfl, rfl, rfl, trivial⟩, ⟨rfl, rfl, trivial⟩, Nat.le_refl _⟩ (fun t ht => ?_)
  obtain ⟨k, g⟩ := t
  obtain ⟨hk, he⟩ := ht
  dsimp only at hk he ⊢
  by_cases hlt : k < a.ev.length
  · have h1 := List.getElem?_eq_getElem hlt
    have h2 : b.ev[k]? = some (b.ev[k]'(by omega)) := List.getElem?_eq_getElem _
    have hc : decide (((k : Nat) : Int) < (((a.ev.map encEv).length : Nat) : Int)) = true := by rw [List.length_map]; simp; omega
    rw [eqEvs_drop h1 h2] at he
    (repeat' (first | refine awp_seq ?_ | refine awp_block ?_ | refine awp_region (fun _ => hmix) ?_ | refine ARun.op rfl (by first | exact True.intro | exact rfl | (unfold inR; omega)) ?_ | refine ARun.indexAddr rfl rfl (by omega) (by first | with_reducible exact get_map h1 | with_reducible exact get_map h2) rfl rfl rfl rfl rfl (guardF_spec rfl) ?_ | refine neX flat40 rfl rfl rfl rfl rfl ?_ | (refine ARun.fin (by first | (intro h; cases h; done) | (intro _; kernel_rfl)) ?_; dsimp only [thenA, blockA, AS.bump, List.length_cons, List.length_nil, reduceIte, Nat.reduceEqDiff]) | (refine awp_skip ?_; dsimp only [thenA, blockA, AS.bump, List.length_cons, List.length_nil, reduceIte, Nat.reduceEqDiff]) | (refine awp_exit ?_; dsimp only [thenA, blockA, AS.bump, List.length_cons, List.length_nil, reduceIte, Nat.reduceEqDiff]) | refine awp_condT rfl (by first | rfl | assumption) ?_ | refine awp_condF rfl (by first | rfl | assumption) ?_ | ((fail_if_success refine ARun.plain rfl ?_); first | refine ARun.knowT rfl rfl rfl (by first | rfl | assumption) ?_ | refine ARun.knowF rfl rfl rfl (by first | rfl | assumption) ?_ | refine ARun.fork rfl rfl rfl (fun h => ?_) (fun h => ?_)) | refine awp_cond rfl (fun h => ?_) (fun h => ?_)))
    · refine awp_ret ⟨_, ResL.cons (ResA.tmp (.val _)) .nil, ?_⟩
      rw [he, show eqEv a.ev[k] b.ev[k] = false from nott h]
      rfl
    · refine ⟨(k + 1, _), ⟨⟨rfl, rfl, succI k, trivial⟩, ⟨rfl, rfl, trivial⟩, Nat.le_refl _⟩, ⟨hlt, ?_⟩, by dsimp only; omega⟩
      rw [he, show eqEv a.ev[k] b.ev[k] = true from notf h, Bool.true_and]
  · have hc : decide (((k : Nat) : Int) < (((a.ev.map encEv).length : Nat) : Int)) = false := by rw [List.length_map]; simp; omega
    (repeat' (first | refine awp_seq ?_ | refine awp_block ?_ | refine awp_region (fun _ => hmix) ?_ | refine ARun.op rfl (by first | exact True.intro | exact rfl | (unfold inR; omega)) ?_ | (refine ARun.fin (by first | (intro h; cases h; done) | (intro _; kernel_rfl)) ?_; dsimp only [thenA, blockA, AS.bump, List.length_cons, List.length_nil, reduceIte, Nat.reduceEqDiff]) | (refine awp_skip ?_; dsimp only [thenA, blockA, AS.bump, List.length_cons, List.length_nil, reduceIte, Nat.reduceEqDiff]) | (refine awp_exit ?_; dsimp only [thenA, blockA, AS.bump, List.length_cons, List.length_nil, reduceIte, Nat.reduceEqDiff]) | refine awp_condT rfl (by first | rfl | assumption) ?_ | refine awp_condF rfl (by first | rfl | assumption) ?_ | ((fail_if_success refine ARun.plain rfl ?_); first | refine ARun.knowT rfl rfl rfl (by first | rfl | assumption) ?_ | refine ARun.knowF rfl rfl rfl (by first | rfl | assumption) ?_ | refine ARun.fork rfl rfl rfl (fun h => ?_) (fun h => ?_)) | refine awp_cond rfl (fun h => ?_) (fun h => ?_)))
    refine awp_ret ⟨_, ResL.cons (ResA.tmp (.val _)) .nil, ?_⟩
    have hk' : k = a.ev.length := by omega
    rw [he, hk', List.drop_length, hlen, List.drop_length]
    rfl
end Go.Proofs.Ytpolenndeeaodab
