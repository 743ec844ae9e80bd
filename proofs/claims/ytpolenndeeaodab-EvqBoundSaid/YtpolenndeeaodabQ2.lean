/- evq: rows of events that are compared; clipped; which event is ahead. -/
import Derived.Test.YtpolenndeeaodabQ1
import Derived.Test.YtpolenndeeaodabB5
namespace Go.Proofs.Ytpolenndeeaodab
set_option linter.unusedVariables false
set_option linter.unusedSimpArgs false
open Go Go.RowKit
set_option maxRecDepth 100000
attribute [local irreducible] Decidable.decide awp ARun regK toK

theorem flat40 : flatOf Try.prog 40 = some [0, 0, 0, 0, 0] := by kernel_rfl
theorem closed_ev (e : E) : ∀ x, x ∈ encEv e → Closed x := closedL_cons (.val _) (closedL_cons (.val _) (closedL_cons (.val _) (closedL_cons (.val _) (closedL_cons (.val _) closedL_nil))))
def eqEv (e e' : E) : Bool := (e.1 == e'.1) && ((e.2.1 == e'.2.1) && ((e.2.2.1 == e'.2.2.1) && ((e.2.2.2.1 == e'.2.2.2.1) && ((e.2.2.2.2 == e'.2.2.2.2) && true))))
def eqEvs : List E → List E → Bool
  | [], [] => true
  | a :: l, b :: m => eqEv a b && eqEvs l m
  | _, _ => false

theorem eqEvs_len : ∀ (l m : List E), l.length ≠ m.length → eqEvs l m = false
  | [], [], h => absurd rfl h
  | [], _ :: _, _ => rfl
  | _ :: _, [], _ => rfl
  | a :: l, b :: m, h => by
    rw [eqEvs, eqEvs_len l m (fun e => h (by simp [e])), Bool.and_false]
theorem eqEvs_drop {l m : List E} {k : Nat} {a b : E} (h1 : l[k]? = some a) (h2 : m[k]? = some b) : eqEvs (l.drop k) (m.drop k) = (eqEv a b && eqEvs (l.drop (k + 1)) (m.drop (k + 1))) := by
  obtain ⟨h1', rfl⟩ := List.getElem?_eq_some_iff.1 h1
  obtain ⟨h2', rfl⟩ := List.getElem?_eq_some_iff.1 h2
  rw [List.drop_eq_getElem_cons h1', List.drop_eq_getElem_cons h2', eqEvs]

theorem equal_c (l m : List E) (hl : l.length ≤ 9223372036854775807) : FnC Try.prog 20 [.sl 5 false (l.map encEv), .sl 5 false (m.map encEv)] (.val (.bool (eqEvs l m))) := by
  refine FnC.of_awp (T := tt) (ok := tok) Try.func20 (by kernel_rfl) rfl (by kernel_rfl) (closedL_cons (closed_map closed_ev) (closedL_cons (closed_map closed_ev) closedL_nil)) (fun w0 st0 => ?_)
  dsimp only [frOf]
  (repeat' (first | refine awp_seq ?_ | refine awp_block ?_ | refine awp_region (fun _ => hmix) ?_ | refine ARun.op rfl (by first | exact True.intro | exact rfl | (unfold inR; omega)) ?_ | (refine ARun.fin (by first | (intro h; cases h; done) | (intro _; kernel_rfl)) ?_; dsimp only [thenA, blockA, AS.bump, List.length_cons, List.length_nil, reduceIte, Nat.reduceEqDiff]) | (refine awp_skip ?_; dsimp only [thenA, blockA, AS.bump, List.length_cons, List.length_nil, reduceIte, Nat.reduceEqDiff]) | (refine awp_exit ?_; dsimp only [thenA, blockA, AS.bump, List.length_cons, List.length_nil, reduceIte, Nat.reduceEqDiff]) | refine awp_condT rfl (by first | rfl | assumption) ?_ | refine awp_condF rfl (by first | rfl | assumption) ?_ | ((fail_if_success refine ARun.plain rfl ?_); first | refine ARun.knowT rfl rfl rfl (by first | rfl | assumption) ?_ | refine ARun.knowF rfl rfl rfl (by first | rfl | assumption) ?_ | refine ARun.fork rfl rfl rfl (fun h => ?_) (fun h => ?_)) | refine awp_cond rfl (fun h => ?_) (fun h => ?_)))
  · have hne : eqEvs l m = false := eqEvs_len l m (fun e => by rw [List.length_map, List.length_map, e] at h; simp at h)
    refine awp_ret ⟨_, ResL.cons (ResA.tmp (.val _)) .nil, ?_⟩
    rw [hne]; rfl
  · have hlen : l.length = m.length := by
      rw [List.length_map, List.length_map] at h
      have := bne_eq_false_iff_eq.1 h
      omega
    refine awp_loopT (T := Nat × Nat) (fun t => ⟨[(0, .sl 5 false (l.map encEv)), (1, .sl 5 false (m.map encEv)), (12, .val (.int .i64 (l.map encEv).length)), (13, .val (.int .i64 (t.1 : Nat)))], [], t.2⟩)
      (fun t => t.1 ≤ l.length ∧ eqEvs l m = eqEvs (l.drop t.1) (m.drop t.1)) (fun t => l.length - t.1) (0, _) ⟨Nat.zero_le _, rfl⟩ ⟨⟨rfl, rfl, rfl, rfl, trivial⟩, trivial, Nat.le_refl _⟩ (fun t ht => ?_)
    obtain ⟨k, g⟩ := t
    obtain ⟨hk, he⟩ := ht
    dsimp only at hk he ⊢
    by_cases hlt : k < l.length
    · have h1 := List.getElem?_eq_getElem hlt
      have h2 : m[k]? = some (m[k]'(by omega)) := List.getElem?_eq_getElem _
      have hc : decide (((k : Nat) : Int) < (((l.map encEv).length : Nat) : Int)) = true := by rw [List.length_map]; simp; omega
      rw [eqEvs_drop h1 h2] at he
      (repeat' (first | refine awp_seq ?_ | refine awp_block ?_ | refine awp_region (fun _ => hmix) ?_ | refine ARun.op rfl (by first | exact True.intro | exact rfl | (unfold inR; omega)) ?_ | refine ARun.indexAddr rfl rfl (by omega) (by first | with_reducible exact get_map h1 | with_reducible exact get_map h2) rfl rfl rfl rfl rfl (guardF_spec rfl) ?_ | refine neX flat40 rfl rfl rfl rfl rfl ?_ | (refine ARun.fin (by first | (intro h; cases h; done) | (intro _; kernel_rfl)) ?_; dsimp only [thenA, blockA, AS.bump, List.length_cons, List.length_nil, reduceIte, Nat.reduceEqDiff]) | (refine awp_skip ?_; dsimp only [thenA, blockA, AS.bump, List.length_cons, List.length_nil, reduceIte, Nat.reduceEqDiff]) | (refine awp_exit ?_; dsimp only [thenA, blockA, AS.bump, List.length_cons, List.length_nil, reduceIte, Nat.reduceEqDiff]) | refine awp_condT rfl (by first | rfl | assumption) ?_ | refine awp_condF rfl (by first | rfl | assumption) ?_ | ((fail_if_success refine ARun.plain rfl ?_); first | refine ARun.knowT rfl rfl rfl (by first | rfl | assumption) ?_ | refine ARun.knowF rfl rfl rfl (by first | rfl | assumption) ?_ | refine ARun.fork rfl rfl rfl (fun h => ?_) (fun h => ?_)) | refine awp_cond rfl (fun h => ?_) (fun h => ?_)))
      · refine awp_ret ⟨_, ResL.cons (ResA.tmp (.val _)) .nil, ?_⟩
        rw [he, show eqEv l[k] m[k] = false from nott h]
        rfl
      · refine ⟨(k + 1, _), ⟨⟨rfl, rfl, rfl, succI k, trivial⟩, trivial, Nat.le_refl _⟩, ⟨hlt, ?_⟩, by dsimp only; omega⟩
        rw [he, show eqEv l[k] m[k] = true from notf h, Bool.true_and]
    · have hc : decide (((k : Nat) : Int) < (((l.map encEv).length : Nat) : Int)) = false := by rw [List.length_map]; simp; omega
      (repeat' (first | refine awp_seq ?_ | refine awp_block ?_ | refine awp_region (fun _ => hmix) ?_ | refine ARun.op rfl (by first | exact True.intro | exact rfl | (unfold inR; omega)) ?_ | (refine ARun.fin (by first | (intro h; cases h; done) | (intro _; kernel_rfl)) ?_; dsimp only [thenA, blockA, AS.bump, List.length_cons, List.length_nil, reduceIte, Nat.reduceEqDiff]) | (refine awp_skip ?_; dsimp only [thenA, blockA, AS.bump, List.length_cons, List.length_nil, reduceIte, Nat.reduceEqDiff]) | (refine awp_exit ?_; dsimp only [thenA, blockA, AS.bump, List.length_cons, List.length_nil, reduceIte, Nat.reduceEqDiff]) | refine awp_condT rfl (by first | rfl | assumption) ?_ | refine awp_condF rfl (by first | rfl | assumption) ?_ | ((fail_if_success refine ARun.plain rfl ?_); first | refine ARun.knowT rfl rfl rfl (by first | rfl | assumption) ?_ | refine ARun.knowF rfl rfl rfl (by first | rfl | assumption) ?_ | refine ARun.fork rfl rfl rfl (fun h => ?_) (fun h => ?_)) | refine awp_cond rfl (fun h => ?_) (fun h => ?_)))
      refine awp_ret ⟨_, ResL.cons (ResA.tmp (.val _)) .nil, ?_⟩
      have hk' : k = l.length := by omega
      rw [he, hk', List.drop_length, hlen, List.drop_length]
      rfl
end Go.Proofs.Ytpolenndeeaodab
