/- evq: Take, of the program. -/
import Derived.Test.YtpolenndeeaodabQ5
namespace Go.Proofs.Ytpolenndeeaodab
set_option linter.unusedVariables false
set_option linter.unusedSimpArgs false
open Go Go.RowKit
set_option maxRecDepth 100000
attribute [local irreducible] Decidable.decide awp ARun regK toK

/-- The first k events made older, the one at b left out. -/
def oldUp (l : List E) (b : Nat) (age : Int) : Nat → List E
  | 0 => []
  | k + 1 => if k = b then oldUp l b age k else oldUp l b age k ++ [olderE (l[k]?.getD (0, 0, 0, 0, 0)) age]
theorem oldUp_len (l : List E) (b : Nat) (age : Int) : ∀ k, (oldUp l b age k).length ≤ k
  | 0 => Nat.le_refl _
  | k + 1 => by
    have := oldUp_len l b age k
    rw [oldUp]
    split
    · omega
    · simp; omega
def takeQ (q : Q) : E × Q × Bool :=
  if q.ev.length = 0 then ((0, 0, 0, 0, 0), q, false) else
  (q.ev[bestUp q.ev q.ev.length]?.getD (0, 0, 0, 0, 0), ⟨oldUp q.ev (bestUp q.ev q.ev.length) q.age q.ev.length, q.room, q.age, q.next⟩, true)

theorem take_succ {α : Type} {l : List α} {k : Nat} {x : α} (h : l[k]? = some x) : l.take (k + 1) = l.take k ++ [x] := by
  rw [List.take_add_one, h]; rfl


theorem take_c (q : Q) (hl : q.ev.length ≤ 1000000) (hrng : ∀ e, e ∈ q.ev → (-9223372036854775807 ≤ e.2.1 ∧ e.2.1 ≤ 9223372036854775807) ∧ (-9223372036854775808 ≤ e.2.2.2.2 ∧ e.2.2.2.2 ≤ 9223372036854775806)) :
    FnC Try.prog 17 [.agg (encQ q)] (.tup [.agg (encEv (takeQ q).1), .agg (encQ (takeQ q).2.1), .val (.bool (takeQ q).2.2)]) := by
  refine FnC.of_awp (T := tt) (ok := tok) Try.func17 (by kernel_rfl) rfl (by kernel_rfl) (closedL_cons (closed_q q) closedL_nil) (fun w0 st0 => ?_)
  dsimp only [frOf]
  (repeat' (first | refine awp_seq ?_ | refine awp_block ?_ | refine awp_region (fun _ => hmix) ?_ | refine ARun.op rfl (by first | exact True.intro | exact rfl | (unfold inR; omega)) ?_ | refine ARun.makeSlice rfl rfl (by omega) (by omega) rfl rfl rfl rfl rfl rfl (by simp only [List.length_map, List.length_take]; omega) (by simp only [List.length_map, List.length_take]; omega) rfl (guardF_spec rfl) ?_ | (refine ARun.fin (by first | (intro h; cases h; done) | (intro _; kernel_rfl)) ?_; dsimp only [thenA, blockA, AS.bump, List.length_cons, List.length_nil, reduceIte, Nat.reduceEqDiff]) | (refine awp_skip ?_; dsimp only [thenA, blockA, AS.bump, List.length_cons, List.length_nil, reduceIte, Nat.reduceEqDiff]) | (refine awp_exit ?_; dsimp only [thenA, blockA, AS.bump, List.length_cons, List.length_nil, reduceIte, Nat.reduceEqDiff]) | refine awp_condT rfl (by first | rfl | assumption) ?_ | refine awp_condF rfl (by first | rfl | assumption) ?_ | ((fail_if_success refine ARun.plain rfl ?_); first | refine ARun.knowT rfl rfl rfl (by first | rfl | assumption) ?_ | refine ARun.knowF rfl rfl rfl (by first | rfl | assumption) ?_ | refine ARun.fork rfl rfl rfl (fun h => ?_) (fun h => ?_)) | refine awp_cond rfl (fun h => ?_) (fun h => ?_)))
  · have hz : q.ev.length = 0 := by rw [List.length_map] at h; simpa using h
    have e : takeQ q = ((0, 0, 0, 0, 0), q, false) := by unfold takeQ; rw [if_pos hz]
    rw [e]
    refine awp_ret ⟨_, ResL.cons (ResA.agg rfl rfl rfl rfl rfl rfl rfl (RL.cons (.val _) (RL.cons (.val _) (RL.cons (.val _) (RL.cons (.val _) (RL.cons (.val _) (RL.nil _))))))) (ResL.cons (ResA.agg rfl rfl rfl rfl rfl rfl rfl (RL.cons (.closed _ (closed_map closed_ev)) (RL.cons (.val _) (RL.cons (.val _) (RL.cons (.val _) (RL.nil _)))))) (ResL.cons (ResA.tmp (.val _)) .nil)), rfl⟩
  have hpos : 0 < q.ev.length := by rw [List.length_map] at h; have := beq_eq_false_iff_ne.1 h; omega
  clear h
  refine awp_loopT (T := Nat × Nat × Nat) (fun t => ⟨[(5, .own 22 t.2.1 0 ((q.ev.take t.1).map encEv).length), (24, .sl 5 false (q.ev.map encEv)), (25, .val (.int .i64 (q.ev.map encEv).length)), (26, .val (.int .i64 (t.1 : Nat))), (1, .ptr 1 0 0 0), (2, .ptr 2 1 0 0), (3, .ptr 3 2 0 0), (4, .val (.bool false))], [(22, some ⟨t.2.1, 5, (q.ev.take t.1).map encEv⟩), (1, some ⟨0, 4, [encQ q]⟩), (2, some ⟨1, 5, [encEv (0, 0, 0, 0, 0)]⟩), (3, some ⟨2, 4, [[.sl 0 true [], .val (.int .i64 0), .val (.int .i64 0), .val (.int .i64 0)]]⟩)], t.2.2⟩)
    (fun t => t.1 ≤ q.ev.length) (fun t => q.ev.length - t.1) (0, _, _) (Nat.zero_le _) ⟨⟨rfl, rfl, rfl, rfl, rfl, rfl, rfl, rfl, trivial⟩, ⟨rfl, rfl, rfl, rfl, trivial⟩, Nat.le_refl _⟩ (fun t ht => ?_)
  obtain ⟨k, g, gc⟩ := t
  dsimp only at ht ⊢
  by_cases hlt : k < q.ev.length
  · have h1 : q.ev[k]? = some q.ev[k] := List.getElem?_eq_getElem hlt
    have hc : decide (((k : Nat) : Int) < (((q.ev.map encEv).length : Nat) : Int)) = true := by rw [List.length_map]; simp; omega
    have hs : (q.ev.take (k + 1)).map encEv = (q.ev.take k).map encEv ++ [encEv q.ev[k]] := by rw [take_succ h1, List.map_append]; rfl
    (repeat' (first | refine awp_seq ?_ | refine awp_block ?_ | refine awp_region (fun _ => hmix) ?_ | refine ARun.op rfl (by first | exact True.intro | exact rfl | (unfold inR; omega)) ?_ | refine ARun.indexAddr rfl rfl (by omega) (by first | with_reducible exact get_map h1 | with_reducible exact get_map h1) rfl rfl rfl rfl rfl (guardF_spec rfl) ?_ | refine ARun.append_own rfl rfl rfl rfl rfl rfl rfl rfl rfl (.inr rfl) rfl rfl (by simp only [List.length_append, List.length_map, List.length_take, List.length_cons, List.length_nil]; omega) (by simp only [maxLen, List.length_append, List.length_map, List.length_take, List.length_cons, List.length_nil]; omega) rfl (guardF_spec rfl) ?_ | (refine ARun.fin (by first | (intro h; cases h; done) | (intro _; kernel_rfl)) ?_; dsimp only [thenA, blockA, AS.bump, List.length_cons, List.length_nil, reduceIte, Nat.reduceEqDiff]) | (refine awp_skip ?_; dsimp only [thenA, blockA, AS.bump, List.length_cons, List.length_nil, reduceIte, Nat.reduceEqDiff]) | (refine awp_exit ?_; dsimp only [thenA, blockA, AS.bump, List.length_cons, List.length_nil, reduceIte, Nat.reduceEqDiff]) | refine awp_condT rfl (by first | rfl | assumption) ?_ | refine awp_condF rfl (by first | rfl | assumption) ?_ | ((fail_if_success refine ARun.plain rfl ?_); first | refine ARun.knowT rfl rfl rfl (by first | rfl | assumption) ?_ | refine ARun.knowF rfl rfl rfl (by first | rfl | assumption) ?_ | refine ARun.fork rfl rfl rfl (fun h => ?_) (fun h => ?_)) | refine awp_cond rfl (fun h => ?_) (fun h => ?_)))
    refine ⟨(k + 1, _, _), ⟨⟨(by dsimp only; rw [hs]; rfl), rfl, rfl, succI k, rfl, rfl, rfl, rfl, trivial⟩, ⟨(by dsimp only; rw [hs]; rfl), rfl, rfl, rfl, trivial⟩, Nat.le_refl _⟩, hlt, by dsimp only; omega⟩
  · have hc : decide (((k : Nat) : Int) < (((q.ev.map encEv).length : Nat) : Int)) = false := by rw [List.length_map]; simp; omega
    have hk : k = q.ev.length := by omega
    subst hk
    (repeat' (first | refine awp_seq ?_ | refine awp_block ?_ | refine awp_region_ne 9 rfl (fun _ => hmix) ?_ | refine ARun.op rfl (by first | exact True.intro | exact rfl | (unfold inR; omega)) ?_ | (refine ARun.fin (by first | (intro h; cases h; done) | (intro _; kernel_rfl)) ?_; dsimp only [thenA, blockA, AS.bump, List.length_cons, List.length_nil, reduceIte, Nat.reduceEqDiff]) | (refine awp_skip ?_; dsimp only [thenA, blockA, AS.bump, List.length_cons, List.length_nil, reduceIte, Nat.reduceEqDiff]) | (refine awp_exit ?_; dsimp only [thenA, blockA, AS.bump, List.length_cons, List.length_nil, reduceIte, Nat.reduceEqDiff]) | refine awp_condT rfl (by first | rfl | assumption) ?_ | refine awp_condF rfl (by first | rfl | assumption) ?_ | ((fail_if_success refine ARun.plain rfl ?_); first | refine ARun.knowT rfl rfl rfl (by first | rfl | assumption) ?_ | refine ARun.knowF rfl rfl rfl (by first | rfl | assumption) ?_ | refine ARun.fork rfl rfl rfl (fun h => ?_) (fun h => ?_)) | refine awp_cond rfl (fun h => ?_) (fun h => ?_)))
    rw [List.take_length]
    refine awp_freeze 22 g 5 (q.ev.map encEv) rfl (own_closed_map closed_ev) (fr' := [(5, .sl 5 false (q.ev.map encEv)), (1, .ptr 1 0 0 0), (2, .ptr 2 1 0 0), (3, .ptr 3 2 0 0), (4, .val (.bool false))]) (hp' := [(1, some ⟨0, 4, [encQ q]⟩), (2, some ⟨1, 5, [encEv (0, 0, 0, 0, 0)]⟩), (3, some ⟨2, 4, [[.sl 0 true [], .val (.int .i64 0), .val (.int .i64 0), .val (.int .i64 0)]]⟩)]) ⟨.inr ⟨_, rfl, rfl, rfl⟩, .inl rfl, .inl rfl, .inl rfl, .inl rfl, trivial⟩ ⟨⟨rfl, rfl⟩, ⟨rfl, rfl⟩, ⟨rfl, rfl⟩, trivial⟩ ?_
    have hblt := bestUp_lt q.ev q.ev.length (Nat.le_refl _) hpos
    have hb : q.ev[bestUp q.ev q.ev.length]? = some q.ev[bestUp q.ev q.ev.length] := List.getElem?_eq_getElem hblt
    have e : takeQ q = (q.ev[bestUp q.ev q.ev.length], ⟨oldUp q.ev (bestUp q.ev q.ev.length) q.age q.ev.length, q.room, q.age, q.next⟩, true) := by
      unfold takeQ; rw [if_neg (by omega), hb]; rfl
    rw [e]
    clear e
    (repeat' (first | refine awp_seq ?_ | refine awp_block ?_ | refine awp_region (fun _ => hmix) ?_ | refine ARun.op rfl (by first | exact True.intro | exact rfl | (unfold inR; omega)) ?_ | refine callX (best_c _ (by omega)) rfl rfl rfl rfl ?_ | refine ARun.makeSlice rfl rfl (by omega) (by omega) rfl rfl rfl rfl rfl rfl (by simp only [List.length_map, List.length_take]; omega) (by simp only [List.length_map, List.length_take]; omega) rfl (guardF_spec rfl) ?_ | (refine ARun.fin (by first | (intro h; cases h; done) | (intro _; kernel_rfl)) ?_; dsimp only [thenA, blockA, AS.bump, List.length_cons, List.length_nil, reduceIte, Nat.reduceEqDiff]) | (refine awp_skip ?_; dsimp only [thenA, blockA, AS.bump, List.length_cons, List.length_nil, reduceIte, Nat.reduceEqDiff]) | (refine awp_exit ?_; dsimp only [thenA, blockA, AS.bump, List.length_cons, List.length_nil, reduceIte, Nat.reduceEqDiff]) | refine awp_condT rfl (by first | rfl | assumption) ?_ | refine awp_condF rfl (by first | rfl | assumption) ?_ | ((fail_if_success refine ARun.plain rfl ?_); first | refine ARun.knowT rfl rfl rfl (by first | rfl | assumption) ?_ | refine ARun.knowF rfl rfl rfl (by first | rfl | assumption) ?_ | refine ARun.fork rfl rfl rfl (fun h => ?_) (fun h => ?_)) | refine awp_cond rfl (fun h => ?_) (fun h => ?_)))
    generalize hbe : bestUp q.ev q.ev.length = bb at *
    refine awp_loopT (T := Nat × Nat × Nat) (fun t => ⟨[(8, .val (.int .i64 (bb : Nat))), (9, .own 39 t.2.1 0 ((oldUp q.ev bb q.age t.1).map encEv).length), (40, .sl 5 false (q.ev.map encEv)), (41, .val (.int .i64 (q.ev.map encEv).length)), (42, .val (.int .i64 (t.1 : Nat))), (1, .ptr 1 0 0 0), (2, .ptr 2 1 0 0), (3, .ptr 3 2 0 0), (4, .val (.bool false))], [(39, some ⟨t.2.1, 5, (oldUp q.ev bb q.age t.1).map encEv⟩), (1, some ⟨0, 4, [encQ q]⟩), (2, some ⟨1, 5, [encEv (0, 0, 0, 0, 0)]⟩), (3, some ⟨2, 4, [[.sl 0 true [], .val (.int .i64 0), .val (.int .i64 0), .val (.int .i64 0)]]⟩)], t.2.2⟩)
      (fun t => t.1 ≤ q.ev.length) (fun t => q.ev.length - t.1) (0, _, _) (Nat.zero_le _) ⟨⟨rfl, rfl, rfl, rfl, rfl, rfl, rfl, rfl, rfl, trivial⟩, ⟨rfl, rfl, rfl, rfl, trivial⟩, Nat.le_refl _⟩ (fun t ht => ?_)
    clear hbe
    obtain ⟨k, g, gc⟩ := t
    dsimp only at ht ⊢
    by_cases hlt : k < q.ev.length
    · have h1 : q.ev[k]? = some q.ev[k] := List.getElem?_eq_getElem hlt
      have hc : decide (((k : Nat) : Int) < (((q.ev.map encEv).length : Nat) : Int)) = true := by rw [List.length_map]; simp; omega
      have hr := hrng _ (List.getElem_mem hlt)
      have hol := oldUp_len q.ev bb q.age k
      (repeat' (first | refine awp_seq ?_ | refine awp_block ?_ | refine awp_region (fun _ => hmix) ?_ | refine ARun.op rfl (by first | exact True.intro | exact rfl | (unfold inR; omega)) ?_ | refine ARun.indexAddr rfl rfl (by omega) (by first | with_reducible exact get_map h1 | with_reducible exact get_map h1) rfl rfl rfl rfl rfl (guardF_spec rfl) ?_ | refine callX (older_c _ _ hr.1 hr.2) rfl rfl rfl rfl ?_ | refine ARun.append_own rfl rfl rfl rfl rfl rfl rfl rfl rfl (.inr rfl) rfl rfl (by simp only [List.length_append, List.length_map, List.length_take, List.length_cons, List.length_nil]; omega) (by simp only [maxLen, List.length_append, List.length_map, List.length_take, List.length_cons, List.length_nil]; omega) rfl (guardF_spec rfl) ?_ | (refine ARun.fin (by first | (intro h; cases h; done) | (intro _; kernel_rfl)) ?_; dsimp only [thenA, blockA, AS.bump, List.length_cons, List.length_nil, reduceIte, Nat.reduceEqDiff]) | (refine awp_skip ?_; dsimp only [thenA, blockA, AS.bump, List.length_cons, List.length_nil, reduceIte, Nat.reduceEqDiff]) | (refine awp_exit ?_; dsimp only [thenA, blockA, AS.bump, List.length_cons, List.length_nil, reduceIte, Nat.reduceEqDiff]) | refine awp_condT rfl (by first | rfl | assumption) ?_ | refine awp_condF rfl (by first | rfl | assumption) ?_ | ((fail_if_success refine ARun.plain rfl ?_); first | refine ARun.knowT rfl rfl rfl (by first | rfl | assumption) ?_ | refine ARun.knowF rfl rfl rfl (by first | rfl | assumption) ?_ | refine ARun.fork rfl rfl rfl (fun h => ?_) (fun h => ?_)) | refine awp_cond rfl (fun h => ?_) (fun h => ?_)))
      · have hne : k ≠ bb := by intro he; rw [he] at h; simp at h
        have hs : (oldUp q.ev bb q.age (k + 1)).map encEv = (oldUp q.ev bb q.age k).map encEv ++ [encEv (olderE q.ev[k] q.age)] := by
          rw [oldUp, if_neg hne, List.map_append, h1]; rfl
        refine ⟨(k + 1, _, _), ⟨⟨rfl, (by dsimp only; rw [hs]; rfl), rfl, rfl, succI k, rfl, rfl, rfl, rfl, trivial⟩, ⟨(by dsimp only; rw [hs]; rfl), rfl, rfl, rfl, trivial⟩, Nat.le_refl _⟩, hlt, by dsimp only; omega⟩
      · have hne : k = bb := by have := notf h; simp at this; omega
        have hs : oldUp q.ev bb q.age (k + 1) = oldUp q.ev bb q.age k := by
          rw [oldUp, if_pos hne]
        refine ⟨(k + 1, _, _), ⟨⟨rfl, (by dsimp only; rw [hs]; rfl), rfl, rfl, succI k, rfl, rfl, rfl, rfl, trivial⟩, ⟨(by dsimp only; rw [hs]; rfl), rfl, rfl, rfl, trivial⟩, Nat.le_refl _⟩, hlt, by dsimp only; omega⟩
    · have hc : decide (((k : Nat) : Int) < (((q.ev.map encEv).length : Nat) : Int)) = false := by rw [List.length_map]; simp; omega
      have hk : k = q.ev.length := by omega
      subst hk
      (repeat' (first | refine awp_seq ?_ | refine awp_block ?_ | refine awp_region (fun _ => hmix) ?_ | refine ARun.op rfl (by first | exact True.intro | exact rfl | (unfold inR; omega)) ?_ | refine ARun.indexAddr rfl rfl (by omega) (by first | with_reducible exact get_map hb | with_reducible exact get_map hb) rfl rfl rfl rfl rfl (guardF_spec rfl) ?_ | (refine ARun.fin (by first | (intro h; cases h; done) | (intro _; kernel_rfl)) ?_; dsimp only [thenA, blockA, AS.bump, List.length_cons, List.length_nil, reduceIte, Nat.reduceEqDiff]) | (refine awp_skip ?_; dsimp only [thenA, blockA, AS.bump, List.length_cons, List.length_nil, reduceIte, Nat.reduceEqDiff]) | (refine awp_exit ?_; dsimp only [thenA, blockA, AS.bump, List.length_cons, List.length_nil, reduceIte, Nat.reduceEqDiff]) | refine awp_condT rfl (by first | rfl | assumption) ?_ | refine awp_condF rfl (by first | rfl | assumption) ?_ | ((fail_if_success refine ARun.plain rfl ?_); first | refine ARun.knowT rfl rfl rfl (by first | rfl | assumption) ?_ | refine ARun.knowF rfl rfl rfl (by first | rfl | assumption) ?_ | refine ARun.fork rfl rfl rfl (fun h => ?_) (fun h => ?_)) | refine awp_cond rfl (fun h => ?_) (fun h => ?_)))
      refine awp_ret ⟨_, ResL.cons (ResA.agg rfl rfl rfl rfl rfl rfl rfl (RL.cons (.val _) (RL.cons (.val _) (RL.cons (.val _) (RL.cons (.val _) (RL.cons (.val _) (RL.nil _))))))) (ResL.cons (ResA.agg rfl rfl rfl rfl rfl rfl rfl (RL.cons (Reif.owned rfl rfl rfl (own_closed_map closed_ev)) (RL.cons (.val _) (RL.cons (.val _) (RL.cons (.val _) (RL.nil _)))))) (ResL.cons (ResA.tmp (.val _)) .nil)), rfl⟩
end Go.Proofs.Ytpolenndeeaodab
