/- evq: EvqTells returns true. -/
import Derived.Test.YtpolenndeeaodabQb
namespace Go.Proofs.Ytpolenndeeaodab
set_option linter.unusedVariables false
set_option linter.unusedSimpArgs false
open Go Go.RowKit
set_option maxRecDepth 100000
attribute [local irreducible] Decidable.decide awp ARun regK toK

theorem eqEv_refl (e : E) : eqEv e e = true := by simp [eqEv]
theorem eqEvs_refl : ∀ l : List E, eqEvs l l = true
  | [] => rfl
  | e :: l => by rw [eqEvs, eqEv_refl, eqEvs_refl l]; rfl
theorem sameQ_refl (q : Q) : sameQ q q = true := by unfold sameQ; rw [eqEvs_refl]; simp
theorem RightP.len {q : Q} (h : RightP q) : q.ev.length ≤ 64 := by
  have h1 := h.1; have h2 := h.2.2.2.1; omega
theorem RightP.asc {q : Q} (h : RightP q) : Asc q.ev := by
  have hg := h.2.2.2.2.2
  intro i j e e' hi hj hij
  have hjl : j < q.ev.length := (List.getElem?_eq_some_iff.1 hj).1
  have h1 := hg j e' hjl hj
  have h2 : AllGood q.ev (q.age - 1) j := fun k x hk hx => hg k x (by omega) hx
  have h3 := h2.hi (by omega) hij hi
  have := h1.1
  omega
theorem RightP.rng {q : Q} (h : RightP q) : ∀ e, e ∈ q.ev → (0 ≤ e.2.1 ∧ e.2.1 ≤ 3) ∧ (-9223372036854775808 ≤ e.2.2.2.2 ∧ e.2.2.2.2 ≤ 9223372036854775806) := by
  intro e he
  obtain ⟨j, hj⟩ := List.getElem?_of_mem he
  have hjl : j < q.ev.length := (List.getElem?_eq_some_iff.1 hj).1
  have h1 := h.2.2.2.2.2 j e hjl hj
  unfold GoodE at h1
  have := h.2.1
  omega
theorem RightP.take_c {q : Q} (h : RightP q) : FnC Try.prog 17 [.agg (encQ q)] (.tup [.agg (encEv (takeQ q).1), .agg (encQ (takeQ q).2.1), .val (.bool (takeQ q).2.2)]) :=
  Ytpolenndeeaodab.take_c q (by have := h.len; omega) (fun e he => by have := h.rng e he; omega)
theorem RightP.ref_take_c {q : Q} (h : RightP q) : FnC Try.prog 18 [.agg (encQ q)] (.tup [.agg (encEv (takeQ q).1), .agg (encQ (takeQ q).2.1), .val (.bool (takeQ q).2.2)]) :=
  Ytpolenndeeaodab.ref_take_c q (by have := h.len; omega) h.asc h.rng
theorem RightP.nx {q : Q} (h : RightP q) : -9223372036854775808 ≤ q.next ∧ q.next ≤ 4611686018427387904 := by have := h.2.2.1; omega

def argT (q o : Q) (rank hand arg : Int) : List AV := encQ q ++ (encQ o ++ [.val (.int .i64 rank), .val (.int .i64 hand), .val (.int .i64 arg)])
theorem closed_app {es es' : List AV} (h : ∀ x, x ∈ es → Closed x) (k : ∀ x, x ∈ es' → Closed x) : ∀ x, x ∈ es ++ es' → Closed x := fun x hx => (List.mem_append.1 hx).elim (h x) (k x)
theorem closed_encQ (q : Q) : ∀ x, x ∈ encQ q → Closed x := closedL_cons (closed_map closed_ev) (closedL_cons (.val _) (closedL_cons (.val _) (closedL_cons (.val _) closedL_nil)))
theorem closed_T (q o : Q) (rank hand arg : Int) : Closed (.agg (argT q o rank hand arg)) := .agg (closed_app (closed_encQ q) (closed_app (closed_encQ o) (closedL_cons (.val _) (closedL_cons (.val _) (closedL_cons (.val _) closedL_nil)))))

theorem newQ_len (room age : Int) : (newQ room age).1.ev.length = 0 := by unfold newQ; split <;> rfl
theorem postQ_len (q : Q) (rank hand arg : Int) : (postQ q rank hand arg).1.ev.length ≤ q.ev.length + 1 := by
  unfold postQ
  split
  · exact Nat.le_succ _
  · split
    · exact Nat.le_succ _
    · simp
theorem takeQ_len (q : Q) : (takeQ q).2.1.ev.length ≤ q.ev.length := by
  unfold takeQ
  split
  · exact Nat.le_refl _
  · exact oldUp_len _ _ _ _
set_option maxHeartbeats 2000000 in
theorem tells_c (q o : Q) (rank hand arg : Int) (hq : q.ev.length ≤ maxLen) (ho : o.ev.length ≤ maxLen) : FnC Try.prog 3 [.agg (argT q o rank hand arg)] (.val (.bool true)) := by
  refine FnC.of_awp (T := tt) (ok := tok) Try.func3 (by kernel_rfl) rfl (by kernel_rfl) (closedL_cons (closed_T q o rank hand arg) closedL_nil) (fun w0 st0 => ?_)
  dsimp only [frOf]
  have n1 : (!(true == true)) = false := by simp
  have n2 : (!(false == false)) = false := by simp
  have n3 : (true == true) = true := by simp
  have n4 : (false == false) = true := by simp
  by_cases h1 : 80 < q.ev.length
  · have d1 : decide ((80 : Int) < (((q.ev.map encEv).length : Nat) : Int)) = true := by rw [List.length_map]; simp; omega
    (repeat' (first | refine awp_seq ?_ | refine awp_block ?_ | refine awp_region (fun _ => hmix) ?_ | refine ARun.op rfl (by first | exact True.intro | exact rfl | (unfold inR; omega)) ?_ | refine callX (shown_c) rfl rfl rfl rfl ?_ | (refine ARun.fin (by first | (intro h; cases h; done) | (intro _; kernel_rfl)) ?_; dsimp only [thenA, blockA, AS.bump, List.length_cons, List.length_nil, reduceIte, Nat.reduceEqDiff]) | (refine awp_skip ?_; dsimp only [thenA, blockA, AS.bump, List.length_cons, List.length_nil, reduceIte, Nat.reduceEqDiff]) | (refine awp_exit ?_; dsimp only [thenA, blockA, AS.bump, List.length_cons, List.length_nil, reduceIte, Nat.reduceEqDiff]) | refine awp_condT rfl (by first | rfl | assumption) ?_ | refine awp_condF rfl (by first | rfl | assumption) ?_ | ((fail_if_success refine ARun.plain rfl ?_); first | refine ARun.knowT rfl rfl rfl (by first | rfl | assumption) ?_ | refine ARun.knowF rfl rfl rfl (by first | rfl | assumption) ?_ | refine ARun.fork rfl rfl rfl (fun h => ?_) (fun h => ?_)) | refine awp_cond rfl (fun h => ?_) (fun h => ?_)))
    exact awp_ret ⟨_, ResL.cons (ResA.tmp (.val _)) .nil, rfl⟩
  have d1 : decide ((80 : Int) < (((q.ev.map encEv).length : Nat) : Int)) = false := by rw [List.length_map]; simp; omega
  by_cases h2 : 80 < o.ev.length
  · have d2 : decide ((80 : Int) < (((o.ev.map encEv).length : Nat) : Int)) = true := by rw [List.length_map]; simp; omega
    (repeat' (first | refine awp_seq ?_ | refine awp_block ?_ | refine awp_region (fun _ => hmix) ?_ | refine ARun.op rfl (by first | exact True.intro | exact rfl | (unfold inR; omega)) ?_ | refine callX (shown_c) rfl rfl rfl rfl ?_ | (refine ARun.fin (by first | (intro h; cases h; done) | (intro _; kernel_rfl)) ?_; dsimp only [thenA, blockA, AS.bump, List.length_cons, List.length_nil, reduceIte, Nat.reduceEqDiff]) | (refine awp_skip ?_; dsimp only [thenA, blockA, AS.bump, List.length_cons, List.length_nil, reduceIte, Nat.reduceEqDiff]) | (refine awp_exit ?_; dsimp only [thenA, blockA, AS.bump, List.length_cons, List.length_nil, reduceIte, Nat.reduceEqDiff]) | refine awp_condT rfl (by first | rfl | assumption) ?_ | refine awp_condF rfl (by first | rfl | assumption) ?_ | ((fail_if_success refine ARun.plain rfl ?_); first | refine ARun.knowT rfl rfl rfl (by first | rfl | assumption) ?_ | refine ARun.knowF rfl rfl rfl (by first | rfl | assumption) ?_ | refine ARun.fork rfl rfl rfl (fun h => ?_) (fun h => ?_)) | refine awp_cond rfl (fun h => ?_) (fun h => ?_)))
    exact awp_ret ⟨_, ResL.cons (ResA.tmp (.val _)) .nil, rfl⟩
  have d2 : decide ((80 : Int) < (((o.ev.map encEv).length : Nat) : Int)) = false := by rw [List.length_map]; simp; omega
  have c1 := new_c rank arg
  have c2 := ref_new_c rank arg
  have l1 := newQ_len rank arg
  generalize newQ rank arg = r at c1 c2 l1
  obtain ⟨a, e⟩ := r
  dsimp only at c1 c2 l1
  have c3 := ref_same_c a a (by omega)
  rw [sameQ_refl] at c3
  have d3 : (e != e) = false := by simp
  have c4 := right_c q (by omega)
  have c5 := ref_right_c q (by omega)
  have c6 := same_c q o (by omega)
  have c7 := ref_same_c q o (by omega)
  cases hs : sameQ q o
  all_goals
    rw [hs] at c6 c7
    cases hr : rightQ q
    · rw [hr] at c4 c5
      (repeat' (first | refine awp_seq ?_ | refine awp_block ?_ | refine awp_region (fun _ => hmix) ?_ | refine ARun.op rfl (by first | exact True.intro | exact rfl | (unfold inR; omega)) ?_ | refine callX (shown_c) rfl rfl rfl rfl ?_ | refine callX (c1) rfl rfl rfl rfl ?_ | refine callX (c2) rfl rfl rfl rfl ?_ | refine callX (c3) rfl rfl rfl rfl ?_ | refine callX (c4) rfl rfl rfl rfl ?_ | refine callX (c5) rfl rfl rfl rfl ?_ | refine callX (c6) rfl rfl rfl rfl ?_ | refine callX (c7) rfl rfl rfl rfl ?_ | (refine ARun.fin (by first | (intro h; cases h; done) | (intro _; kernel_rfl)) ?_; dsimp only [thenA, blockA, AS.bump, List.length_cons, List.length_nil, reduceIte, Nat.reduceEqDiff]) | (refine awp_skip ?_; dsimp only [thenA, blockA, AS.bump, List.length_cons, List.length_nil, reduceIte, Nat.reduceEqDiff]) | (refine awp_exit ?_; dsimp only [thenA, blockA, AS.bump, List.length_cons, List.length_nil, reduceIte, Nat.reduceEqDiff]) | refine awp_condT rfl (by first | rfl | assumption) ?_ | refine awp_condF rfl (by first | rfl | assumption) ?_ | ((fail_if_success refine ARun.plain rfl ?_); first | refine ARun.knowT rfl rfl rfl (by first | rfl | assumption) ?_ | refine ARun.knowF rfl rfl rfl (by first | rfl | assumption) ?_ | refine ARun.fork rfl rfl rfl (fun h => ?_) (fun h => ?_)) | refine awp_cond rfl (fun h => ?_) (fun h => ?_)))
      exact awp_ret ⟨_, ResL.cons (ResA.tmp (.val _)) .nil, rfl⟩
    · rw [hr] at c4 c5
      have hR := rightQ_iff.1 hr
      have c8 := post_c q rank hand arg (by omega) hR.nx
      have c9 := ref_post_c q rank hand arg (by omega) hR.nx
      have ca := hR.take_c
      have cb := hR.ref_take_c
      have l2 := postQ_len q rank hand arg
      have l3 := takeQ_len q
      generalize postQ q rank hand arg = p at c8 c9 l2
      obtain ⟨pq, pi, pe⟩ := p
      generalize takeQ q = t at ca cb l3
      obtain ⟨te, tq, ts⟩ := t
      dsimp only at c8 c9 ca cb l2 l3
      have cc := ref_same_c pq pq (by omega)
      rw [sameQ_refl] at cc
      have cd := ref_same_c tq tq (by omega)
      rw [sameQ_refl] at cd
      have d4 : (pi == pi) = true := by simp
      have d5 : (pe == pe) = true := by simp
      have d6 := eqEv_refl te
      cases ts
      all_goals
        (repeat' (first | refine awp_seq ?_ | refine awp_block ?_ | refine awp_region (fun _ => hmix) ?_ | refine ARun.op rfl (by first | exact True.intro | exact rfl | (unfold inR; omega)) ?_ | refine callX (shown_c) rfl rfl rfl rfl ?_ | refine callX (c1) rfl rfl rfl rfl ?_ | refine callX (c2) rfl rfl rfl rfl ?_ | refine callX (c3) rfl rfl rfl rfl ?_ | refine callX (c4) rfl rfl rfl rfl ?_ | refine callX (c5) rfl rfl rfl rfl ?_ | refine callX (c6) rfl rfl rfl rfl ?_ | refine callX (c7) rfl rfl rfl rfl ?_ | refine callX (c8) rfl rfl rfl rfl ?_ | refine callX (c9) rfl rfl rfl rfl ?_ | refine callX (ca) rfl rfl rfl rfl ?_ | refine callX (cb) rfl rfl rfl rfl ?_ | refine callX (cc) rfl rfl rfl rfl ?_ | refine callX (cd) rfl rfl rfl rfl ?_ | refine eqX flat40 rfl rfl rfl rfl rfl ?_ | (refine ARun.fin (by first | (intro h; cases h; done) | (intro _; kernel_rfl)) ?_; dsimp only [thenA, blockA, AS.bump, List.length_cons, List.length_nil, reduceIte, Nat.reduceEqDiff]) | (refine awp_skip ?_; dsimp only [thenA, blockA, AS.bump, List.length_cons, List.length_nil, reduceIte, Nat.reduceEqDiff]) | (refine awp_exit ?_; dsimp only [thenA, blockA, AS.bump, List.length_cons, List.length_nil, reduceIte, Nat.reduceEqDiff]) | refine awp_condT rfl (by first | rfl | assumption) ?_ | refine awp_condF rfl (by first | rfl | assumption) ?_ | ((fail_if_success refine ARun.plain rfl ?_); first | refine ARun.knowT rfl rfl rfl (by first | rfl | assumption) ?_ | refine ARun.knowF rfl rfl rfl (by first | rfl | assumption) ?_ | refine ARun.fork rfl rfl rfl (fun h => ?_) (fun h => ?_)) | refine awp_cond rfl (fun h => ?_) (fun h => ?_)))
        refine awp_ret ⟨_, ResL.cons (ResA.tmp (.val _)) .nil, ?_⟩
        show AV.val _ = AV.val _
        simp
end Go.Proofs.Ytpolenndeeaodab
