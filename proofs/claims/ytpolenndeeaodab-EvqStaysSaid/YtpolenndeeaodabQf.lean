/- evq: EvqStays returns true. -/
import Derived.Test.YtpolenndeeaodabQe
namespace Go.Proofs.Ytpolenndeeaodab
set_option linter.unusedVariables false
set_option linter.unusedSimpArgs false
open Go Go.RowKit
set_option maxRecDepth 100000
attribute [local irreducible] Decidable.decide awp ARun regK toK

def argS (q : Q) (rank hand arg : Int) : List AV := encQ q ++ [.val (.int .i64 rank), .val (.int .i64 hand), .val (.int .i64 arg)]
theorem closed_S (q : Q) (rank hand arg : Int) : Closed (.agg (argS q rank hand arg)) := .agg (closed_app (closed_encQ q) (closedL_cons (.val _) (closedL_cons (.val _) (closedL_cons (.val _) closedL_nil))))
theorem postQ_cases (q : Q) (rank hand arg : Int) : postQ q rank hand arg = (q, 0, -24) ∨ postQ q rank hand arg = (q, 0, -261) ∨ postQ q rank hand arg = (⟨q.ev ++ [(q.next, rank, hand, arg, 0)], q.room, q.age, q.next + 1⟩, q.next, 0) := by
  unfold postQ
  split
  · exact .inl rfl
  · split
    · exact .inr (.inl rfl)
    · exact .inr (.inr rfl)
theorem takeQ_none {q : Q} (h : q.ev.length = 0) : takeQ q = ((0, 0, 0, 0, 0), q, false) := by unfold takeQ; rw [if_pos h]
theorem takeQ_some {q : Q} (h : 0 < q.ev.length) : (takeQ q).2.2 = true ∧ (takeQ q).2.1.next = q.next := by unfold takeQ; rw [if_neg (by omega)]; exact ⟨rfl, rfl⟩

set_option maxHeartbeats 4000000 in
theorem stays_c (q : Q) (rank hand arg : Int) (hq : q.ev.length ≤ 9223372036854775807) : FnC Try.prog 4 [.agg (argS q rank hand arg)] (.val (.bool true)) := by
  have n1 : (!(true == true)) = false := by simp
  have n2 : (!(false == false)) = false := by simp
  have n3 : ((-24 : Int) != 0) = true := by simp
  have n4 : ((-261 : Int) != 0) = true := by simp
  have n5 : ((0 : Int) != 0) = false := by simp
  have n6 : ((-24 : Int) == 0) = false := by simp
  have n7 : ((-261 : Int) == 0) = false := by simp
  have n8 : ((0 : Int) == 0) = true := by simp
  cases hr : rightQ q
  · have c5 := ref_right_c q (by omega)
    rw [hr] at c5
    refine FnC.of_awp (T := tt) (ok := tok) Try.func4 (by kernel_rfl) rfl (by kernel_rfl) (closedL_cons (closed_S q rank hand arg) closedL_nil) (fun w0 st0 => ?_)
    dsimp only [frOf]
    (repeat' (first | refine awp_seq ?_ | refine awp_block ?_ | refine awp_region (fun _ => hmix) ?_ | refine ARun.op rfl (by first | exact True.intro | exact rfl | (unfold inR; omega)) ?_ | refine callX (shown_c) rfl rfl rfl rfl ?_ | refine callX (c5) rfl rfl rfl rfl ?_ | (refine ARun.fin (by first | (intro h; cases h; done) | (intro _; kernel_rfl)) ?_; dsimp only [thenA, blockA, AS.bump, List.length_cons, List.length_nil, reduceIte, Nat.reduceEqDiff]) | (refine awp_skip ?_; dsimp only [thenA, blockA, AS.bump, List.length_cons, List.length_nil, reduceIte, Nat.reduceEqDiff]) | (refine awp_exit ?_; dsimp only [thenA, blockA, AS.bump, List.length_cons, List.length_nil, reduceIte, Nat.reduceEqDiff]) | refine awp_condT rfl (by first | rfl | assumption) ?_ | refine awp_condF rfl (by first | rfl | assumption) ?_ | ((fail_if_success refine ARun.plain rfl ?_); first | refine ARun.knowT rfl rfl rfl (by first | rfl | assumption) ?_ | refine ARun.knowF rfl rfl rfl (by first | rfl | assumption) ?_ | refine ARun.fork rfl rfl rfl (fun h => ?_) (fun h => ?_)) | refine awp_cond rfl (fun h => ?_) (fun h => ?_)))
    exact awp_ret ⟨_, ResL.cons (ResA.tmp (.val _)) .nil, rfl⟩
  have hR := rightQ_iff.1 hr
  have hlen := hR.len
  have hm : (q.ev.map encEv).length ≤ 64 := by rw [List.length_map]; exact hlen
  have c5 := ref_right_c q (by omega)
  rw [hr] at c5
  have c8 := post_c q rank hand arg (by omega) hR.nx
  have ca := hR.take_c
  have hRp := hR.post rank hand arg
  have cp := ref_right_c (postQ q rank hand arg).1 (by have := hRp.len; omega)
  rw [rightQ_yes hRp] at cp
  have hRt := hR.take
  have ct := ref_right_c (takeQ q).2.1 (by have := hRt.len; omega)
  rw [rightQ_yes hRt] at ct
  have cs := ref_same_c q q (by omega)
  rw [sameQ_refl] at cs
  refine FnC.of_awp (T := tt) (ok := tok) Try.func4 (by kernel_rfl) rfl (by kernel_rfl) (closedL_cons (closed_S q rank hand arg) closedL_nil) (fun w0 st0 => ?_)
  dsimp only [frOf]
  have d1 : decide ((0 : Int) < (((q.ev.map encEv).length : Nat) : Int)) = decide (0 < q.ev.length) := by rw [List.length_map]; simp
  have e1 : (((((q.ev ++ [(q.next, rank, hand, arg, 0)]).map encEv).length : Nat) : Int) != (((q.ev.map encEv).length : Nat) : Int) + 1) = false := by simp
  have hidx : ((q.ev ++ [(q.next, rank, hand, arg, 0)]).map encEv)[(((q.ev.map encEv).length : Nat) : Int).toNat]? = some (encEv (q.next, rank, hand, arg, 0)) := by
    rw [Int.toNat_natCast, List.getElem?_map, List.length_map, List.getElem?_append_right (Nat.le_refl _), Nat.sub_self]
    rfl
  have e2 : (!(eqEv (q.next, rank, hand, arg, 0) (q.next, rank, hand, arg, 0))) = false := by rw [eqEv_refl]; rfl
  have e3 : (q.next != q.next) = false := by simp
  by_cases hz : q.ev.length = 0
  · rw [takeQ_none hz] at ca ct
    have d2 : (!(false == decide ((0 : Int) < (((q.ev.map encEv).length : Nat) : Int)))) = false := by rw [d1]; simp [hz]
    rcases postQ_cases q rank hand arg with hp | hp | hp
    all_goals rw [hp] at c8 cp
    all_goals
      (repeat' (first | refine awp_seq ?_ | refine awp_block ?_ | refine awp_region (fun _ => hmix) ?_ | refine ARun.op rfl (by first | exact True.intro | exact rfl | (unfold inR; omega)) ?_ | refine callX (shown_c) rfl rfl rfl rfl ?_ | refine callX (c5) rfl rfl rfl rfl ?_ | refine callX (c8) rfl rfl rfl rfl ?_ | refine callX (ca) rfl rfl rfl rfl ?_ | refine callX (cp) rfl rfl rfl rfl ?_ | refine callX (ct) rfl rfl rfl rfl ?_ | refine callX (cs) rfl rfl rfl rfl ?_ | refine ARun.indexAddr rfl rfl (by omega) hidx rfl rfl rfl rfl rfl (guardF_spec rfl) ?_ | refine neX flat40 rfl rfl rfl rfl rfl ?_ | (refine ARun.fin (by first | (intro h; cases h; done) | (intro _; kernel_rfl)) ?_; dsimp only [thenA, blockA, AS.bump, List.length_cons, List.length_nil, reduceIte, Nat.reduceEqDiff]) | (refine awp_skip ?_; dsimp only [thenA, blockA, AS.bump, List.length_cons, List.length_nil, reduceIte, Nat.reduceEqDiff]) | (refine awp_exit ?_; dsimp only [thenA, blockA, AS.bump, List.length_cons, List.length_nil, reduceIte, Nat.reduceEqDiff]) | refine awp_condT rfl (by first | rfl | assumption) ?_ | refine awp_condF rfl (by first | rfl | assumption) ?_ | ((fail_if_success refine ARun.plain rfl ?_); first | refine ARun.knowT rfl rfl rfl (by first | rfl | assumption) ?_ | refine ARun.knowF rfl rfl rfl (by first | rfl | assumption) ?_ | refine ARun.fork rfl rfl rfl (fun h => ?_) (fun h => ?_)) | refine awp_cond rfl (fun h => ?_) (fun h => ?_)))
      exact awp_ret ⟨_, ResL.cons (ResA.tmp (.val _)) .nil, rfl⟩
  · have hpos : 0 < q.ev.length := by omega
    have d2 : (!(true == decide ((0 : Int) < (((q.ev.map encEv).length : Nat) : Int)))) = false := by rw [d1]; simp [hpos]
    have g1 := takeQ_count hpos
    have g2 := takeQ_gone hR hpos
    have g3 := takeQ_there (q := q) hpos
    obtain ⟨g4, g5⟩ := takeQ_some hpos
    generalize takeQ q = t at *
    obtain ⟨te, tq, ts⟩ := t
    dsimp only at g1 g2 g3 g4 g5 ca ct hRt
    subst g4
    rcases postQ_cases q rank hand arg with hp | hp | hp
    all_goals rw [hp] at c8 cp
    all_goals
      (repeat' (first | refine awp_seq ?_ | refine awp_block ?_ | refine awp_region (fun _ => hmix) ?_ | refine ARun.op rfl (by first | exact True.intro | exact rfl | (unfold inR; omega)) ?_ | refine callX (shown_c) rfl rfl rfl rfl ?_ | refine callX (c5) rfl rfl rfl rfl ?_ | refine callX (c8) rfl rfl rfl rfl ?_ | refine callX (ca) rfl rfl rfl rfl ?_ | refine callX (cp) rfl rfl rfl rfl ?_ | refine callX (ct) rfl rfl rfl rfl ?_ | refine callX (cs) rfl rfl rfl rfl ?_ | refine ARun.indexAddr rfl rfl (by omega) hidx rfl rfl rfl rfl rfl (guardF_spec rfl) ?_ | refine neX flat40 rfl rfl rfl rfl rfl ?_ | (refine ARun.fin (by first | (intro h; cases h; done) | (intro _; kernel_rfl)) ?_; dsimp only [thenA, blockA, AS.bump, List.length_cons, List.length_nil, reduceIte, Nat.reduceEqDiff]) | (refine awp_skip ?_; dsimp only [thenA, blockA, AS.bump, List.length_cons, List.length_nil, reduceIte, Nat.reduceEqDiff]) | (refine awp_exit ?_; dsimp only [thenA, blockA, AS.bump, List.length_cons, List.length_nil, reduceIte, Nat.reduceEqDiff]) | refine awp_condT rfl (by first | rfl | assumption) ?_ | refine awp_condF rfl (by first | rfl | assumption) ?_ | ((fail_if_success refine ARun.plain rfl ?_); first | refine ARun.knowT rfl rfl rfl (by first | rfl | assumption) ?_ | refine ARun.knowF rfl rfl rfl (by first | rfl | assumption) ?_ | refine ARun.fork rfl rfl rfl (fun h => ?_) (fun h => ?_)) | refine awp_cond rfl (fun h => ?_) (fun h => ?_)))
      clear c5 c8 ca cp ct cs hidx e1 e2 e3 hp hRp d2
      refine awp_loopT (T := Nat × Nat) (fun t => ⟨[(2, .val (.bool false)), (3, .ptr 3 4 0 0), (7, .val (.bool true)), (11, .ptr 11 39 0 0), (12, .ptr 12 40 0 0), (14, .val (.bool (thereUp q.ev te t.1))), (15, .val (.int .i64 (t.1 : Nat)))], [(3, some ⟨4, 4, [encQ q]⟩), (11, some ⟨39, 5, [encEv te]⟩), (12, some ⟨40, 4, [encQ tq]⟩)], t.2⟩)
        (fun t => t.1 ≤ q.ev.length) (fun t => q.ev.length - t.1) (0, _) (Nat.zero_le _) ⟨⟨rfl, rfl, rfl, rfl, rfl, rfl, rfl, trivial⟩, ⟨rfl, rfl, rfl, trivial⟩, Nat.le_refl _⟩ (fun t ht => ?_)
      obtain ⟨k, gc⟩ := t
      dsimp only at ht ⊢
      by_cases hlt : k < q.ev.length
      · have h1 : q.ev[k]? = some q.ev[k] := List.getElem?_eq_getElem hlt
        have hc : decide (((k : Nat) : Int) < (((q.ev.map encEv).length : Nat) : Int)) = true := by rw [List.length_map]; simp; omega
        have hs : thereUp q.ev te (k + 1) = (thereUp q.ev te k || eqEv q.ev[k] te) := by rw [thereUp, h1]; rfl
        (repeat' (first | refine awp_seq ?_ | refine awp_block ?_ | refine awp_region (fun _ => hmix) ?_ | refine ARun.op rfl (by first | exact True.intro | exact rfl | (unfold inR; omega)) ?_ | refine ARun.indexAddr rfl rfl (by omega) (by first | with_reducible exact get_map h1 | with_reducible exact get_map h1) rfl rfl rfl rfl rfl (guardF_spec rfl) ?_ | refine eqX flat40 rfl rfl rfl rfl rfl ?_ | (refine ARun.fin (by first | (intro h; cases h; done) | (intro _; kernel_rfl)) ?_; dsimp only [thenA, blockA, AS.bump, List.length_cons, List.length_nil, reduceIte, Nat.reduceEqDiff]) | (refine awp_skip ?_; dsimp only [thenA, blockA, AS.bump, List.length_cons, List.length_nil, reduceIte, Nat.reduceEqDiff]) | (refine awp_exit ?_; dsimp only [thenA, blockA, AS.bump, List.length_cons, List.length_nil, reduceIte, Nat.reduceEqDiff]) | refine awp_condT rfl (by first | rfl | assumption) ?_ | refine awp_condF rfl (by first | rfl | assumption) ?_ | ((fail_if_success refine ARun.plain rfl ?_); first | refine ARun.knowT rfl rfl rfl (by first | rfl | assumption) ?_ | refine ARun.knowF rfl rfl rfl (by first | rfl | assumption) ?_ | refine ARun.fork rfl rfl rfl (fun h => ?_) (fun h => ?_)) | refine awp_cond rfl (fun h => ?_) (fun h => ?_)))
        · exact ⟨(k + 1, _), ⟨⟨rfl, rfl, rfl, rfl, rfl, by dsimp only; rw [hs, h]; rfl, succI k, trivial⟩, ⟨rfl, rfl, rfl, trivial⟩, Nat.le_refl _⟩, hlt, by dsimp only; omega⟩
        · exact ⟨(k + 1, _), ⟨⟨rfl, rfl, rfl, rfl, rfl, by dsimp only; rw [hs, h]; rfl, succI k, trivial⟩, ⟨rfl, rfl, rfl, trivial⟩, Nat.le_refl _⟩, hlt, by dsimp only; omega⟩
      · have hc : decide (((k : Nat) : Int) < (((q.ev.map encEv).length : Nat) : Int)) = false := by rw [List.length_map]; simp; omega
        have hk : k = q.ev.length := by omega
        subst hk
        (repeat' (first | refine awp_seq ?_ | refine awp_block ?_ | refine awp_region (fun _ => hmix) ?_ | refine ARun.op rfl (by first | exact True.intro | exact rfl | (unfold inR; omega)) ?_ | (refine ARun.fin (by first | (intro h; cases h; done) | (intro _; kernel_rfl)) ?_; dsimp only [thenA, blockA, AS.bump, List.length_cons, List.length_nil, reduceIte, Nat.reduceEqDiff]) | (refine awp_skip ?_; dsimp only [thenA, blockA, AS.bump, List.length_cons, List.length_nil, reduceIte, Nat.reduceEqDiff]) | (refine awp_exit ?_; dsimp only [thenA, blockA, AS.bump, List.length_cons, List.length_nil, reduceIte, Nat.reduceEqDiff]) | refine awp_condT rfl (by first | rfl | assumption) ?_ | refine awp_condF rfl (by first | rfl | assumption) ?_ | ((fail_if_success refine ARun.plain rfl ?_); first | refine ARun.knowT rfl rfl rfl (by first | rfl | assumption) ?_ | refine ARun.knowF rfl rfl rfl (by first | rfl | assumption) ?_ | refine ARun.fork rfl rfl rfl (fun h => ?_) (fun h => ?_)) | refine awp_cond rfl (fun h => ?_) (fun h => ?_)))
        rw [g3]
        refine awp_loopT (T := Nat × Nat) (fun t => ⟨[(2, .val (.bool false)), (3, .ptr 3 4 0 0), (7, .val (.bool true)), (11, .ptr 11 39 0 0), (12, .ptr 12 40 0 0), (14, .val (.bool true)), (16, .val (.int .i64 (t.1 : Nat)))], [(3, some ⟨4, 4, [encQ q]⟩), (11, some ⟨39, 5, [encEv te]⟩), (12, some ⟨40, 4, [encQ tq]⟩)], t.2⟩)
          (fun t => t.1 ≤ tq.ev.length) (fun t => tq.ev.length - t.1) (0, _) (Nat.zero_le _) ⟨⟨rfl, rfl, rfl, rfl, rfl, rfl, rfl, trivial⟩, ⟨rfl, rfl, rfl, trivial⟩, Nat.le_refl _⟩ (fun t ht => ?_)
        clear hc
        obtain ⟨k, gc⟩ := t
        dsimp only at ht ⊢
        by_cases hlt : k < tq.ev.length
        · have h1 : tq.ev[k]? = some tq.ev[k] := List.getElem?_eq_getElem hlt
          have hc : decide (((k : Nat) : Int) < (((tq.ev.map encEv).length : Nat) : Int)) = true := by rw [List.length_map]; simp; omega
          have hg : (tq.ev[k].1 == te.1) = false := by simpa using g2 _ (List.getElem_mem hlt)
          (repeat' (first | refine awp_seq ?_ | refine awp_block ?_ | refine awp_region (fun _ => hmix) ?_ | refine ARun.op rfl (by first | exact True.intro | exact rfl | (unfold inR; omega)) ?_ | refine ARun.indexAddr rfl rfl (by omega) (by first | with_reducible exact get_map h1 | with_reducible exact get_map h1) rfl rfl rfl rfl rfl (guardF_spec rfl) ?_ | (refine ARun.fin (by first | (intro h; cases h; done) | (intro _; kernel_rfl)) ?_; dsimp only [thenA, blockA, AS.bump, List.length_cons, List.length_nil, reduceIte, Nat.reduceEqDiff]) | (refine awp_skip ?_; dsimp only [thenA, blockA, AS.bump, List.length_cons, List.length_nil, reduceIte, Nat.reduceEqDiff]) | (refine awp_exit ?_; dsimp only [thenA, blockA, AS.bump, List.length_cons, List.length_nil, reduceIte, Nat.reduceEqDiff]) | refine awp_condT rfl (by first | rfl | assumption) ?_ | refine awp_condF rfl (by first | rfl | assumption) ?_ | ((fail_if_success refine ARun.plain rfl ?_); first | refine ARun.knowT rfl rfl rfl (by first | rfl | assumption) ?_ | refine ARun.knowF rfl rfl rfl (by first | rfl | assumption) ?_ | refine ARun.fork rfl rfl rfl (fun h => ?_) (fun h => ?_)) | refine awp_cond rfl (fun h => ?_) (fun h => ?_)))
          exact ⟨(k + 1, _), ⟨⟨rfl, rfl, rfl, rfl, rfl, rfl, succI k, trivial⟩, ⟨rfl, rfl, rfl, trivial⟩, Nat.le_refl _⟩, hlt, by dsimp only; omega⟩
        · have hc : decide (((k : Nat) : Int) < (((tq.ev.map encEv).length : Nat) : Int)) = false := by rw [List.length_map]; simp; omega
          have hl : ((((tq.ev.map encEv).length : Nat) : Int) == (((q.ev.map encEv).length : Nat) : Int) - 1) = true := by rw [List.length_map, List.length_map, g1]; simp; omega
          have hn : (tq.next == q.next) = true := by rw [g5]; simp
          (repeat' (first | refine awp_seq ?_ | refine awp_block ?_ | refine awp_region (fun _ => hmix) ?_ | refine ARun.op rfl (by first | exact True.intro | exact rfl | (unfold inR; omega)) ?_ | (refine ARun.fin (by first | (intro h; cases h; done) | (intro _; kernel_rfl)) ?_; dsimp only [thenA, blockA, AS.bump, List.length_cons, List.length_nil, reduceIte, Nat.reduceEqDiff]) | (refine awp_skip ?_; dsimp only [thenA, blockA, AS.bump, List.length_cons, List.length_nil, reduceIte, Nat.reduceEqDiff]) | (refine awp_exit ?_; dsimp only [thenA, blockA, AS.bump, List.length_cons, List.length_nil, reduceIte, Nat.reduceEqDiff]) | refine awp_condT rfl (by first | rfl | assumption) ?_ | refine awp_condF rfl (by first | rfl | assumption) ?_ | ((fail_if_success refine ARun.plain rfl ?_); first | refine ARun.knowT rfl rfl rfl (by first | rfl | assumption) ?_ | refine ARun.knowF rfl rfl rfl (by first | rfl | assumption) ?_ | refine ARun.fork rfl rfl rfl (fun h => ?_) (fun h => ?_)) | refine awp_cond rfl (fun h => ?_) (fun h => ?_)))
          refine awp_ret ⟨_, ResL.cons (ResA.tmp (.val _)) .nil, ?_⟩
          show AV.val _ = AV.val _
          rw [hn]
end Go.Proofs.Ytpolenndeeaodab
