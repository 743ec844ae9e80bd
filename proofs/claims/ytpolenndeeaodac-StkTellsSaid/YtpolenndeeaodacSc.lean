/- stk: StkTells returns true. -/
import Derived.Test.YtpolenndeeaodacSb
namespace Go.Proofs.Ytpolenndeeaodac
set_option linter.unusedVariables false
set_option linter.unusedSimpArgs false
open Go Go.RowKit
set_option maxRecDepth 100000
attribute [local irreducible] Decidable.decide awp ARun regK toK

theorem pushD_len (s : List Int) (n limit : Int) : (pushD s n limit).1.length ≤ s.length + 1 := by
  unfold pushD
  split
  · exact Nat.le_succ _
  · simp
theorem popD_len (s : List Int) : (popD s).2.1.length ≤ s.length := by
  unfold popD
  split <;> simp
set_option maxHeartbeats 4000000 in
theorem tells_c (s : List Int) (n limit : Int) (nm : ByteArray) : FnC Try.prog 3 [.agg [.sl 1 false (s.map encI), .val (.int .i64 n), .val (.int .i64 limit), .val (.string nm)]] (.val (.bool true)) := by
  have c0 := shown_c
  refine FnC.of_awp (T := tt) (ok := tok) Try.func3 (by kernel_rfl) rfl (by kernel_rfl) (closedL_cons (.agg (closedL_cons (closed_s s) (closedL_cons (.val _) (closedL_cons (.val _) (closedL_cons (.val _) closedL_nil))))) closedL_nil) (fun w0 st0 => ?_)
  dsimp only [frOf]
  by_cases hl : (60 : Int) < (((s.map encI).length : Nat) : Int)
  · have h1 : decide ((60 : Int) < (((s.map encI).length : Nat) : Int)) = true := by rw [decide_eq_true_eq]; exact hl
    (repeat' (first | refine awp_seq ?_ | refine awp_block ?_ | refine awp_region (fun _ => hmix) ?_ | refine ARun.op rfl (by first | exact True.intro | exact rfl | (unfold inR; omega) | omega | (unfold inR; simp only [List.length_map, List.length_append, List.length_take, List.length_drop, List.length_cons, List.length_nil] at *; omega)) ?_ | refine callX (c0) rfl rfl rfl rfl ?_ | (refine ARun.fin (by first | (intro h; cases h; done) | (intro _; kernel_rfl)) ?_; dsimp only [thenA, blockA, AS.bump, List.length_cons, List.length_nil, reduceIte, Nat.reduceEqDiff]) | (refine awp_skip ?_; dsimp only [thenA, blockA, AS.bump, List.length_cons, List.length_nil, reduceIte, Nat.reduceEqDiff]) | (refine awp_exit ?_; dsimp only [thenA, blockA, AS.bump, List.length_cons, List.length_nil, reduceIte, Nat.reduceEqDiff]) | refine awp_condT rfl (by first | rfl | assumption) ?_ | refine awp_condF rfl (by first | rfl | assumption) ?_ | ((fail_if_success refine ARun.plain rfl ?_); first | refine ARun.knowT rfl rfl rfl (by first | rfl | assumption) ?_ | refine ARun.knowF rfl rfl rfl (by first | rfl | assumption) ?_ | refine ARun.fork rfl rfl rfl (fun h => ?_) (fun h => ?_)) | refine awp_cond rfl (fun h => ?_) (fun h => ?_)))
    refine awp_ret ⟨_, ResL.cons (ResA.tmp (.val _)) .nil, rfl⟩
  have h1 : decide ((60 : Int) < (((s.map encI).length : Nat) : Int)) = false := by rw [decide_eq_false_iff_not]; exact hl
  rw [List.length_map] at hl
  by_cases hn : (20 : Int) < ((nm.size : Nat) : Int)
  · have h2 : decide ((20 : Int) < ((nm.size : Nat) : Int)) = true := by rw [decide_eq_true_eq]; exact hn
    (repeat' (first | refine awp_seq ?_ | refine awp_block ?_ | refine awp_region (fun _ => hmix) ?_ | refine ARun.op rfl (by first | exact True.intro | exact rfl | (unfold inR; omega) | omega | (unfold inR; simp only [List.length_map, List.length_append, List.length_take, List.length_drop, List.length_cons, List.length_nil] at *; omega)) ?_ | refine callX (c0) rfl rfl rfl rfl ?_ | (refine ARun.fin (by first | (intro h; cases h; done) | (intro _; kernel_rfl)) ?_; dsimp only [thenA, blockA, AS.bump, List.length_cons, List.length_nil, reduceIte, Nat.reduceEqDiff]) | (refine awp_skip ?_; dsimp only [thenA, blockA, AS.bump, List.length_cons, List.length_nil, reduceIte, Nat.reduceEqDiff]) | (refine awp_exit ?_; dsimp only [thenA, blockA, AS.bump, List.length_cons, List.length_nil, reduceIte, Nat.reduceEqDiff]) | refine awp_condT rfl (by first | rfl | assumption) ?_ | refine awp_condF rfl (by first | rfl | assumption) ?_ | ((fail_if_success refine ARun.plain rfl ?_); first | refine ARun.knowT rfl rfl rfl (by first | rfl | assumption) ?_ | refine ARun.knowF rfl rfl rfl (by first | rfl | assumption) ?_ | refine ARun.fork rfl rfl rfl (fun h => ?_) (fun h => ?_)) | refine awp_cond rfl (fun h => ?_) (fun h => ?_)))
    refine awp_ret ⟨_, ResL.cons (ResA.tmp (.val _)) .nil, rfl⟩
  have h2 : decide ((20 : Int) < ((nm.size : Nat) : Int)) = false := by rw [decide_eq_false_iff_not]; exact hn
  clear hn
  have p1 := push_c s n limit (by omega)
  have p2 := ref_push_c s n limit (by omega)
  have p3 := pop_c s (by omega)
  have p4 := ref_pop_c s (by omega)
  have l1 := pushD_len s n limit
  have l2 := popD_len s
  have p5 := same_c (pushD s n limit).1 (pushD s n limit).1 (by omega) (by omega)
  have p6 := same_c (popD s).2.1 (popD s).2.1 (by omega) (by omega)
  rw [same_refl] at p5 p6
  have e1 : ((pushD s n limit).2 != (pushD s n limit).2) = false := by simp
  have e2 : ((popD s).1 != (popD s).1) = false := by simp
  have e3 : ((popD s).2.2 != (popD s).2.2) = false := by simp
  have p7 := names_c
  have hnm : nms.length = 16 := rfl
  have b1 : -100 ≤ (pushD s n limit).2 ∧ (pushD s n limit).2 ≤ 100 := by unfold pushD; split <;> simp
  have b2 : -100 ≤ (popD s).2.2 ∧ (popD s).2.2 ≤ 100 := by unfold popD; split <;> simp
  (repeat' (first | refine awp_seq ?_ | refine awp_block ?_ | refine awp_region_ne 15 rfl (fun _ => hmix) ?_ | refine ARun.op rfl (by first | exact True.intro | exact rfl | (unfold inR; omega) | omega | (unfold inR; simp only [List.length_map, List.length_append, List.length_take, List.length_drop, List.length_cons, List.length_nil] at *; omega)) ?_ | refine callX (c0) rfl rfl rfl rfl ?_ | refine callX (p1) rfl rfl rfl rfl ?_ | refine callX (p2) rfl rfl rfl rfl ?_ | refine callX (p3) rfl rfl rfl rfl ?_ | refine callX (p4) rfl rfl rfl rfl ?_ | refine callX (p5) rfl rfl rfl rfl ?_ | refine callX (p6) rfl rfl rfl rfl ?_ | refine callX (p7) rfl rfl rfl rfl ?_ | refine ARun.append_fullS rfl (by first | exact SrcA.sl rfl (.inr rfl) | exact SrcA.sl rfl (.inl rfl) | exact SrcA.ownW rfl rfl rfl rfl) rfl rfl rfl (by first | exact .inr rfl | exact .inl rfl | (right; simp; done)) (by first | exact .inr rfl | exact .inl rfl | (right; simp; done)) rfl rfl (by (try dsimp only [maxLen]); (try simp only [List.length_append, List.length_map, List.length_take, List.length_drop, List.length_replicate, List.length_cons, List.length_nil, maxLen] at *); (try simp only [List.length_append, List.length_map, List.length_take, List.length_drop, List.length_replicate, List.length_cons, List.length_nil, maxLen]); omega) (by (try dsimp only [maxLen]); (try simp only [List.length_append, List.length_map, List.length_take, List.length_drop, List.length_replicate, List.length_cons, List.length_nil, maxLen] at *); (try simp only [List.length_append, List.length_map, List.length_take, List.length_drop, List.length_replicate, List.length_cons, List.length_nil, maxLen]); omega) rfl (guardF_spec rfl) ?_ | (refine ARun.fin (by first | (intro h; cases h; done) | (intro _; kernel_rfl)) ?_; dsimp only [thenA, blockA, AS.bump, List.length_cons, List.length_nil, reduceIte, Nat.reduceEqDiff]) | (refine awp_skip ?_; dsimp only [thenA, blockA, AS.bump, List.length_cons, List.length_nil, reduceIte, Nat.reduceEqDiff]) | (refine awp_exit ?_; dsimp only [thenA, blockA, AS.bump, List.length_cons, List.length_nil, reduceIte, Nat.reduceEqDiff]) | refine awp_condT rfl (by first | rfl | assumption) ?_ | refine awp_condF rfl (by first | rfl | assumption) ?_ | ((fail_if_success refine ARun.plain rfl ?_); first | refine ARun.knowT rfl rfl rfl (by first | rfl | assumption) ?_ | refine ARun.knowF rfl rfl rfl (by first | rfl | assumption) ?_ | refine ARun.fork rfl rfl rfl (fun h => ?_) (fun h => ?_)) | refine awp_cond rfl (fun h => ?_) (fun h => ?_)))
  have hL : (nms.map encStr) ++ [[.val (.string nm)]] = (nms ++ [nm]).map encStr := by simp [encStr]
  generalize hLe : nms ++ [nm] = L at hL
  have hLl : L.length = 17 := by rw [← hLe]; simp [hnm]
  clear hLe p1 p2 p3 p4 p5 p6 p7 l1 l2 e1 e2 e3 b1 b2
  refine awp_freeze 98 _ 1 (L.map encStr) (by rw [← hL]; rfl) (own_closed_map encStr_closed) (fr' := [(18, .sl 1 false (L.map encStr)), (2, .val (.bool false)), (3, .sl 1 false (s.map encI)), (5, .val (.int .i64 limit)), (7, .val (.bool true))]) (hp' := []) ⟨.inr ⟨_, rfl, by rw [← hL], rfl⟩, .inl rfl, .inl rfl, .inl rfl, .inl rfl, trivial⟩ trivial ?_
  (repeat' (first | refine awp_seq ?_ | refine awp_block ?_ | refine awp_region (fun _ => hmix) ?_ | refine ARun.op rfl (by first | exact True.intro | exact rfl | (unfold inR; omega) | omega | (unfold inR; simp only [List.length_map, List.length_append, List.length_take, List.length_drop, List.length_cons, List.length_nil] at *; omega)) ?_ | (refine ARun.fin (by first | (intro h; cases h; done) | (intro _; kernel_rfl)) ?_; dsimp only [thenA, blockA, AS.bump, List.length_cons, List.length_nil, reduceIte, Nat.reduceEqDiff]) | (refine awp_skip ?_; dsimp only [thenA, blockA, AS.bump, List.length_cons, List.length_nil, reduceIte, Nat.reduceEqDiff]) | (refine awp_exit ?_; dsimp only [thenA, blockA, AS.bump, List.length_cons, List.length_nil, reduceIte, Nat.reduceEqDiff]) | refine awp_condT rfl (by first | rfl | assumption) ?_ | refine awp_condF rfl (by first | rfl | assumption) ?_ | ((fail_if_success refine ARun.plain rfl ?_); first | refine ARun.knowT rfl rfl rfl (by first | rfl | assumption) ?_ | refine ARun.knowF rfl rfl rfl (by first | rfl | assumption) ?_ | refine ARun.fork rfl rfl rfl (fun h => ?_) (fun h => ?_)) | refine awp_cond rfl (fun h => ?_) (fun h => ?_)))
  refine awp_loopT (T := Nat × Nat) (fun t => ⟨[(18, .sl 1 false (L.map encStr)), (19, .val (.int .i64 (t.1 : Nat))), (2, .val (.bool false)), (3, .sl 1 false (s.map encI)), (5, .val (.int .i64 limit)), (7, .val (.bool true))], [], t.2⟩)
    (fun t => t.1 ≤ L.length) (fun t => L.length - t.1) (0, _) (Nat.zero_le _) ⟨⟨rfl, rfl, rfl, rfl, rfl, rfl, trivial⟩, trivial, Nat.le_refl _⟩ (fun t ht => ?_)
  obtain ⟨k, gc⟩ := t
  dsimp only at ht ⊢
  by_cases hlt : k < L.length
  · have h1 : L[k]? = some L[k] := List.getElem?_eq_getElem hlt
    have hc : decide (((k : Nat) : Int) < (((L.map encStr).length : Nat) : Int)) = true := by rw [List.length_map]; simp; omega
    generalize L[k] = x at h1
    obtain ⟨⟨r1, r2, r3⟩, hr, q1, q2⟩ := both_any x s limit (by omega)
    simp only at hr
    have q3 := same_c r1 r1 (by omega) (by omega)
    rw [same_refl] at q3
    have e1 : (!(r2 == r2)) = false := by simp
    have e2 : (r3 != r3) = false := by simp
    (repeat' (first | refine awp_seq ?_ | refine awp_block ?_ | refine awp_region (fun _ => hmix) ?_ | refine ARun.op rfl (by first | exact True.intro | exact rfl | (unfold inR; omega) | omega | (unfold inR; simp only [List.length_map, List.length_append, List.length_take, List.length_drop, List.length_cons, List.length_nil] at *; omega)) ?_ | refine ARun.indexAddr rfl rfl (by omega) (by first | with_reducible exact get_map h1 | with_reducible exact get_map h1) rfl rfl rfl rfl rfl (guardF_spec rfl) ?_ | refine callX (q1) rfl rfl rfl rfl ?_ | refine callX (q2) rfl rfl rfl rfl ?_ | refine callX (q3) rfl rfl rfl rfl ?_ | (refine ARun.fin (by first | (intro h; cases h; done) | (intro _; kernel_rfl)) ?_; dsimp only [thenA, blockA, AS.bump, List.length_cons, List.length_nil, reduceIte, Nat.reduceEqDiff]) | (refine awp_skip ?_; dsimp only [thenA, blockA, AS.bump, List.length_cons, List.length_nil, reduceIte, Nat.reduceEqDiff]) | (refine awp_exit ?_; dsimp only [thenA, blockA, AS.bump, List.length_cons, List.length_nil, reduceIte, Nat.reduceEqDiff]) | refine awp_condT rfl (by first | rfl | assumption) ?_ | refine awp_condF rfl (by first | rfl | assumption) ?_ | ((fail_if_success refine ARun.plain rfl ?_); first | refine ARun.knowT rfl rfl rfl (by first | rfl | assumption) ?_ | refine ARun.knowF rfl rfl rfl (by first | rfl | assumption) ?_ | refine ARun.fork rfl rfl rfl (fun h => ?_) (fun h => ?_)) | refine awp_cond rfl (fun h => ?_) (fun h => ?_)))
    exact ⟨(k + 1, _), ⟨⟨rfl, succI k, rfl, rfl, rfl, rfl, trivial⟩, trivial, Nat.le_refl _⟩, hlt, (by dsimp only; omega)⟩
  · have hk : k = L.length := by omega
    subst hk
    have hc : decide (((L.length : Nat) : Int) < (((L.map encStr).length : Nat) : Int)) = false := by rw [List.length_map]; simp
    (repeat' (first | refine awp_seq ?_ | refine awp_block ?_ | refine awp_region (fun _ => hmix) ?_ | refine ARun.op rfl (by first | exact True.intro | exact rfl | (unfold inR; omega) | omega | (unfold inR; simp only [List.length_map, List.length_append, List.length_take, List.length_drop, List.length_cons, List.length_nil] at *; omega)) ?_ | (refine ARun.fin (by first | (intro h; cases h; done) | (intro _; kernel_rfl)) ?_; dsimp only [thenA, blockA, AS.bump, List.length_cons, List.length_nil, reduceIte, Nat.reduceEqDiff]) | (refine awp_skip ?_; dsimp only [thenA, blockA, AS.bump, List.length_cons, List.length_nil, reduceIte, Nat.reduceEqDiff]) | (refine awp_exit ?_; dsimp only [thenA, blockA, AS.bump, List.length_cons, List.length_nil, reduceIte, Nat.reduceEqDiff]) | refine awp_condT rfl (by first | rfl | assumption) ?_ | refine awp_condF rfl (by first | rfl | assumption) ?_ | ((fail_if_success refine ARun.plain rfl ?_); first | refine ARun.knowT rfl rfl rfl (by first | rfl | assumption) ?_ | refine ARun.knowF rfl rfl rfl (by first | rfl | assumption) ?_ | refine ARun.fork rfl rfl rfl (fun h => ?_) (fun h => ?_)) | refine awp_cond rfl (fun h => ?_) (fun h => ?_)))
    refine awp_ret ⟨_, ResL.cons (ResA.tmp (.val _)) .nil, rfl⟩
end Go.Proofs.Ytpolenndeeaodac
