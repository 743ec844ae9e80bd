/- mem: Back. -/
import Derived.Test.YtpdnbhimmfhaaaamQ3
namespace Go.Proofs.Ytpdnbhimmfhaaaa
set_option linter.unusedVariables false
set_option linter.unusedSimpArgs false
open Go Go.RowKit
set_option maxRecDepth 100000
attribute [local irreducible] Decidable.decide awp ARun regK toK

def undoL (b : List UInt8) (l : List Pt) : List UInt8 := l.foldl (fun b p => overL b p.1.toNat p.2) b
theorem overL_nil {α : Type} (b : List α) (a : Nat) : overL b a [] = b := by unfold overL; simp
theorem undoL_step (b : List UInt8) (l : List Pt) (i : Nat) (p : Pt) (h : l[i]? = some p) : undoL b (l.take (i + 1)) = overL (undoL b (l.take i)) p.1.toNat p.2 := by
  unfold undoL
  rw [take_succ' h, List.foldl_append]
  rfl
def OldIn (n : Nat) (l : List Pt) : Prop := ∀ p, p ∈ l → thereD n p.1 p.2.length = true
theorem overL_len_in (b : List UInt8) (p : Pt) (h : thereD b.length p.1 p.2.length = true) : (overL b p.1.toNat p.2).length = b.length := by
  by_cases h0 : p.2 = []
  · rw [h0, overL_nil]
  · have := there_yes h (by have := List.length_pos_iff.2 h0; omega)
    exact overL_length (by omega)
theorem undoL_len (l : List Pt) : ∀ b : List UInt8, OldIn b.length l → (undoL b l).length = b.length := by
  induction l with
  | nil => intro b _; rfl
  | cons p l ih =>
    intro b h
    have h1 := overL_len_in b p (h p (by simp))
    show (undoL (overL b p.1.toNat p.2) l).length = _
    rw [ih _ (fun q hq => by rw [h1]; exact h q (by simp [hq])), h1]
def backD (m : Mm) (mark : Int) : Mm × Int := if mark < 0 ∨ (m.old.length : Int) < mark then (m, -24) else (⟨undoL m.b (behind m mark.toNat), m.old.take mark.toNat⟩, 0)
theorem behind_in {m : Mm} {k : Nat} (h : OldIn m.b.length m.old) : OldIn m.b.length (behind m k) := fun p hp => h p (by
  unfold behind at hp
  rw [List.mem_reverse] at hp
  exact List.mem_of_mem_drop hp)
set_option maxHeartbeats 4000000 in
theorem back_c (m : Mm) (mark : Int) (hl : m.b.length ≤ 1000000) (ho : m.old.length ≤ 1000000) (hr : OldIn m.b.length m.old) : FnC Try.prog 13 [.agg (encM m), .val (.int .i64 mark)] (enc2m (backD m mark)) := by
  refine FnC.of_awp (T := tt) (ok := tok) Try.func13 (by kernel_rfl) rfl (by kernel_rfl) (closedL_cons (closed_m m) (closedL_cons (.val _) closedL_nil)) (fun w0 st0 => ?_)
  dsimp only [frOf]
  have elen : (((m.old.map encP).length : Nat) : Int) = (m.old.length : Int) := by rw [List.length_map]
  by_cases h1 : mark < 0
  · have d1 : decide (mark < 0) = true := decide_eq_true h1
    rw [show backD m mark = (m, -24) from if_pos (.inl h1)]
    (repeat' (first | refine awp_seq ?_ | refine awp_block ?_ | refine awp_region (fun _ => hmix) ?_ | refine ARun.op rfl (by first | exact True.intro | exact rfl | (unfold inR; omega) | omega | (unfold inR; simp only [List.length_map, List.length_append, List.length_take, List.length_drop, List.length_replicate, List.length_cons, List.length_nil] at *; omega) | ((try unfold inR); simp only [decide_eq_true_eq, decide_eq_false_iff_not, beq_iff_eq, beq_eq_false_iff_ne, ne_eq, Bool.not_eq_true', Bool.not_eq_false', List.length_map, List.length_append, List.length_take, List.length_drop, List.length_replicate, List.length_cons, List.length_nil] at *; omega)) ?_ | (refine ARun.fin (by first | (intro h; cases h; done) | (intro _; kernel_rfl)) ?_; dsimp only [thenA, blockA, AS.bump, List.length_cons, List.length_nil, reduceIte, Nat.reduceEqDiff]) | (refine awp_skip ?_; dsimp only [thenA, blockA, AS.bump, List.length_cons, List.length_nil, reduceIte, Nat.reduceEqDiff]) | (refine awp_exit ?_; dsimp only [thenA, blockA, AS.bump, List.length_cons, List.length_nil, reduceIte, Nat.reduceEqDiff]) | refine awp_condT rfl (by first | rfl | assumption | exact beq_int _ | exact bne_int _) ?_ | refine awp_condF rfl (by first | rfl | assumption | exact beq_int _ | exact bne_int _) ?_ | ((fail_if_success refine ARun.plain rfl ?_); first | refine ARun.knowT rfl rfl rfl (by first | rfl | assumption | exact beq_int _ | exact bne_int _) ?_ | refine ARun.knowF rfl rfl rfl (by first | rfl | assumption | exact beq_int _ | exact bne_int _) ?_ | refine ARun.fork rfl rfl rfl (fun h => ?_) (fun h => ?_)) | refine awp_cond rfl (fun h => ?_) (fun h => ?_)))
    exact awp_ret ⟨_, (ResL.cons (ResA.agg rfl rfl rfl rfl rfl rfl rfl (RL.cons (.closed _ (closed_bs _)) (RL.cons (.closed _ (closed_map encP_closed)) (RL.nil _)))) (ResL.cons (ResA.tmp (.val _)) .nil)), rfl⟩
  · have d1 : decide (mark < 0) = false := decide_eq_false h1
    by_cases h2 : (m.old.length : Int) < mark
    · have d2 : decide ((((m.old.map encP).length : Nat) : Int) < mark) = true := decide_eq_true (by omega)
      rw [show backD m mark = (m, -24) from if_pos (.inr h2)]
      (repeat' (first | refine awp_seq ?_ | refine awp_block ?_ | refine awp_region (fun _ => hmix) ?_ | refine ARun.op rfl (by first | exact True.intro | exact rfl | (unfold inR; omega) | omega | (unfold inR; simp only [List.length_map, List.length_append, List.length_take, List.length_drop, List.length_replicate, List.length_cons, List.length_nil] at *; omega) | ((try unfold inR); simp only [decide_eq_true_eq, decide_eq_false_iff_not, beq_iff_eq, beq_eq_false_iff_ne, ne_eq, Bool.not_eq_true', Bool.not_eq_false', List.length_map, List.length_append, List.length_take, List.length_drop, List.length_replicate, List.length_cons, List.length_nil] at *; omega)) ?_ | (refine ARun.fin (by first | (intro h; cases h; done) | (intro _; kernel_rfl)) ?_; dsimp only [thenA, blockA, AS.bump, List.length_cons, List.length_nil, reduceIte, Nat.reduceEqDiff]) | (refine awp_skip ?_; dsimp only [thenA, blockA, AS.bump, List.length_cons, List.length_nil, reduceIte, Nat.reduceEqDiff]) | (refine awp_exit ?_; dsimp only [thenA, blockA, AS.bump, List.length_cons, List.length_nil, reduceIte, Nat.reduceEqDiff]) | refine awp_condT rfl (by first | rfl | assumption | exact beq_int _ | exact bne_int _) ?_ | refine awp_condF rfl (by first | rfl | assumption | exact beq_int _ | exact bne_int _) ?_ | ((fail_if_success refine ARun.plain rfl ?_); first | refine ARun.knowT rfl rfl rfl (by first | rfl | assumption | exact beq_int _ | exact bne_int _) ?_ | refine ARun.knowF rfl rfl rfl (by first | rfl | assumption | exact beq_int _ | exact bne_int _) ?_ | refine ARun.fork rfl rfl rfl (fun h => ?_) (fun h => ?_)) | refine awp_cond rfl (fun h => ?_) (fun h => ?_)))
      exact awp_ret ⟨_, (ResL.cons (ResA.agg rfl rfl rfl rfl rfl rfl rfl (RL.cons (.closed _ (closed_bs _)) (RL.cons (.closed _ (closed_map encP_closed)) (RL.nil _)))) (ResL.cons (ResA.tmp (.val _)) .nil)), rfl⟩
    · have d2 : decide ((((m.old.map encP).length : Nat) : Int) < mark) = false := decide_eq_false (by omega)
      obtain ⟨k, rfl⟩ : ∃ k : Nat, mark = (k : Int) := ⟨mark.toNat, by omega⟩
      rw [show backD m (k : Int) = (⟨undoL m.b (behind m k), m.old.take k⟩, 0) by unfold backD; rw [if_neg (by omega), Int.toNat_natCast]]
      have c1 := bclone_o m.b hl
      have c2 := since_c m k
      (repeat' (first | refine awp_seq ?_ | refine awp_block ?_ | refine awp_region (fun _ => hmix) ?_ | refine ARun.op rfl (by first | exact True.intro | exact rfl | (unfold inR; omega) | omega | (unfold inR; simp only [List.length_map, List.length_append, List.length_take, List.length_drop, List.length_replicate, List.length_cons, List.length_nil] at *; omega) | ((try unfold inR); simp only [decide_eq_true_eq, decide_eq_false_iff_not, beq_iff_eq, beq_eq_false_iff_ne, ne_eq, Bool.not_eq_true', Bool.not_eq_false', List.length_map, List.length_append, List.length_take, List.length_drop, List.length_replicate, List.length_cons, List.length_nil] at *; omega)) ?_ | refine callOX [] (c1) (BsOk.nil _) rfl (by (repeat (refine FzL.cons (by first | exact Fz.same _ | exact Fz.wk Wk.nilSl | exact Fz.wk (Wk.weak _ _ _) | exact Fz.own1 (by first | (simp; done) | (simp; rfl)) rfl (by simp) | exact Fz.aggL (by (repeat (refine FzL.cons (by first | exact Fz.same _ | exact Fz.wk Wk.nilSl | exact Fz.wk (Wk.weak _ _ _) | exact Fz.own1 (by first | (simp; done) | (simp; rfl)) rfl (by simp)) ?_)); exact FzL.nil _)) ?_)); exact FzL.nil _) rfl rfl ?_ | refine callX (c2) rfl rfl rfl rfl ?_ | (refine ARun.fin (by first | (intro h; cases h; done) | (intro _; kernel_rfl)) ?_; dsimp only [thenA, blockA, AS.bump, List.length_cons, List.length_nil, reduceIte, Nat.reduceEqDiff]) | (refine awp_skip ?_; dsimp only [thenA, blockA, AS.bump, List.length_cons, List.length_nil, reduceIte, Nat.reduceEqDiff]) | (refine awp_exit ?_; dsimp only [thenA, blockA, AS.bump, List.length_cons, List.length_nil, reduceIte, Nat.reduceEqDiff]) | refine awp_condT rfl (by first | rfl | assumption | exact beq_int _ | exact bne_int _) ?_ | refine awp_condF rfl (by first | rfl | assumption | exact beq_int _ | exact bne_int _) ?_ | ((fail_if_success refine ARun.plain rfl ?_); first | refine ARun.knowT rfl rfl rfl (by first | rfl | assumption | exact beq_int _ | exact bne_int _) ?_ | refine ARun.knowF rfl rfl rfl (by first | rfl | assumption | exact beq_int _ | exact bne_int _) ?_ | refine ARun.fork rfl rfl rfl (fun h => ?_) (fun h => ?_)) | refine awp_cond rfl (fun h => ?_) (fun h => ?_)))
      refine awp_rangeFunc (τ := Nat × Nat) (fun t => [(20, some ⟨14, 1, (undoL m.b ((behind m k).take t.1)).map encB⟩), (6, some ⟨15, 1, [[.own 20 14 0 (m.b.map encB).length]]⟩), (2, some ⟨0, 2, [encM m]⟩), (4, some ⟨1, 2, [[.sl 0 true [], .sl 0 true []]]⟩)]) (fun t => t.2) (fun i t => t.1 = i) (0, _) (since1_i m k ho (by omega)) rfl
        (closedL_cons (.rp (encM_closed m)) (closedL_cons (.rp (closedL_cons (.val _) closedL_nil)) closedL_nil)) (fun x hx => by obtain ⟨p, _, rfl⟩ := List.mem_map.1 hx; rfl) (fun x hx => by obtain ⟨p, _, rfl⟩ := List.mem_map.1 hx; exact closedL_cons (.agg (encP_closed p)) closedL_nil) (by kernel_rfl) rfl
        ⟨⟨rfl, rfl, rfl, rfl, trivial⟩, Nat.le_refl _⟩ (fun w0 st0 lent l c0 i x t hx hI => ?_) (fun t hI => ?_)
      · obtain ⟨j, gc⟩ := t
        dsimp only at hI ⊢
        subst hI
        have hxp := hx
        unfold encPs at hxp
        rw [List.getElem?_map] at hxp
        obtain ⟨p, hp, rfl⟩ := Option.map_eq_some_iff.1 hxp
        have hpin := behind_in hr p (List.mem_of_getElem? hp)
        have hstep := undoL_step m.b _ _ _ hp
        have hUl : (undoL m.b ((behind m k).take j)).length = m.b.length := undoL_len _ _ (fun q hq => behind_in hr q (List.mem_of_mem_take hq))
        generalize undoL m.b ((behind m k).take j) = U at hstep hUl
        obtain ⟨pa, pb⟩ := p
        dsimp only [setPs]
        (repeat' (first | refine awp_seq ?_ | refine awp_block ?_ | refine awp_region (fun _ => hmix) ?_ | refine ARun.op rfl (by first | exact True.intro | exact rfl | (unfold inR; omega) | omega | (unfold inR; simp only [List.length_map, List.length_append, List.length_take, List.length_drop, List.length_replicate, List.length_cons, List.length_nil] at *; omega) | ((try unfold inR); simp only [decide_eq_true_eq, decide_eq_false_iff_not, beq_iff_eq, beq_eq_false_iff_ne, ne_eq, Bool.not_eq_true', Bool.not_eq_false', List.length_map, List.length_append, List.length_take, List.length_drop, List.length_replicate, List.length_cons, List.length_nil] at *; omega)) ?_ | (refine ARun.fin (by first | (intro h; cases h; done) | (intro _; kernel_rfl)) ?_; dsimp only [thenA, blockA, AS.bump, List.length_cons, List.length_nil, reduceIte, Nat.reduceEqDiff]) | (refine awp_skip ?_; dsimp only [thenA, blockA, AS.bump, List.length_cons, List.length_nil, reduceIte, Nat.reduceEqDiff]) | (refine awp_exit ?_; dsimp only [thenA, blockA, AS.bump, List.length_cons, List.length_nil, reduceIte, Nat.reduceEqDiff]) | refine awp_condT rfl (by first | rfl | assumption | exact beq_int _ | exact bne_int _) ?_ | refine awp_condF rfl (by first | rfl | assumption | exact beq_int _ | exact bne_int _) ?_ | ((fail_if_success refine ARun.plain rfl ?_); first | refine ARun.knowT rfl rfl rfl (by first | rfl | assumption | exact beq_int _ | exact bne_int _) ?_ | refine ARun.knowF rfl rfl rfl (by first | rfl | assumption | exact beq_int _ | exact bne_int _) ?_ | refine ARun.fork rfl rfl rfl (fun h => ?_) (fun h => ?_)) | refine awp_cond rfl (fun h => ?_) (fun h => ?_)))
        intro w0 st0 lent c0
        dsimp only at hpin hstep
        by_cases hb : pb = []
        · have d3 : decide ((0 : Int) < (((pb.map encB).length : Nat) : Int)) = false := decide_eq_false (by simp [hb])
          (repeat' (first | refine awp_seq ?_ | refine awp_block ?_ | refine awp_region (fun _ => hmix) ?_ | refine ARun.op rfl (by first | exact True.intro | exact rfl | (unfold inR; omega) | omega | (unfold inR; simp only [List.length_map, List.length_append, List.length_take, List.length_drop, List.length_replicate, List.length_cons, List.length_nil] at *; omega) | ((try unfold inR); simp only [decide_eq_true_eq, decide_eq_false_iff_not, beq_iff_eq, beq_eq_false_iff_ne, ne_eq, Bool.not_eq_true', Bool.not_eq_false', List.length_map, List.length_append, List.length_take, List.length_drop, List.length_replicate, List.length_cons, List.length_nil] at *; omega)) ?_ | (refine ARun.fin (by first | (intro h; cases h; done) | (intro _; kernel_rfl)) ?_; dsimp only [thenA, blockA, AS.bump, List.length_cons, List.length_nil, reduceIte, Nat.reduceEqDiff]) | (refine awp_skip ?_; dsimp only [thenA, blockA, AS.bump, List.length_cons, List.length_nil, reduceIte, Nat.reduceEqDiff]) | (refine awp_exit ?_; dsimp only [thenA, blockA, AS.bump, List.length_cons, List.length_nil, reduceIte, Nat.reduceEqDiff]) | refine awp_condT rfl (by first | rfl | assumption | exact beq_int _ | exact bne_int _) ?_ | refine awp_condF rfl (by first | rfl | assumption | exact beq_int _ | exact bne_int _) ?_ | ((fail_if_success refine ARun.plain rfl ?_); first | refine ARun.knowT rfl rfl rfl (by first | rfl | assumption | exact beq_int _ | exact bne_int _) ?_ | refine ARun.knowF rfl rfl rfl (by first | rfl | assumption | exact beq_int _ | exact bne_int _) ?_ | refine ARun.fork rfl rfl rfl (fun h => ?_) (fun h => ?_)) | refine awp_cond rfl (fun h => ?_) (fun h => ?_)))
          refine ⟨(j + 1, _), ⟨?_, rfl, rfl, rfl, trivial⟩, Nat.le_refl _, rfl⟩
          dsimp only
          rw [hstep, hb, overL_nil]
          rfl
        · have hb1 := List.length_pos_iff.2 hb
          have h4 := there_yes hpin (by omega)
          obtain ⟨a, rfl⟩ : ∃ a : Nat, pa = (a : Int) := ⟨pa.toNat, by omega⟩
          rw [Int.toNat_natCast] at hstep
          have d3 : decide ((0 : Int) < (((pb.map encB).length : Nat) : Int)) = true := decide_eq_true (by rw [List.length_map]; omega)
          have e2 : overL (U.map encB) (0 + a) ((pb.map encB).take ((m.b.map encB).length - a)) = (overL U a pb).map encB := by
            rw [Nat.zero_add, List.take_of_length_le (by simp; omega), overL_map]
          have hUl' : (U.map encB).length = m.b.length := by rw [List.length_map, hUl]
          have hml' : (m.b.map encB).length = m.b.length := List.length_map _
          (repeat' (first | refine awp_seq ?_ | refine awp_block ?_ | refine awp_region (fun _ => hmix) ?_ | refine ARun.op rfl (by first | exact True.intro | exact rfl | (unfold inR; omega) | omega | (unfold inR; simp only [List.length_map, List.length_append, List.length_take, List.length_drop, List.length_replicate, List.length_cons, List.length_nil] at *; omega) | ((try unfold inR); simp only [decide_eq_true_eq, decide_eq_false_iff_not, beq_iff_eq, beq_eq_false_iff_ne, ne_eq, Bool.not_eq_true', Bool.not_eq_false', List.length_map, List.length_append, List.length_take, List.length_drop, List.length_replicate, List.length_cons, List.length_nil] at *; omega)) ?_ | refine ARun.sliceOwnFrom rfl rfl rfl rfl (by first | rfl | exact (by first | omega | (dsimp only [maxLen]; done) | (dsimp only [maxLen]; omega) | (simp only [List.length_append, List.length_map, List.length_take, List.length_drop, List.length_replicate, List.length_cons, List.length_nil, maxLen]; done) | (simp only [List.length_append, List.length_map, List.length_take, List.length_drop, List.length_replicate, List.length_cons, List.length_nil, maxLen]; omega) | (simp only [List.length_append, List.length_map, List.length_take, List.length_drop, List.length_replicate, List.length_cons, List.length_nil, maxLen] at *; done) | (simp only [List.length_append, List.length_map, List.length_take, List.length_drop, List.length_replicate, List.length_cons, List.length_nil, maxLen] at *; omega))) (by first | omega | (dsimp only [maxLen]; done) | (dsimp only [maxLen]; omega) | (simp only [List.length_append, List.length_map, List.length_take, List.length_drop, List.length_replicate, List.length_cons, List.length_nil, maxLen]; done) | (simp only [List.length_append, List.length_map, List.length_take, List.length_drop, List.length_replicate, List.length_cons, List.length_nil, maxLen]; omega) | (simp only [List.length_append, List.length_map, List.length_take, List.length_drop, List.length_replicate, List.length_cons, List.length_nil, maxLen] at *; done) | (simp only [List.length_append, List.length_map, List.length_take, List.length_drop, List.length_replicate, List.length_cons, List.length_nil, maxLen] at *; omega)) rfl rfl rfl rfl rfl (guardF_spec rfl) ?_ | refine ARun.copyE rfl rfl rfl (by omega) (by first | exact SrcA.sl rfl (.inr rfl) | exact SrcA.sl rfl (.inl rfl) | exact SrcA.ownW rfl rfl rfl rfl) rfl rfl rfl rfl e2 rfl (guardF_spec rfl) ?_ | (refine ARun.fin (by first | (intro h; cases h; done) | (intro _; kernel_rfl)) ?_; dsimp only [thenA, blockA, AS.bump, List.length_cons, List.length_nil, reduceIte, Nat.reduceEqDiff]) | (refine awp_skip ?_; dsimp only [thenA, blockA, AS.bump, List.length_cons, List.length_nil, reduceIte, Nat.reduceEqDiff]) | (refine awp_exit ?_; dsimp only [thenA, blockA, AS.bump, List.length_cons, List.length_nil, reduceIte, Nat.reduceEqDiff]) | refine awp_condT rfl (by first | rfl | assumption | exact beq_int _ | exact bne_int _) ?_ | refine awp_condF rfl (by first | rfl | assumption | exact beq_int _ | exact bne_int _) ?_ | ((fail_if_success refine ARun.plain rfl ?_); first | refine ARun.knowT rfl rfl rfl (by first | rfl | assumption | exact beq_int _ | exact bne_int _) ?_ | refine ARun.knowF rfl rfl rfl (by first | rfl | assumption | exact beq_int _ | exact bne_int _) ?_ | refine ARun.fork rfl rfl rfl (fun h => ?_) (fun h => ?_)) | refine awp_cond rfl (fun h => ?_) (fun h => ?_)))
          refine ⟨(j + 1, _), ⟨?_, rfl, rfl, rfl, trivial⟩, Nat.le_refl _, rfl⟩
          dsimp only
          rw [hstep]
          rfl
      · have hlx : (encPs (behind m k)).length = (behind m k).length := List.length_map _
        rw [hlx] at hI
        obtain ⟨j, gc⟩ := t
        dsimp only at hI ⊢
        subst hI
        rw [List.take_length]
        have hUl : (undoL m.b (behind m k)).length = m.b.length := undoL_len _ _ (behind_in hr)
        have hs : m.old.map encP = (m.old.take k).map encP ++ (m.old.drop k).map encP := by rw [← List.map_append, List.take_append_drop]
        dsimp only [thenA, blockA]
        have hkl : ((k : Nat) : Int) = (((m.old.take k).map encP).length : Nat) := by rw [List.length_map, List.length_take]; omega
        (repeat' (first | refine awp_seq ?_ | refine awp_block ?_ | refine awp_region (fun _ => hmix) ?_ | refine ARun.op rfl (by first | exact True.intro | exact rfl | (unfold inR; omega) | omega | (unfold inR; simp only [List.length_map, List.length_append, List.length_take, List.length_drop, List.length_replicate, List.length_cons, List.length_nil] at *; omega) | ((try unfold inR); simp only [decide_eq_true_eq, decide_eq_false_iff_not, beq_iff_eq, beq_eq_false_iff_ne, ne_eq, Bool.not_eq_true', Bool.not_eq_false', List.length_map, List.length_append, List.length_take, List.length_drop, List.length_replicate, List.length_cons, List.length_nil] at *; omega)) ?_ | refine ARun.sliceTo3 rfl hs rfl hkl rfl hkl rfl rfl rfl (by first | exact .inr rfl) rfl (guardF_spec rfl) ?_ | (refine ARun.fin (by first | (intro h; cases h; done) | (intro _; kernel_rfl)) ?_; dsimp only [thenA, blockA, AS.bump, List.length_cons, List.length_nil, reduceIte, Nat.reduceEqDiff]) | (refine awp_skip ?_; dsimp only [thenA, blockA, AS.bump, List.length_cons, List.length_nil, reduceIte, Nat.reduceEqDiff]) | (refine awp_exit ?_; dsimp only [thenA, blockA, AS.bump, List.length_cons, List.length_nil, reduceIte, Nat.reduceEqDiff]) | refine awp_condT rfl (by first | rfl | assumption | exact beq_int _ | exact bne_int _) ?_ | refine awp_condF rfl (by first | rfl | assumption | exact beq_int _ | exact bne_int _) ?_ | ((fail_if_success refine ARun.plain rfl ?_); first | refine ARun.knowT rfl rfl rfl (by first | rfl | assumption | exact beq_int _ | exact bne_int _) ?_ | refine ARun.knowF rfl rfl rfl (by first | rfl | assumption | exact beq_int _ | exact bne_int _) ?_ | refine ARun.fork rfl rfl rfl (fun h => ?_) (fun h => ?_)) | refine awp_cond rfl (fun h => ?_) (fun h => ?_)))
        refine awp_ret ⟨_, ResL.cons (ResA.agg rfl rfl rfl rfl rfl rfl rfl (RL.cons (.owned rfl rfl (by simp [hUl]) (own_closed_map encB_closed)) (RL.cons (.weak (closed_map encP_closed)) (RL.nil _)))) (ResL.cons (ResA.tmp (.val _)) .nil), rfl⟩
end Go.Proofs.Ytpdnbhimmfhaaaa
