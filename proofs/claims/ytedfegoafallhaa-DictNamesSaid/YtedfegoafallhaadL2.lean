/- Dictionaries: what is found where words are added; DictNewest returns true. -/
import Derived.Test.YtedfegoafallhaadL1
namespace Go.Proofs.Ytedfegoafallhaa
set_option linter.unusedVariables false
set_option linter.unusedSimpArgs false
open Go Go.RowKit
set_option maxRecDepth 100000

theorem up1_idem (c : UInt8) : up1 (up1 c) = up1 c := by
  by_cases h : 97 ≤ c.toNat ∧ c.toNat ≤ 122
  · have h2 := up1_yes h.1 h.2
    exact up1_no (by omega)
  · rw [up1_no h, up1_no h]
theorem upL_idem (l : Bs) : upL (upL l) = upL l := by
  unfold upL
  rw [List.map_map]
  exact List.map_congr_left (fun c _ => up1_idem c)
theorem alike_up (a b : Bs) : alikeD a (upL b) = alikeD a b := by unfold alikeD; rw [upL_idem]
theorem alike_refl (a : Bs) : alikeD a a = true := decide_eq_true rfl
theorem findP_up (name : Bs) : findP (upL name) = findP name := by
  funext w
  unfold findP
  rw [alike_up]
theorem findD_up (l : List Wd) (name : Bs) : findD l (upL name) = findD l name := by unfold findD; rw [findP_up]
theorem lastAt_app {P : Wd → Bool} {l r : List Wd} : ∀ {n : Nat}, n ≤ l.length → lastAt P (l ++ r) n = lastAt P l n
  | 0, _ => rfl
  | n + 1, h => by
    have hw : l[n]? = some l[n] := List.getElem?_eq_getElem (by omega)
    have hw' : (l ++ r)[n]? = some l[n] := by rw [List.getElem?_append_left (by omega), hw]
    cases hp : P l[n] with
    | true => rw [lastAt_hit hw' hp, lastAt_hit hw hp]
    | false => rw [lastAt_miss hw' hp, lastAt_miss hw hp, lastAt_app (by omega)]
theorem lastAt_some {P : Wd → Bool} {l : List Wd} : ∀ {n i : Nat}, lastAt P l n = some i → i < n ∧ ∃ w, l[i]? = some w ∧ P w = true
  | 0, i, h => by cases h
  | n + 1, i, h => by
    rw [lastAt] at h
    cases hw : l[n]? with
    | none =>
      rw [hw] at h
      have := lastAt_some h
      exact ⟨by omega, this.2⟩
    | some w =>
      rw [hw] at h
      dsimp only at h
      cases hp : P w with
      | true =>
        rw [if_pos hp] at h
        cases h
        exact ⟨by omega, w, hw, hp⟩
      | false =>
        rw [if_neg (by simp [hp])] at h
        have := lastAt_some h
        exact ⟨by omega, this.2⟩
theorem lastAt_ge {P : Wd → Bool} {l : List Wd} {i : Nat} {w : Wd} (hw : l[i]? = some w) (hp : P w = true) : ∀ {n : Nat}, i < n → ∃ j, lastAt P l n = some j ∧ i ≤ j
  | 0, h => by omega
  | n + 1, h => by
    rw [lastAt]
    by_cases hin : i = n
    · subst hin
      rw [hw]
      exact ⟨i, if_pos hp, Nat.le_refl _⟩
    · obtain ⟨j, h1, h2⟩ := lastAt_ge hw hp (n := n) (by omega)
      cases hv : l[n]? with
      | none => exact ⟨j, h1, h2⟩
      | some v =>
        dsimp only
        cases hq : P v with
        | true => exact ⟨n, if_pos rfl, by omega⟩
        | false => exact ⟨j, by rw [if_neg (by simp)]; exact h1, h2⟩
theorem found_app {P : Wd → Bool} {l r : List Wd} : foundD (l ++ r) (lastAt P l l.length) = foundD l (lastAt P l l.length) := by
  cases h : lastAt P l l.length with
  | none => rfl
  | some i =>
    obtain ⟨h1, _⟩ := lastAt_some h
    simp only [foundD]
    rw [List.getElem?_append_left h1]
theorem find_snoc_hit {l : List Wd} {w : Wd} {name : Bs} (h : findP name w = true) : findD (l ++ [w]) name = (w, (l.length : Int), true) := by
  have hw : (l ++ [w])[l.length]? = some w := by simp
  unfold findD
  rw [List.length_append, List.length_singleton, lastAt_hit hw h, found_hit hw]
theorem find_snoc_miss {l : List Wd} {w : Wd} {name : Bs} (h : findP name w = false) : findD (l ++ [w]) name = findD l name := by
  have hw : (l ++ [w])[l.length]? = some w := by simp
  unfold findD
  rw [List.length_append, List.length_singleton, lastAt_miss hw h, lastAt_app (Nat.le_refl _), found_app]
theorem add_out (l : List Wd) (name : Bs) (xt fl limit : Int) : ((addD l name xt fl limit).2 ≠ 0 ∧ (addD l name xt fl limit).1 = l) ∨ (addD l name xt fl limit = (l ++ [⟨name, xt, fl⟩], 0) ∧ namedD name = 0 ∧ 0 ≤ fl ∧ fl ≤ 7 ∧ (l.length : Int) < limit ∧ l.length < 1024) := by
  unfold addD
  by_cases h1 : namedD name ≠ 0
  · rw [if_pos h1]; exact .inl ⟨h1, rfl⟩
  · rw [if_neg h1]
    by_cases h2 : ¬(0 ≤ fl ∧ fl ≤ 7)
    · rw [if_pos h2]; exact .inl ⟨by dsimp only; omega, rfl⟩
    · rw [if_neg h2]
      by_cases h3 : limit ≤ l.length ∨ 1024 ≤ l.length
      · rw [if_pos h3]; exact .inl ⟨by dsimp only; omega, rfl⟩
      · rw [if_neg h3]; exact .inr ⟨rfl, by simpa using h1, by omega, by omega, by omega, by omega⟩
theorem right_snoc {l : List Wd} {w : Wd} (h : RightW l) (hw : OkW w) (hl : l.length < 1024) : RightW (l ++ [w]) := ⟨fun v hv => by
  rcases List.mem_append.1 hv with hv | hv
  · exact h.1 v hv
  · rw [List.mem_singleton.1 hv]; exact hw, by rw [List.length_append, List.length_singleton]; omega⟩
attribute [local irreducible] Decidable.decide awp ARun regK toK
set_option maxHeartbeats 8000000 in
theorem newest_c (l : List Wd) (name : Bs) (xt fl : Int) (other : Bs) (hin : FlIn l) (hfl : -9223372036854775808 ≤ fl ∧ fl ≤ 9223372036854775807) : FnC Try.prog 5 [.agg [encWs l, St name, .val (.int .i64 xt), .val (.int .i64 fl), St other]] (.val (.bool true)) := by
  have c0 := shown_c
  have cf := few_c l 60 (by omega)
  by_cases hf : FewW l 60
  case neg =>
    rw [fewW_no hf] at cf
    refine FnC.of_awp (T := tt) (ok := tok) Try.func5 (by kernel_rfl) rfl (by kernel_rfl) (closedL_cons (.agg (closedL_cons (closed_ws _) (closedL_cons (.val _) (closedL_cons (.val _) (closedL_cons (.val _) (closedL_cons (.val _) closedL_nil)))))) closedL_nil) (fun w0 st0 => ?_)
    dsimp only [frOf]
    (repeat' (first | refine awp_seq ?_ | refine awp_block ?_ | refine awp_region (fun _ => hmix) ?_ | refine ARun.op rfl (by first | exact True.intro | exact rfl | (unfold inR; omega) | omega | (unfold inR; simp only [List.length_map, List.length_append, List.length_take, List.length_drop, List.length_replicate, List.length_cons, List.length_nil] at *; omega) | ((try unfold inR); simp only [decide_eq_true_eq, decide_eq_false_iff_not, beq_iff_eq, beq_eq_false_iff_ne, ne_eq, Bool.not_eq_true', Bool.not_eq_false', List.length_map, List.length_append, List.length_take, List.length_drop, List.length_replicate, List.length_cons, List.length_nil] at *; omega)) ?_ | refine callX (c0) rfl rfl rfl rfl ?_ | refine callX (cf) rfl rfl rfl rfl ?_ | (refine ARun.fin (by first | (intro h; cases h; done) | (intro _; kernel_rfl)) ?_; dsimp only [thenA, blockA, AS.bump, List.length_cons, List.length_nil, reduceIte, Nat.reduceEqDiff]) | (refine awp_skip ?_; dsimp only [thenA, blockA, AS.bump, List.length_cons, List.length_nil, reduceIte, Nat.reduceEqDiff]) | (refine awp_exit ?_; dsimp only [thenA, blockA, AS.bump, List.length_cons, List.length_nil, reduceIte, Nat.reduceEqDiff]) | refine awp_condT rfl (by first | rfl | assumption | exact beq_int _ | exact bne_int _) ?_ | refine awp_condF rfl (by first | rfl | assumption | exact beq_int _ | exact bne_int _) ?_ | ((fail_if_success refine ARun.plain rfl ?_); first | refine ARun.knowT rfl rfl rfl (by first | rfl | assumption | exact beq_int _ | exact bne_int _) ?_ | refine ARun.knowF rfl rfl rfl (by first | rfl | assumption | exact beq_int _ | exact bne_int _) ?_ | refine ARun.fork rfl rfl rfl (fun h => ?_) (fun h => ?_)) | refine awp_cond rfl (fun h => ?_) (fun h => ?_)))
    exact awp_ret ⟨_, ResL.cons (ResA.tmp (.val _)) .nil, rfl⟩
  rw [fewW_yes hf] at cf
  have hl : l.length ≤ 60 := by have := hf.1; omega
  have cr := ref_right_c l (by omega) (few_in hf hin)
  by_cases hr : RightW l
  case neg =>
    rw [rightW_no hr] at cr
    refine FnC.of_awp (T := tt) (ok := tok) Try.func5 (by kernel_rfl) rfl (by kernel_rfl) (closedL_cons (.agg (closedL_cons (closed_ws _) (closedL_cons (.val _) (closedL_cons (.val _) (closedL_cons (.val _) (closedL_cons (.val _) closedL_nil)))))) closedL_nil) (fun w0 st0 => ?_)
    dsimp only [frOf]
    (repeat' (first | refine awp_seq ?_ | refine awp_block ?_ | refine awp_region (fun _ => hmix) ?_ | refine ARun.op rfl (by first | exact True.intro | exact rfl | (unfold inR; omega) | omega | (unfold inR; simp only [List.length_map, List.length_append, List.length_take, List.length_drop, List.length_replicate, List.length_cons, List.length_nil] at *; omega) | ((try unfold inR); simp only [decide_eq_true_eq, decide_eq_false_iff_not, beq_iff_eq, beq_eq_false_iff_ne, ne_eq, Bool.not_eq_true', Bool.not_eq_false', List.length_map, List.length_append, List.length_take, List.length_drop, List.length_replicate, List.length_cons, List.length_nil] at *; omega)) ?_ | refine callX (c0) rfl rfl rfl rfl ?_ | refine callX (cf) rfl rfl rfl rfl ?_ | refine callX (cr) rfl rfl rfl rfl ?_ | (refine ARun.fin (by first | (intro h; cases h; done) | (intro _; kernel_rfl)) ?_; dsimp only [thenA, blockA, AS.bump, List.length_cons, List.length_nil, reduceIte, Nat.reduceEqDiff]) | (refine awp_skip ?_; dsimp only [thenA, blockA, AS.bump, List.length_cons, List.length_nil, reduceIte, Nat.reduceEqDiff]) | (refine awp_exit ?_; dsimp only [thenA, blockA, AS.bump, List.length_cons, List.length_nil, reduceIte, Nat.reduceEqDiff]) | refine awp_condT rfl (by first | rfl | assumption | exact beq_int _ | exact bne_int _) ?_ | refine awp_condF rfl (by first | rfl | assumption | exact beq_int _ | exact bne_int _) ?_ | ((fail_if_success refine ARun.plain rfl ?_); first | refine ARun.knowT rfl rfl rfl (by first | rfl | assumption | exact beq_int _ | exact bne_int _) ?_ | refine ARun.knowF rfl rfl rfl (by first | rfl | assumption | exact beq_int _ | exact bne_int _) ?_ | refine ARun.fork rfl rfl rfl (fun h => ?_) (fun h => ?_)) | refine awp_cond rfl (fun h => ?_) (fun h => ?_)))
    exact awp_ret ⟨_, ResL.cons (ResA.tmp (.val _)) .nil, rfl⟩
  rw [rightW_yes hr] at cr
  have hz : (ByteArray.mk name.toArray).size = name.length := rfl
  have hzo : (ByteArray.mk other.toArray).size = other.length := rfl
  by_cases hn : 60 < name.length
  · have d : decide ((60 : Int) < ((ByteArray.mk name.toArray).size : Nat)) = true := decide_eq_true (by omega)
    refine FnC.of_awp (T := tt) (ok := tok) Try.func5 (by kernel_rfl) rfl (by kernel_rfl) (closedL_cons (.agg (closedL_cons (closed_ws _) (closedL_cons (.val _) (closedL_cons (.val _) (closedL_cons (.val _) (closedL_cons (.val _) closedL_nil)))))) closedL_nil) (fun w0 st0 => ?_)
    dsimp only [frOf]
    (repeat' (first | refine awp_seq ?_ | refine awp_block ?_ | refine awp_region (fun _ => hmix) ?_ | refine ARun.op rfl (by first | exact True.intro | exact rfl | (unfold inR; omega) | omega | (unfold inR; simp only [List.length_map, List.length_append, List.length_take, List.length_drop, List.length_replicate, List.length_cons, List.length_nil] at *; omega) | ((try unfold inR); simp only [decide_eq_true_eq, decide_eq_false_iff_not, beq_iff_eq, beq_eq_false_iff_ne, ne_eq, Bool.not_eq_true', Bool.not_eq_false', List.length_map, List.length_append, List.length_take, List.length_drop, List.length_replicate, List.length_cons, List.length_nil] at *; omega)) ?_ | refine callX (c0) rfl rfl rfl rfl ?_ | refine callX (cf) rfl rfl rfl rfl ?_ | refine callX (cr) rfl rfl rfl rfl ?_ | (refine ARun.fin (by first | (intro h; cases h; done) | (intro _; kernel_rfl)) ?_; dsimp only [thenA, blockA, AS.bump, List.length_cons, List.length_nil, reduceIte, Nat.reduceEqDiff]) | (refine awp_skip ?_; dsimp only [thenA, blockA, AS.bump, List.length_cons, List.length_nil, reduceIte, Nat.reduceEqDiff]) | (refine awp_exit ?_; dsimp only [thenA, blockA, AS.bump, List.length_cons, List.length_nil, reduceIte, Nat.reduceEqDiff]) | refine awp_condT rfl (by first | rfl | assumption | exact beq_int _ | exact bne_int _) ?_ | refine awp_condF rfl (by first | rfl | assumption | exact beq_int _ | exact bne_int _) ?_ | ((fail_if_success refine ARun.plain rfl ?_); first | refine ARun.knowT rfl rfl rfl (by first | rfl | assumption | exact beq_int _ | exact bne_int _) ?_ | refine ARun.knowF rfl rfl rfl (by first | rfl | assumption | exact beq_int _ | exact bne_int _) ?_ | refine ARun.fork rfl rfl rfl (fun h => ?_) (fun h => ?_)) | refine awp_cond rfl (fun h => ?_) (fun h => ?_)))
    exact awp_ret ⟨_, ResL.cons (ResA.tmp (.val _)) .nil, rfl⟩
  have d : decide ((60 : Int) < ((ByteArray.mk name.toArray).size : Nat)) = false := decide_eq_false (by omega)
  by_cases hno : 60 < other.length
  · have d' : decide ((60 : Int) < ((ByteArray.mk other.toArray).size : Nat)) = true := decide_eq_true (by omega)
    refine FnC.of_awp (T := tt) (ok := tok) Try.func5 (by kernel_rfl) rfl (by kernel_rfl) (closedL_cons (.agg (closedL_cons (closed_ws _) (closedL_cons (.val _) (closedL_cons (.val _) (closedL_cons (.val _) (closedL_cons (.val _) closedL_nil)))))) closedL_nil) (fun w0 st0 => ?_)
    dsimp only [frOf]
    (repeat' (first | refine awp_seq ?_ | refine awp_block ?_ | refine awp_region (fun _ => hmix) ?_ | refine ARun.op rfl (by first | exact True.intro | exact rfl | (unfold inR; omega) | omega | (unfold inR; simp only [List.length_map, List.length_append, List.length_take, List.length_drop, List.length_replicate, List.length_cons, List.length_nil] at *; omega) | ((try unfold inR); simp only [decide_eq_true_eq, decide_eq_false_iff_not, beq_iff_eq, beq_eq_false_iff_ne, ne_eq, Bool.not_eq_true', Bool.not_eq_false', List.length_map, List.length_append, List.length_take, List.length_drop, List.length_replicate, List.length_cons, List.length_nil] at *; omega)) ?_ | refine callX (c0) rfl rfl rfl rfl ?_ | refine callX (cf) rfl rfl rfl rfl ?_ | refine callX (cr) rfl rfl rfl rfl ?_ | (refine ARun.fin (by first | (intro h; cases h; done) | (intro _; kernel_rfl)) ?_; dsimp only [thenA, blockA, AS.bump, List.length_cons, List.length_nil, reduceIte, Nat.reduceEqDiff]) | (refine awp_skip ?_; dsimp only [thenA, blockA, AS.bump, List.length_cons, List.length_nil, reduceIte, Nat.reduceEqDiff]) | (refine awp_exit ?_; dsimp only [thenA, blockA, AS.bump, List.length_cons, List.length_nil, reduceIte, Nat.reduceEqDiff]) | refine awp_condT rfl (by first | rfl | assumption | exact beq_int _ | exact bne_int _) ?_ | refine awp_condF rfl (by first | rfl | assumption | exact beq_int _ | exact bne_int _) ?_ | ((fail_if_success refine ARun.plain rfl ?_); first | refine ARun.knowT rfl rfl rfl (by first | rfl | assumption | exact beq_int _ | exact bne_int _) ?_ | refine ARun.knowF rfl rfl rfl (by first | rfl | assumption | exact beq_int _ | exact bne_int _) ?_ | refine ARun.fork rfl rfl rfl (fun h => ?_) (fun h => ?_)) | refine awp_cond rfl (fun h => ?_) (fun h => ?_)))
    exact awp_ret ⟨_, ResL.cons (ResA.tmp (.val _)) .nil, rfl⟩
  have d' : decide ((60 : Int) < ((ByteArray.mk other.toArray).size : Nat)) = false := decide_eq_false (by omega)
  have c1 := add_c l name xt fl 1000 (by omega) (by omega) hfl
  have s0 := ref_same_c l l (by omega)
  rw [sameW_refl] at s0
  rcases add_out l name xt fl 1000 with ⟨h1, h2⟩ | ⟨h1, h2, h3, h4, h5, h6⟩
  · generalize addD l name xt fl 1000 = p at *
    obtain ⟨p1, p2⟩ := p
    dsimp only at h1 h2
    subst h2
    simp only [encWE] at c1
    have d1 : (p2 != 0) = true := by simp [h1]
    refine FnC.of_awp (T := tt) (ok := tok) Try.func5 (by kernel_rfl) rfl (by kernel_rfl) (closedL_cons (.agg (closedL_cons (closed_ws _) (closedL_cons (.val _) (closedL_cons (.val _) (closedL_cons (.val _) (closedL_cons (.val _) closedL_nil)))))) closedL_nil) (fun w0 st0 => ?_)
    dsimp only [frOf]
    (repeat' (first | refine awp_seq ?_ | refine awp_block ?_ | refine awp_region (fun _ => hmix) ?_ | refine ARun.op rfl (by first | exact True.intro | exact rfl | (unfold inR; omega) | omega | (unfold inR; simp only [List.length_map, List.length_append, List.length_take, List.length_drop, List.length_replicate, List.length_cons, List.length_nil] at *; omega) | ((try unfold inR); simp only [decide_eq_true_eq, decide_eq_false_iff_not, beq_iff_eq, beq_eq_false_iff_ne, ne_eq, Bool.not_eq_true', Bool.not_eq_false', List.length_map, List.length_append, List.length_take, List.length_drop, List.length_replicate, List.length_cons, List.length_nil] at *; omega)) ?_ | refine callX (c0) rfl rfl rfl rfl ?_ | refine callX (cf) rfl rfl rfl rfl ?_ | refine callX (cr) rfl rfl rfl rfl ?_ | refine callX (c1) rfl rfl rfl rfl ?_ | refine callX (s0) rfl rfl rfl rfl ?_ | (refine ARun.fin (by first | (intro h; cases h; done) | (intro _; kernel_rfl)) ?_; dsimp only [thenA, blockA, AS.bump, List.length_cons, List.length_nil, reduceIte, Nat.reduceEqDiff]) | (refine awp_skip ?_; dsimp only [thenA, blockA, AS.bump, List.length_cons, List.length_nil, reduceIte, Nat.reduceEqDiff]) | (refine awp_exit ?_; dsimp only [thenA, blockA, AS.bump, List.length_cons, List.length_nil, reduceIte, Nat.reduceEqDiff]) | refine awp_condT rfl (by first | rfl | assumption | exact beq_int _ | exact bne_int _) ?_ | refine awp_condF rfl (by first | rfl | assumption | exact beq_int _ | exact bne_int _) ?_ | ((fail_if_success refine ARun.plain rfl ?_); first | refine ARun.knowT rfl rfl rfl (by first | rfl | assumption | exact beq_int _ | exact bne_int _) ?_ | refine ARun.knowF rfl rfl rfl (by first | rfl | assumption | exact beq_int _ | exact bne_int _) ?_ | refine ARun.fork rfl rfl rfl (fun h => ?_) (fun h => ?_)) | refine awp_cond rfl (fun h => ?_) (fun h => ?_)))
    exact awp_ret ⟨_, ResL.cons (ResA.tmp (.val _)) .nil, rfl⟩
  · rw [h1] at c1
    have hw : OkW ⟨name, xt, fl⟩ := ⟨h2, h3, h4⟩
    have hx := right_snoc hr hw h6
    have c2 := ref_right_c (l ++ [⟨name, xt, fl⟩]) (by rw [List.length_append, List.length_singleton]; omega) (fun v hv => by
      rcases List.mem_append.1 hv with hv | hv
      · exact few_in hf hin v hv
      · rw [List.mem_singleton.1 hv]; exact ⟨by show name.length ≤ _; omega, hfl⟩)
    rw [rightW_yes hx] at c2
    have hnl : NameIn l := right_name hf hr
    have hnx : NameIn (l ++ [⟨name, xt, fl⟩]) := fun v hv => by
      rcases List.mem_append.1 hv with hv | hv
      · exact hnl v hv
      · rw [List.mem_singleton.1 hv]; exact ⟨by show name.length ≤ _; omega, h3, h4⟩
    have hxl : (l ++ [(⟨name, xt, fl⟩ : Wd)]).length ≤ 61 := by rw [List.length_append, List.length_singleton]; omega
    have c3 := ref_upper_c name (by omega)
    have c4 := find_c (l ++ [⟨name, xt, fl⟩]) (upL name) (by omega) (by rw [upL_len]; omega) hnx
    have c5 := find_c l other (by omega) (by omega) hnl
    have c6 := find_c (l ++ [⟨name, xt, fl⟩]) other (by omega) (by omega) hnx
    have c7 := cut_c (l ++ [⟨name, xt, fl⟩]) (((l.map encW).length : Nat)) (by omega)
    have c8 := find_c l name (by omega) (by omega) hnl
    have c9 := ref_alike_c name other (by omega) (by omega)
    rw [findD_up] at c4
    rw [show cutD (l ++ [⟨name, xt, fl⟩]) (((l.map encW).length : Nat)) = (l, 0) by
      unfold cutD
      rw [List.length_map, if_neg (by rw [List.length_append, List.length_singleton]; omega), Int.toNat_natCast, List.take_left']
      rfl] at c7
    have hwr : IntKind.i64.wrap (fl.tdiv 2) = fl.tdiv 2 := by
      rw [IntKind.wrap_i64, Int.tdiv_eq_ediv_of_nonneg h3]
      omega
    have k4 := tt4 true
    have k5 := tt4 false
    cases hh : hidD ⟨name, xt, fl⟩ with
    | true =>
      have dh : ((fl.tdiv 2).tmod 2 == 1) = true := hh
      have dh2 : (!((fl.tdiv 2).tmod 2 == 1)) = false := by rw [dh]; rfl
      rw [← hwr] at dh dh2
      rw [find_snoc_miss (by unfold findP; rw [hh]; rfl)] at c4
      generalize hfo : findD l other = po at *
      generalize findD (l ++ [⟨name, xt, fl⟩]) other = qo at *
      generalize findD l name = pn at *
      obtain ⟨⟨un, ux, uf⟩, ui, ub⟩ := pn
      have e1 := eqW ⟨un, ux, uf⟩
      have e3 := tt4 ub
      dsimp only at e1
      simp only [encFd, encWE] at c1 c4 c5 c6 c7 c8
      refine FnC.of_awp (T := tt) (ok := tok) Try.func5 (by kernel_rfl) rfl (by kernel_rfl) (closedL_cons (.agg (closedL_cons (closed_ws _) (closedL_cons (.val _) (closedL_cons (.val _) (closedL_cons (.val _) (closedL_cons (.val _) closedL_nil)))))) closedL_nil) (fun w0 st0 => ?_)
      dsimp only [frOf]
      (repeat' (first | refine awp_seq ?_ | refine awp_block ?_ | refine awp_region (fun _ => hmix) ?_ | refine ARun.op rfl (by first | exact True.intro | exact rfl | (unfold inR; omega) | omega | (unfold inR; simp only [List.length_map, List.length_append, List.length_take, List.length_drop, List.length_replicate, List.length_cons, List.length_nil] at *; omega) | ((try unfold inR); simp only [decide_eq_true_eq, decide_eq_false_iff_not, beq_iff_eq, beq_eq_false_iff_ne, ne_eq, Bool.not_eq_true', Bool.not_eq_false', List.length_map, List.length_append, List.length_take, List.length_drop, List.length_replicate, List.length_cons, List.length_nil] at *; omega)) ?_ | refine callX (c0) rfl rfl rfl rfl ?_ | refine callX (cf) rfl rfl rfl rfl ?_ | refine callX (cr) rfl rfl rfl rfl ?_ | refine callX (c1) rfl rfl rfl rfl ?_ | refine callX (c2) rfl rfl rfl rfl ?_ | refine callX (c3) rfl rfl rfl rfl ?_ | refine callX (c4) rfl rfl rfl rfl ?_ | refine callX (c5) rfl rfl rfl rfl ?_ | refine callX (c6) rfl rfl rfl rfl ?_ | refine callX (c7) rfl rfl rfl rfl ?_ | refine callX (c8) rfl rfl rfl rfl ?_ | refine callX (c9) rfl rfl rfl rfl ?_ | refine callX (s0) rfl rfl rfl rfl ?_ | refine eqX flatW rfl rfl rfl rfl rfl ?_ | (refine ARun.fin (by first | (intro h; cases h; done) | (intro _; kernel_rfl)) ?_; dsimp only [thenA, blockA, AS.bump, List.length_cons, List.length_nil, reduceIte, Nat.reduceEqDiff]) | (refine awp_skip ?_; dsimp only [thenA, blockA, AS.bump, List.length_cons, List.length_nil, reduceIte, Nat.reduceEqDiff]) | (refine awp_exit ?_; dsimp only [thenA, blockA, AS.bump, List.length_cons, List.length_nil, reduceIte, Nat.reduceEqDiff]) | refine awp_condT rfl (by first | rfl | assumption | exact beq_int _ | exact bne_int _) ?_ | refine awp_condF rfl (by first | rfl | assumption | exact beq_int _ | exact bne_int _) ?_ | ((fail_if_success refine ARun.plain rfl ?_); first | refine ARun.knowT rfl rfl rfl (by first | rfl | assumption | exact beq_int _ | exact bne_int _) ?_ | refine ARun.knowF rfl rfl rfl (by first | rfl | assumption | exact beq_int _ | exact bne_int _) ?_ | refine ARun.fork rfl rfl rfl (fun h => ?_) (fun h => ?_)) | refine awp_cond rfl (fun h => ?_) (fun h => ?_)))
      (refine awp_ret ⟨_, ResL.cons (ResA.tmp (.val _)) .nil, congrArg (fun b => AV.val (.bool b)) ?_⟩; first | rfl | (symm; assumption) | exact (beq_int _).symm)
    | false =>
      have dh : ((fl.tdiv 2).tmod 2 == 1) = false := hh
      have dh2 : (!((fl.tdiv 2).tmod 2 == 1)) = true := by rw [dh]; rfl
      rw [← hwr] at dh dh2
      rw [find_snoc_hit (by unfold findP; rw [hh, alike_refl]; rfl)] at c4
      have e0 : ((l.length : Int) != (((l.map encW).length : Nat) : Int)) = false := by simp
      have e1 : (xt != xt) = false := by simp
      have e2 : (fl != fl) = false := by simp
      have e3 : (!((ByteArray.mk name.toArray).toList == (ByteArray.mk name.toArray).toList)) = false := by rw [bs_eq, decide_eq_true rfl]; rfl
      cases ha : alikeD name other with
      | true =>
        rw [ha] at c9
        generalize findD l other = po at *
        generalize findD (l ++ [⟨name, xt, fl⟩]) other = qo at *
        simp only [encFd, encWE] at c1 c4 c5 c6 c7 c8
        refine FnC.of_awp (T := tt) (ok := tok) Try.func5 (by kernel_rfl) rfl (by kernel_rfl) (closedL_cons (.agg (closedL_cons (closed_ws _) (closedL_cons (.val _) (closedL_cons (.val _) (closedL_cons (.val _) (closedL_cons (.val _) closedL_nil)))))) closedL_nil) (fun w0 st0 => ?_)
        dsimp only [frOf]
        (repeat' (first | refine awp_seq ?_ | refine awp_block ?_ | refine awp_region (fun _ => hmix) ?_ | refine ARun.op rfl (by first | exact True.intro | exact rfl | (unfold inR; omega) | omega | (unfold inR; simp only [List.length_map, List.length_append, List.length_take, List.length_drop, List.length_replicate, List.length_cons, List.length_nil] at *; omega) | ((try unfold inR); simp only [decide_eq_true_eq, decide_eq_false_iff_not, beq_iff_eq, beq_eq_false_iff_ne, ne_eq, Bool.not_eq_true', Bool.not_eq_false', List.length_map, List.length_append, List.length_take, List.length_drop, List.length_replicate, List.length_cons, List.length_nil] at *; omega)) ?_ | refine callX (c0) rfl rfl rfl rfl ?_ | refine callX (cf) rfl rfl rfl rfl ?_ | refine callX (cr) rfl rfl rfl rfl ?_ | refine callX (c1) rfl rfl rfl rfl ?_ | refine callX (c2) rfl rfl rfl rfl ?_ | refine callX (c3) rfl rfl rfl rfl ?_ | refine callX (c4) rfl rfl rfl rfl ?_ | refine callX (c5) rfl rfl rfl rfl ?_ | refine callX (c6) rfl rfl rfl rfl ?_ | refine callX (c7) rfl rfl rfl rfl ?_ | refine callX (c8) rfl rfl rfl rfl ?_ | refine callX (c9) rfl rfl rfl rfl ?_ | refine callX (s0) rfl rfl rfl rfl ?_ | refine eqX flatW rfl rfl rfl rfl rfl ?_ | (refine ARun.fin (by first | (intro h; cases h; done) | (intro _; kernel_rfl)) ?_; dsimp only [thenA, blockA, AS.bump, List.length_cons, List.length_nil, reduceIte, Nat.reduceEqDiff]) | (refine awp_skip ?_; dsimp only [thenA, blockA, AS.bump, List.length_cons, List.length_nil, reduceIte, Nat.reduceEqDiff]) | (refine awp_exit ?_; dsimp only [thenA, blockA, AS.bump, List.length_cons, List.length_nil, reduceIte, Nat.reduceEqDiff]) | refine awp_condT rfl (by first | rfl | assumption | exact beq_int _ | exact bne_int _) ?_ | refine awp_condF rfl (by first | rfl | assumption | exact beq_int _ | exact bne_int _) ?_ | ((fail_if_success refine ARun.plain rfl ?_); first | refine ARun.knowT rfl rfl rfl (by first | rfl | assumption | exact beq_int _ | exact bne_int _) ?_ | refine ARun.knowF rfl rfl rfl (by first | rfl | assumption | exact beq_int _ | exact bne_int _) ?_ | refine ARun.fork rfl rfl rfl (fun h => ?_) (fun h => ?_)) | refine awp_cond rfl (fun h => ?_) (fun h => ?_)))
        (refine awp_ret ⟨_, ResL.cons (ResA.tmp (.val _)) .nil, congrArg (fun b => AV.val (.bool b)) ?_⟩; first | rfl | (symm; assumption) | exact (beq_int _).symm)
      | false =>
        rw [ha] at c9
        rw [find_snoc_miss (by unfold findP; rw [ha, Bool.and_false])] at c6
        generalize findD l other = pn at *
        obtain ⟨⟨un, ux, uf⟩, ui, ub⟩ := pn
        have e4 := eqW ⟨un, ux, uf⟩
        have e5 := tt4 ub
        dsimp only at e4
        simp only [encFd, encWE] at c1 c4 c5 c6 c7 c8
        refine FnC.of_awp (T := tt) (ok := tok) Try.func5 (by kernel_rfl) rfl (by kernel_rfl) (closedL_cons (.agg (closedL_cons (closed_ws _) (closedL_cons (.val _) (closedL_cons (.val _) (closedL_cons (.val _) (closedL_cons (.val _) closedL_nil)))))) closedL_nil) (fun w0 st0 => ?_)
        dsimp only [frOf]
        (repeat' (first | refine awp_seq ?_ | refine awp_block ?_ | refine awp_region (fun _ => hmix) ?_ | refine ARun.op rfl (by first | exact True.intro | exact rfl | (unfold inR; omega) | omega | (unfold inR; simp only [List.length_map, List.length_append, List.length_take, List.length_drop, List.length_replicate, List.length_cons, List.length_nil] at *; omega) | ((try unfold inR); simp only [decide_eq_true_eq, decide_eq_false_iff_not, beq_iff_eq, beq_eq_false_iff_ne, ne_eq, Bool.not_eq_true', Bool.not_eq_false', List.length_map, List.length_append, List.length_take, List.length_drop, List.length_replicate, List.length_cons, List.length_nil] at *; omega)) ?_ | refine callX (c0) rfl rfl rfl rfl ?_ | refine callX (cf) rfl rfl rfl rfl ?_ | refine callX (cr) rfl rfl rfl rfl ?_ | refine callX (c1) rfl rfl rfl rfl ?_ | refine callX (c2) rfl rfl rfl rfl ?_ | refine callX (c3) rfl rfl rfl rfl ?_ | refine callX (c4) rfl rfl rfl rfl ?_ | refine callX (c5) rfl rfl rfl rfl ?_ | refine callX (c6) rfl rfl rfl rfl ?_ | refine callX (c7) rfl rfl rfl rfl ?_ | refine callX (c8) rfl rfl rfl rfl ?_ | refine callX (c9) rfl rfl rfl rfl ?_ | refine callX (s0) rfl rfl rfl rfl ?_ | refine eqX flatW rfl rfl rfl rfl rfl ?_ | (refine ARun.fin (by first | (intro h; cases h; done) | (intro _; kernel_rfl)) ?_; dsimp only [thenA, blockA, AS.bump, List.length_cons, List.length_nil, reduceIte, Nat.reduceEqDiff]) | (refine awp_skip ?_; dsimp only [thenA, blockA, AS.bump, List.length_cons, List.length_nil, reduceIte, Nat.reduceEqDiff]) | (refine awp_exit ?_; dsimp only [thenA, blockA, AS.bump, List.length_cons, List.length_nil, reduceIte, Nat.reduceEqDiff]) | refine awp_condT rfl (by first | rfl | assumption | exact beq_int _ | exact bne_int _) ?_ | refine awp_condF rfl (by first | rfl | assumption | exact beq_int _ | exact bne_int _) ?_ | ((fail_if_success refine ARun.plain rfl ?_); first | refine ARun.knowT rfl rfl rfl (by first | rfl | assumption | exact beq_int _ | exact bne_int _) ?_ | refine ARun.knowF rfl rfl rfl (by first | rfl | assumption | exact beq_int _ | exact bne_int _) ?_ | refine ARun.fork rfl rfl rfl (fun h => ?_) (fun h => ?_)) | refine awp_cond rfl (fun h => ?_) (fun h => ?_)))
        (refine awp_ret ⟨_, ResL.cons (ResA.tmp (.val _)) .nil, congrArg (fun b => AV.val (.bool b)) ?_⟩; first | rfl | (symm; assumption) | exact (beq_int _).symm)
end Go.Proofs.Ytedfegoafallhaa
