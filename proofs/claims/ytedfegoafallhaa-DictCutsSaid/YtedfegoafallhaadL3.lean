/- Dictionaries: DictHides returns true. -/
import Derived.Test.YtedfegoafallhaadL2
namespace Go.Proofs.Ytedfegoafallhaa
set_option linter.unusedVariables false
set_option linter.unusedSimpArgs false
open Go Go.RowKit
set_option maxRecDepth 100000

theorem setFl_eq {l : List Wd} {i : Nat} {w : Wd} (h : l[i]? = some w) (fl : Int) : setFl l i fl = l.set i ⟨w.name, w.xt, fl⟩ := by
  unfold setFl
  rw [h]
theorem setFl_at {l : List Wd} {i : Nat} {w : Wd} (h : l[i]? = some w) (fl : Int) : (setFl l i fl)[i]? = some ⟨w.name, w.xt, fl⟩ := by
  rw [setFl_eq h, List.getElem?_set_self (List.getElem?_eq_some_iff.1 h).1]
theorem setFl_mem {l : List Wd} {i : Nat} {fl : Int} {R : Wd → Prop} (h : ∀ w, w ∈ l → R w) (h2 : ∀ w, w ∈ l → R ⟨w.name, w.xt, fl⟩) : ∀ v, v ∈ setFl l i fl → R v := fun v hv => by
  unfold setFl at hv
  split at hv
  · rename_i w hw
    rcases List.mem_or_eq_of_mem_set hv with hv | rfl
    · exact h v hv
    · exact h2 w (List.mem_of_getElem? hw)
  · exact h v hv
theorem setFl_take {l : List Wd} {i : Nat} {w : Wd} (h : l[i]? = some w) (fl : Int) : (setFl l i fl).take i = l.take i := by
  rw [setFl_eq h, List.take_set_of_le (Nat.le_refl _)]
theorem setFl_drop {l : List Wd} {i : Nat} {w : Wd} (h : l[i]? = some w) (fl : Int) : (setFl l i fl).drop (i + 1) = l.drop (i + 1) := by
  rw [setFl_eq h, List.drop_set_of_lt (Nat.lt_succ_self _)]
theorem found_is {P : Wd → Bool} {l : List Wd} {o : Option Nat} (h : ∀ i, o = some i → ∃ w, l[i]? = some w) : ((foundD l o).2.2 = false ∧ o = none) ∨ (∃ i w, o = some i ∧ l[i]? = some w ∧ foundD l o = (w, (i : Int), true)) := by
  cases o with
  | none => exact .inl ⟨rfl, rfl⟩
  | some i =>
    obtain ⟨w, hw⟩ := h i rfl
    exact .inr ⟨i, w, rfl, hw, found_hit hw⟩
/-- What is found, told. -/
theorem lastD_out (P : Wd → Bool) (l : List Wd) (n : Nat) : ((foundD l (lastAt P l n)).2.2 = false) ∨ (∃ i w, i < n ∧ l[i]? = some w ∧ P w = true ∧ foundD l (lastAt P l n) = (w, (i : Int), true)) := by
  cases h : lastAt P l n with
  | none => exact .inl rfl
  | some i =>
    obtain ⟨h1, w, hw, hp⟩ := lastAt_some h
    exact .inr ⟨i, w, h1, hw, hp, found_hit hw⟩
theorem lastD_ge {P : Wd → Bool} {l : List Wd} {i : Nat} {w : Wd} (hw : l[i]? = some w) (hp : P w = true) : ∃ j v, i ≤ j ∧ foundD l (lastAt P l l.length) = (v, ((j : Nat) : Int), true) := by
  obtain ⟨j, h1, h2⟩ := lastAt_ge hw hp (List.getElem?_eq_some_iff.1 hw).1
  obtain ⟨_, v, hv, _⟩ := lastAt_some h1
  exact ⟨j, v, h2, by rw [h1, found_hit hv]⟩
theorem findP_zero (n : Bs) (x : Int) : findP n ⟨n, x, 0⟩ = true := by
  unfold findP
  rw [show hidD ⟨n, x, 0⟩ = false from rfl, show alikeD n n = true from decide_eq_true rfl]
  rfl
theorem findP_two (n n' : Bs) (x : Int) : findP n ⟨n', x, 2⟩ = false := by
  unfold findP
  rw [show hidD ⟨n', x, 2⟩ = true from rfl]
  rfl
attribute [local irreducible] Decidable.decide awp ARun regK toK
set_option maxHeartbeats 8000000 in
theorem hides_c (l : List Wd) (a : Int) (hin : FlIn l) (ha : 0 ≤ a ∧ a ≤ 255) : FnC Try.prog 6 [encWs l, .val (.int .u8 a)] (.val (.bool true)) := by
  have c0 := shown_c
  have cf := few_c l 60 (by omega)
  by_cases hf : FewW l 60
  case neg =>
    rw [fewW_no hf] at cf
    refine FnC.of_awp (T := tt) (ok := tok) Try.func6 (by kernel_rfl) rfl (by kernel_rfl) (closedL_cons (closed_ws _) (closedL_cons (.val _) closedL_nil)) (fun w0 st0 => ?_)
    dsimp only [frOf]
    (repeat' (first | refine awp_seq ?_ | refine awp_block ?_ | refine awp_region (fun _ => hmix) ?_ | refine ARun.op rfl (by first | exact True.intro | exact rfl | (unfold inR; omega) | omega | (unfold inR; simp only [List.length_map, List.length_append, List.length_take, List.length_drop, List.length_replicate, List.length_cons, List.length_nil] at *; omega) | ((try unfold inR); simp only [decide_eq_true_eq, decide_eq_false_iff_not, beq_iff_eq, beq_eq_false_iff_ne, ne_eq, Bool.not_eq_true', Bool.not_eq_false', List.length_map, List.length_append, List.length_take, List.length_drop, List.length_replicate, List.length_cons, List.length_nil] at *; omega)) ?_ | refine callX (c0) rfl rfl rfl rfl ?_ | refine callX (cf) rfl rfl rfl rfl ?_ | (refine ARun.fin (by first | (intro h; cases h; done) | (intro _; kernel_rfl)) ?_; dsimp only [thenA, blockA, AS.bump, List.length_cons, List.length_nil, reduceIte, Nat.reduceEqDiff]) | (refine awp_skip ?_; dsimp only [thenA, blockA, AS.bump, List.length_cons, List.length_nil, reduceIte, Nat.reduceEqDiff]) | (refine awp_exit ?_; dsimp only [thenA, blockA, AS.bump, List.length_cons, List.length_nil, reduceIte, Nat.reduceEqDiff]) | refine awp_condT rfl (by first | rfl | assumption | exact beq_int _ | exact bne_int _) ?_ | refine awp_condF rfl (by first | rfl | assumption | exact beq_int _ | exact bne_int _) ?_ | ((fail_if_success refine ARun.plain rfl ?_); first | refine ARun.knowT rfl rfl rfl (by first | rfl | assumption | exact beq_int _ | exact bne_int _) ?_ | refine ARun.knowF rfl rfl rfl (by first | rfl | assumption | exact beq_int _ | exact bne_int _) ?_ | refine ARun.fork rfl rfl rfl (fun h => ?_) (fun h => ?_)) | refine awp_cond rfl (fun h => ?_) (fun h => ?_)))
    exact awp_ret ⟨_, ResL.cons (ResA.tmp (.val _)) .nil, rfl⟩
  rw [fewW_yes hf] at cf
  have hl : l.length ≤ 60 := by have := hf.1; omega
  have cr := ref_right_c l (by omega) (few_in hf hin)
  by_cases hr : RightW l
  case neg =>
    rw [rightW_no hr] at cr
    refine FnC.of_awp (T := tt) (ok := tok) Try.func6 (by kernel_rfl) rfl (by kernel_rfl) (closedL_cons (closed_ws _) (closedL_cons (.val _) closedL_nil)) (fun w0 st0 => ?_)
    dsimp only [frOf]
    (repeat' (first | refine awp_seq ?_ | refine awp_block ?_ | refine awp_region (fun _ => hmix) ?_ | refine ARun.op rfl (by first | exact True.intro | exact rfl | (unfold inR; omega) | omega | (unfold inR; simp only [List.length_map, List.length_append, List.length_take, List.length_drop, List.length_replicate, List.length_cons, List.length_nil] at *; omega) | ((try unfold inR); simp only [decide_eq_true_eq, decide_eq_false_iff_not, beq_iff_eq, beq_eq_false_iff_ne, ne_eq, Bool.not_eq_true', Bool.not_eq_false', List.length_map, List.length_append, List.length_take, List.length_drop, List.length_replicate, List.length_cons, List.length_nil] at *; omega)) ?_ | refine callX (c0) rfl rfl rfl rfl ?_ | refine callX (cf) rfl rfl rfl rfl ?_ | refine callX (cr) rfl rfl rfl rfl ?_ | (refine ARun.fin (by first | (intro h; cases h; done) | (intro _; kernel_rfl)) ?_; dsimp only [thenA, blockA, AS.bump, List.length_cons, List.length_nil, reduceIte, Nat.reduceEqDiff]) | (refine awp_skip ?_; dsimp only [thenA, blockA, AS.bump, List.length_cons, List.length_nil, reduceIte, Nat.reduceEqDiff]) | (refine awp_exit ?_; dsimp only [thenA, blockA, AS.bump, List.length_cons, List.length_nil, reduceIte, Nat.reduceEqDiff]) | refine awp_condT rfl (by first | rfl | assumption | exact beq_int _ | exact bne_int _) ?_ | refine awp_condF rfl (by first | rfl | assumption | exact beq_int _ | exact bne_int _) ?_ | ((fail_if_success refine ARun.plain rfl ?_); first | refine ARun.knowT rfl rfl rfl (by first | rfl | assumption | exact beq_int _ | exact bne_int _) ?_ | refine ARun.knowF rfl rfl rfl (by first | rfl | assumption | exact beq_int _ | exact bne_int _) ?_ | refine ARun.fork rfl rfl rfl (fun h => ?_) (fun h => ?_)) | refine awp_cond rfl (fun h => ?_) (fun h => ?_)))
    exact awp_ret ⟨_, ResL.cons (ResA.tmp (.val _)) .nil, rfl⟩
  rw [rightW_yes hr] at cr
  by_cases hz : l.length = 0
  · have d : ((((l.map encW).length : Nat) : Int) == 0) = true := beq_iff_eq.2 (by rw [List.length_map, hz]; rfl)
    refine FnC.of_awp (T := tt) (ok := tok) Try.func6 (by kernel_rfl) rfl (by kernel_rfl) (closedL_cons (closed_ws _) (closedL_cons (.val _) closedL_nil)) (fun w0 st0 => ?_)
    dsimp only [frOf]
    (repeat' (first | refine awp_seq ?_ | refine awp_block ?_ | refine awp_region (fun _ => hmix) ?_ | refine ARun.op rfl (by first | exact True.intro | exact rfl | (unfold inR; omega) | omega | (unfold inR; simp only [List.length_map, List.length_append, List.length_take, List.length_drop, List.length_replicate, List.length_cons, List.length_nil] at *; omega) | ((try unfold inR); simp only [decide_eq_true_eq, decide_eq_false_iff_not, beq_iff_eq, beq_eq_false_iff_ne, ne_eq, Bool.not_eq_true', Bool.not_eq_false', List.length_map, List.length_append, List.length_take, List.length_drop, List.length_replicate, List.length_cons, List.length_nil] at *; omega)) ?_ | refine callX (c0) rfl rfl rfl rfl ?_ | refine callX (cf) rfl rfl rfl rfl ?_ | refine callX (cr) rfl rfl rfl rfl ?_ | (refine ARun.fin (by first | (intro h; cases h; done) | (intro _; kernel_rfl)) ?_; dsimp only [thenA, blockA, AS.bump, List.length_cons, List.length_nil, reduceIte, Nat.reduceEqDiff]) | (refine awp_skip ?_; dsimp only [thenA, blockA, AS.bump, List.length_cons, List.length_nil, reduceIte, Nat.reduceEqDiff]) | (refine awp_exit ?_; dsimp only [thenA, blockA, AS.bump, List.length_cons, List.length_nil, reduceIte, Nat.reduceEqDiff]) | refine awp_condT rfl (by first | rfl | assumption | exact beq_int _ | exact bne_int _) ?_ | refine awp_condF rfl (by first | rfl | assumption | exact beq_int _ | exact bne_int _) ?_ | ((fail_if_success refine ARun.plain rfl ?_); first | refine ARun.knowT rfl rfl rfl (by first | rfl | assumption | exact beq_int _ | exact bne_int _) ?_ | refine ARun.knowF rfl rfl rfl (by first | rfl | assumption | exact beq_int _ | exact bne_int _) ?_ | refine ARun.fork rfl rfl rfl (fun h => ?_) (fun h => ?_)) | refine awp_cond rfl (fun h => ?_) (fun h => ?_)))
    exact awp_ret ⟨_, ResL.cons (ResA.tmp (.val _)) .nil, rfl⟩
  have hL : (((l.map encW).length : Nat) : Int) = (l.length : Int) := by rw [List.length_map]
  have d : ((((l.map encW).length : Nat) : Int) == 0) = false := by rw [hL]; simp; intro h; exact hz (by rw [h]; rfl)
  have hLn : (((l.map encW).length : Nat) : Int) ≠ 0 := by omega
  have eI : (a.tmod (((l.map encW).length : Nat) : Int)) = a % (l.length : Int) := by rw [hL]; exact Int.tmod_eq_emod_of_nonneg ha.1
  have hI0 : 0 ≤ (a.tmod (((l.map encW).length : Nat) : Int)) := by rw [eI]; exact Int.emod_nonneg _ (by omega)
  have hI1 : (a.tmod (((l.map encW).length : Nat) : Int)) < (((l.map encW).length : Nat) : Int) := by rw [eI, hL]; exact Int.emod_lt_of_pos _ (by omega)
  clear eI
  obtain ⟨i, hI⟩ : ∃ i : Nat, (a.tmod (((l.map encW).length : Nat) : Int)) = (i : Int) := ⟨((a.tmod (((l.map encW).length : Nat) : Int))).toNat, by omega⟩
  have hil : i < l.length := by omega
  have hw : l[i]? = some l[i] := List.getElem?_eq_getElem hil
  have hwm : l[i] ∈ l := List.getElem_mem hil
  generalize l[i] = w at hw hwm
  have hit : ((a.tmod (((l.map encW).length : Nat) : Int))).toNat = i := by omega
  have hnl : NameIn l := right_name hf hr
  have f1 : flagD l (a.tmod (((l.map encW).length : Nat) : Int)) 2 = (setFl l i 2, 0) := by unfold flagD; rw [if_neg (by omega), hit]
  have c1 := flag_c l (a.tmod (((l.map encW).length : Nat) : Int)) 2 (by omega) (by omega)
  rw [f1] at c1
  have hx := setFl_at hw 2
  have hxl : (setFl l i 2).length = l.length := setFl_len _ _ _
  have ht := setFl_take hw 2
  have hd := setFl_drop hw 2
  have hnx : NameIn (setFl l i 2) := setFl_mem hnl (fun v hv => ⟨(hnl v hv).1, by show (0 : Int) ≤ 2; omega, by show (2 : Int) ≤ 7; omega⟩)
  generalize setFl l i 2 = x at *
  have f2 : flagD x (a.tmod (((l.map encW).length : Nat) : Int)) 0 = (setFl x i 0, 0) := by unfold flagD; rw [if_neg (by omega), hit]
  have c2 := flag_c x (a.tmod (((l.map encW).length : Nat) : Int)) 0 (by omega) (by omega)
  rw [f2] at c2
  have hy := setFl_at hx 0
  have hyl : (setFl x i 0).length = x.length := setFl_len _ _ _
  have hny : NameIn (setFl x i 0) := setFl_mem hnx (fun v hv => ⟨(hnx v hv).1, by show (0 : Int) ≤ 0; omega, by show (0 : Int) ≤ 7; omega⟩)
  generalize setFl x i 0 = y at *
  dsimp only at hx hy
  have hwn := (hnl w hwm).1
  have c3 := find_c x w.name (by omega) hwn hnx
  have c4 := find_c y w.name (by omega) hwn hny
  have c5 := of_c x w.xt (by omega)
  -- what is found
  have r3 : (findD x w.name).2.2 = false ∨ (((findD x w.name).2.2 = true) ∧ ((findD x w.name).2.1 != (a.tmod (((l.map encW).length : Nat) : Int))) = true) := by
    rcases lastD_out (findP w.name) x x.length with h | ⟨j, v, h1, h2, h3, h4⟩
    · exact .inl h
    · right
      have e : findD x w.name = (v, (j : Int), true) := h4
      rw [e]
      refine ⟨rfl, ?_⟩
      have hne : (j : Int) ≠ (a.tmod (((l.map encW).length : Nat) : Int)) := fun hj => by
        obtain rfl : j = i := by omega
        rw [hx] at h2
        obtain rfl := Option.some.inj h2
        exact absurd h3 (by rw [findP_two]; simp)
      simpa using hne
  obtain ⟨j4, v4, g4, e4⟩ := lastD_ge (P := findP w.name) hy (findP_zero _ _)
  obtain ⟨j5, v5, g5, e5⟩ := lastD_ge (P := ofP w.xt) hx (by unfold ofP; exact beq_int _)
  rw [show findD y w.name = _ from e4] at c4
  rw [show ofD x w.xt = _ from e5] at c5
  have d4 : decide ((a.tmod (((l.map encW).length : Nat) : Int)) ≤ ((j4 : Nat) : Int)) = true := decide_eq_true (by omega)
  have d5 : decide ((a.tmod (((l.map encW).length : Nat) : Int)) ≤ ((j5 : Nat) : Int)) = true := decide_eq_true (by omega)
  have dl : ((((x.map encW).length : Nat) : Int) == (((l.map encW).length : Nat) : Int)) = true := by rw [List.length_map, List.length_map, hxl]; exact beq_int _
  have he1 : (l.map encW)[((a.tmod (((l.map encW).length : Nat) : Int))).toNat]? = some (encW w) := by rw [hit]; exact get_map hw
  have he2 : (x.map encW)[((a.tmod (((l.map encW).length : Nat) : Int))).toNat]? = some (encW ⟨w.name, w.xt, 2⟩) := by rw [hit]; exact get_map hx
  have hxL : (((x.map encW).length : Nat) : Int) = (((l.map encW).length : Nat) : Int) := by rw [List.length_map, List.length_map, hxl]
  have hsx : x.map encW = (l.take i).map encW ++ (x.drop i).map encW := by rw [← ht, ← List.map_append, List.take_append_drop]
  have hsl : l.map encW = (l.take i).map encW ++ (l.drop i).map encW := by rw [← List.map_append, List.take_append_drop]
  have htx : x.map encW = (x.take (i + 1)).map encW ++ (l.drop (i + 1)).map encW := by rw [← hd, ← List.map_append, List.take_append_drop]
  have htl : l.map encW = (l.take (i + 1)).map encW ++ (l.drop (i + 1)).map encW := by rw [← List.map_append, List.take_append_drop]
  have hI3 : (a.tmod (((l.map encW).length : Nat) : Int)) = (((l.take i).map encW).length : Nat) := by
    have h : ((l.take i).map encW).length = i := by rw [List.length_map, List.length_take]; omega
    omega
  have hI4 : (a.tmod (((l.map encW).length : Nat) : Int)) + 1 = (((x.take (i + 1)).map encW).length : Nat) := by
    have h : ((x.take (i + 1)).map encW).length = (i + 1) := by rw [List.length_map, List.length_take]; omega
    omega
  have hI5 : (a.tmod (((l.map encW).length : Nat) : Int)) + 1 = (((l.take (i + 1)).map encW).length : Nat) := by
    have h : ((l.take (i + 1)).map encW).length = (i + 1) := by rw [List.length_map, List.length_take]; omega
    omega
  have s1 := ref_same_c (l.take i) (l.take i) (by rw [List.length_take]; omega)
  have s2 := ref_same_c (l.drop (i + 1)) (l.drop (i + 1)) (by rw [List.length_drop]; omega)
  rw [sameW_refl] at s1 s2
  have en : ((ByteArray.mk w.name.toArray).toList == (ByteArray.mk w.name.toArray).toList) = true := by rw [bs_eq]; exact decide_eq_true rfl
  have wr : IntKind.i64.wrap ((a.tmod (((l.map encW).length : Nat) : Int)) + 1) = (a.tmod (((l.map encW).length : Nat) : Int)) + 1 := by rw [IntKind.wrap_i64]; omega
  generalize findD x w.name = p at *
  obtain ⟨⟨pn, px, pf⟩, pi, pb⟩ := p
  dsimp only at r3
  clear f1 f2 e4 e5 g4 g5 hx hy
  simp only [encWE, encFd] at c1 c2 c3 c4 c5
  rcases r3 with rfl | ⟨rfl, d3⟩
  · refine FnC.of_awp (T := tt) (ok := tok) Try.func6 (by kernel_rfl) rfl (by kernel_rfl) (closedL_cons (closed_ws _) (closedL_cons (.val _) closedL_nil)) (fun w0 st0 => ?_)
    dsimp only [frOf]
    (repeat' (first | refine awp_seq ?_ | refine awp_block ?_ | refine awp_region (fun _ => hmix) ?_ | refine ARun.op rfl (by first | exact True.intro | exact rfl | (unfold inR; omega) | omega | (unfold inR; simp only [List.length_map, List.length_append, List.length_take, List.length_drop, List.length_replicate, List.length_cons, List.length_nil] at *; omega) | ((try unfold inR); simp only [decide_eq_true_eq, decide_eq_false_iff_not, beq_iff_eq, beq_eq_false_iff_ne, ne_eq, Bool.not_eq_true', Bool.not_eq_false', List.length_map, List.length_append, List.length_take, List.length_drop, List.length_replicate, List.length_cons, List.length_nil] at *; omega)) ?_ | refine callX (c0) rfl rfl rfl rfl ?_ | refine callX (cf) rfl rfl rfl rfl ?_ | refine callX (cr) rfl rfl rfl rfl ?_ | refine callX (c1) rfl rfl rfl rfl ?_ | refine callX (c2) rfl rfl rfl rfl ?_ | refine callX (c3) rfl rfl rfl rfl ?_ | refine callX (c4) rfl rfl rfl rfl ?_ | refine callX (c5) rfl rfl rfl rfl ?_ | refine callX (s1) rfl rfl rfl rfl ?_ | refine callX (s2) rfl rfl rfl rfl ?_ | refine ARun.indexAddr rfl rfl (by first | omega | (dsimp only [maxLen]; done) | (dsimp only [maxLen]; omega) | (simp only [List.length_append, List.length_map, List.length_take, List.length_drop, List.length_replicate, List.length_cons, List.length_nil, maxLen]; done) | (simp only [List.length_append, List.length_map, List.length_take, List.length_drop, List.length_replicate, List.length_cons, List.length_nil, maxLen]; omega) | (simp only [List.length_append, List.length_map, List.length_take, List.length_drop, List.length_replicate, List.length_cons, List.length_nil, maxLen] at *; done) | (simp only [List.length_append, List.length_map, List.length_take, List.length_drop, List.length_replicate, List.length_cons, List.length_nil, maxLen] at *; omega)) (by first | assumption | rfl) rfl rfl rfl rfl rfl (guardF_spec rfl) ?_ | refine ARun.sliceTo rfl (by first | exact hsx | exact hsl) rfl hI3 rfl rfl rfl rfl rfl (guardF_spec rfl) ?_ | refine ARun.sliceFrom rfl (by first | exact htx | exact htl) rfl (by first | exact hI4 | exact hI5) rfl rfl rfl rfl rfl (guardF_spec rfl) ?_ | (refine ARun.fin (by first | (intro h; cases h; done) | (intro _; kernel_rfl)) ?_; dsimp only [thenA, blockA, AS.bump, List.length_cons, List.length_nil, reduceIte, Nat.reduceEqDiff]) | (refine awp_skip ?_; dsimp only [thenA, blockA, AS.bump, List.length_cons, List.length_nil, reduceIte, Nat.reduceEqDiff]) | (refine awp_exit ?_; dsimp only [thenA, blockA, AS.bump, List.length_cons, List.length_nil, reduceIte, Nat.reduceEqDiff]) | refine awp_condT rfl (by first | rfl | assumption | exact beq_int _ | exact bne_int _) ?_ | refine awp_condF rfl (by first | rfl | assumption | exact beq_int _ | exact bne_int _) ?_ | ((fail_if_success refine ARun.plain rfl ?_); first | refine ARun.knowT rfl rfl rfl (by first | rfl | assumption | exact beq_int _ | exact bne_int _) ?_ | refine ARun.knowF rfl rfl rfl (by first | rfl | assumption | exact beq_int _ | exact bne_int _) ?_)))
    (refine awp_ret ⟨_, ResL.cons (ResA.tmp (.val _)) .nil, congrArg (fun b => AV.val (.bool b)) ?_⟩; first | rfl | (symm; assumption) | exact (beq_int _).symm)
  · refine FnC.of_awp (T := tt) (ok := tok) Try.func6 (by kernel_rfl) rfl (by kernel_rfl) (closedL_cons (closed_ws _) (closedL_cons (.val _) closedL_nil)) (fun w0 st0 => ?_)
    dsimp only [frOf]
    (repeat' (first | refine awp_seq ?_ | refine awp_block ?_ | refine awp_region (fun _ => hmix) ?_ | refine ARun.op rfl (by first | exact True.intro | exact rfl | (unfold inR; omega) | omega | (unfold inR; simp only [List.length_map, List.length_append, List.length_take, List.length_drop, List.length_replicate, List.length_cons, List.length_nil] at *; omega) | ((try unfold inR); simp only [decide_eq_true_eq, decide_eq_false_iff_not, beq_iff_eq, beq_eq_false_iff_ne, ne_eq, Bool.not_eq_true', Bool.not_eq_false', List.length_map, List.length_append, List.length_take, List.length_drop, List.length_replicate, List.length_cons, List.length_nil] at *; omega)) ?_ | refine callX (c0) rfl rfl rfl rfl ?_ | refine callX (cf) rfl rfl rfl rfl ?_ | refine callX (cr) rfl rfl rfl rfl ?_ | refine callX (c1) rfl rfl rfl rfl ?_ | refine callX (c2) rfl rfl rfl rfl ?_ | refine callX (c3) rfl rfl rfl rfl ?_ | refine callX (c4) rfl rfl rfl rfl ?_ | refine callX (c5) rfl rfl rfl rfl ?_ | refine callX (s1) rfl rfl rfl rfl ?_ | refine callX (s2) rfl rfl rfl rfl ?_ | refine ARun.indexAddr rfl rfl (by first | omega | (dsimp only [maxLen]; done) | (dsimp only [maxLen]; omega) | (simp only [List.length_append, List.length_map, List.length_take, List.length_drop, List.length_replicate, List.length_cons, List.length_nil, maxLen]; done) | (simp only [List.length_append, List.length_map, List.length_take, List.length_drop, List.length_replicate, List.length_cons, List.length_nil, maxLen]; omega) | (simp only [List.length_append, List.length_map, List.length_take, List.length_drop, List.length_replicate, List.length_cons, List.length_nil, maxLen] at *; done) | (simp only [List.length_append, List.length_map, List.length_take, List.length_drop, List.length_replicate, List.length_cons, List.length_nil, maxLen] at *; omega)) (by first | assumption | rfl) rfl rfl rfl rfl rfl (guardF_spec rfl) ?_ | refine ARun.sliceTo rfl (by first | exact hsx | exact hsl) rfl hI3 rfl rfl rfl rfl rfl (guardF_spec rfl) ?_ | refine ARun.sliceFrom rfl (by first | exact htx | exact htl) rfl (by first | exact hI4 | exact hI5) rfl rfl rfl rfl rfl (guardF_spec rfl) ?_ | (refine ARun.fin (by first | (intro h; cases h; done) | (intro _; kernel_rfl)) ?_; dsimp only [thenA, blockA, AS.bump, List.length_cons, List.length_nil, reduceIte, Nat.reduceEqDiff]) | (refine awp_skip ?_; dsimp only [thenA, blockA, AS.bump, List.length_cons, List.length_nil, reduceIte, Nat.reduceEqDiff]) | (refine awp_exit ?_; dsimp only [thenA, blockA, AS.bump, List.length_cons, List.length_nil, reduceIte, Nat.reduceEqDiff]) | refine awp_condT rfl (by first | rfl | assumption | exact beq_int _ | exact bne_int _) ?_ | refine awp_condF rfl (by first | rfl | assumption | exact beq_int _ | exact bne_int _) ?_ | ((fail_if_success refine ARun.plain rfl ?_); first | refine ARun.knowT rfl rfl rfl (by first | rfl | assumption | exact beq_int _ | exact bne_int _) ?_ | refine ARun.knowF rfl rfl rfl (by first | rfl | assumption | exact beq_int _ | exact bne_int _) ?_)))
    (refine awp_ret ⟨_, ResL.cons (ResA.tmp (.val _)) .nil, congrArg (fun b => AV.val (.bool b)) ?_⟩; first | rfl | (symm; assumption) | exact (beq_int _).symm)
end Go.Proofs.Ytedfegoafallhaa
