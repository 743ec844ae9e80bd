/- EvqScript returns true at every input, and leaves its arguments as they were. -/
import Derived.Test.YtpolenndeeaodabQk
namespace Go.Proofs.Ytpolenndeeaodab
set_option linter.unusedVariables false
set_option linter.unusedSimpArgs false
open Go Go.RowKit Go.ChangeShapes Go.WideShapes Go.Deep Go.Proofs.Ytpolenndeeaodab
set_option maxRecDepth 100000

abbrev Ac := Bool × Int × Int × Int
def encA (a : Ac) : List AV := [.val (.bool a.1), .val (.int .i64 a.2.1), .val (.int .i64 a.2.2.1), .val (.int .i64 a.2.2.2)]
theorem closed_a (a : Ac) : ∀ x, x ∈ encA a → Closed x := closedL_cons (.val _) (closedL_cons (.val _) (closedL_cons (.val _) (closedL_cons (.val _) closedL_nil)))

theorem tmod_lo {u m : Int} (h : 0 ≤ u) (hm : 0 < m) : 0 ≤ u.tmod m ∧ u.tmod m < m := by
  rw [Int.tmod_eq_emod_of_nonneg h]
  exact ⟨Int.emod_nonneg _ (by omega), Int.emod_lt_of_pos _ hm⟩
theorem new_right {room age : Int} (h1 : 1 ≤ room ∧ room ≤ 64) (h2 : 1 ≤ age ∧ age ≤ 1048576) : RightP ⟨[], room, age, 0⟩ :=
  ⟨h1, h2, by dsimp only; omega, by dsimp only [List.length_nil]; omega, by show -1 < (0 : Int); omega, fun j e hj => absurd hj (Nat.not_lt_zero j)⟩
theorem new_ok {room age : Int} (h1 : 1 ≤ room ∧ room ≤ 64) (h2 : 1 ≤ age ∧ age ≤ 1048576) : newQ room age = (⟨[], room, age, 0⟩, 0) := newQ_yes (by unfold newOk; simp; omega)

section
attribute [local irreducible] Decidable.decide awp ARun regK toK
set_option maxHeartbeats 4000000 in
theorem script_c (u v : Int) (l : List Ac) (hu : 0 ≤ u ∧ u ≤ 255) (hv : 0 ≤ v ∧ v ≤ 255) : FnC Try.prog 7 [.val (.int .u8 u), .val (.int .u8 v), .sl 4 false (l.map encA)] (.val (.bool true)) := by
  refine FnC.of_awp (T := tt) (ok := tok) Try.func7 (by kernel_rfl) rfl (by kernel_rfl) (closedL_cons (.val _) (closedL_cons (.val _) (closedL_cons (closed_map closed_a) closedL_nil))) (fun w0 st0 => ?_)
  dsimp only [frOf]
  by_cases hlen : 100 < l.length
  · have d1 : decide ((100 : Int) < (((l.map encA).length : Nat) : Int)) = true := by rw [List.length_map]; simp; omega
    (repeat' (first | refine awp_seq ?_ | refine awp_block ?_ | refine awp_region (fun _ => hmix) ?_ | refine ARun.op rfl (by first | exact True.intro | exact rfl | (unfold inR; omega) | omega) ?_ | refine callX (shown_c) rfl rfl rfl rfl ?_ | (refine ARun.fin (by first | (intro h; cases h; done) | (intro _; kernel_rfl)) ?_; dsimp only [thenA, blockA, AS.bump, List.length_cons, List.length_nil, reduceIte, Nat.reduceEqDiff]) | (refine awp_skip ?_; dsimp only [thenA, blockA, AS.bump, List.length_cons, List.length_nil, reduceIte, Nat.reduceEqDiff]) | (refine awp_exit ?_; dsimp only [thenA, blockA, AS.bump, List.length_cons, List.length_nil, reduceIte, Nat.reduceEqDiff]) | refine awp_condT rfl (by first | rfl | assumption) ?_ | refine awp_condF rfl (by first | rfl | assumption) ?_ | ((fail_if_success refine ARun.plain rfl ?_); first | refine ARun.knowT rfl rfl rfl (by first | rfl | assumption) ?_ | refine ARun.knowF rfl rfl rfl (by first | rfl | assumption) ?_ | refine ARun.fork rfl rfl rfl (fun h => ?_) (fun h => ?_)) | refine awp_cond rfl (fun h => ?_) (fun h => ?_)))
    exact awp_ret ⟨_, ResL.cons (ResA.tmp (.val _)) .nil, rfl⟩
  have d1 : decide ((100 : Int) < (((l.map encA).length : Nat) : Int)) = false := by rw [List.length_map]; simp; omega
  have hr := tmod_lo (m := 64) hu.1 (by omega)
  have ha := tmod_lo (m := 10) hv.1 (by omega)
  have c1 := new_c (1 + u.tmod 64) (1 + v.tmod 10)
  have c2 := ref_new_c (1 + u.tmod 64) (1 + v.tmod 10)
  rw [new_ok (by omega) (by omega)] at c1 c2
  have hR := new_right (room := 1 + u.tmod 64) (age := 1 + v.tmod 10) (by omega) (by omega)
  have n1 : ((0 : Int) != 0) = false := by simp
  have n2 : (!(true == true)) = false := by simp
  have n3 : (!(false == false)) = false := by simp
  (repeat' (first | refine awp_seq ?_ | refine awp_block ?_ | refine awp_region (fun _ => hmix) ?_ | refine ARun.op rfl (by first | exact True.intro | exact rfl | (unfold inR; omega) | omega) ?_ | refine callX (shown_c) rfl rfl rfl rfl ?_ | refine callX (c1) rfl rfl rfl rfl ?_ | refine callX (c2) rfl rfl rfl rfl ?_ | (refine ARun.fin (by first | (intro h; cases h; done) | (intro _; kernel_rfl)) ?_; dsimp only [thenA, blockA, AS.bump, List.length_cons, List.length_nil, reduceIte, Nat.reduceEqDiff]) | (refine awp_skip ?_; dsimp only [thenA, blockA, AS.bump, List.length_cons, List.length_nil, reduceIte, Nat.reduceEqDiff]) | (refine awp_exit ?_; dsimp only [thenA, blockA, AS.bump, List.length_cons, List.length_nil, reduceIte, Nat.reduceEqDiff]) | refine awp_condT rfl (by first | rfl | assumption) ?_ | refine awp_condF rfl (by first | rfl | assumption) ?_ | ((fail_if_success refine ARun.plain rfl ?_); first | refine ARun.knowT rfl rfl rfl (by first | rfl | assumption) ?_ | refine ARun.knowF rfl rfl rfl (by first | rfl | assumption) ?_ | refine ARun.fork rfl rfl rfl (fun h => ?_) (fun h => ?_)) | refine awp_cond rfl (fun h => ?_) (fun h => ?_)))
  refine awp_loopT (T := Nat × Q × Nat) (fun t => ⟨[(2, .sl 4 false (l.map encA)), (6, .val (.bool false)), (7, .val (.bool true)), (8, .ptr 8 18 0 0), (10, .ptr 10 33 0 0), (12, .val (.int .i64 (t.1 : Nat)))], [(8, some ⟨18, 4, [encQ t.2.1]⟩), (10, some ⟨33, 4, [encQ t.2.1]⟩)], t.2.2⟩)
    (fun t => t.1 ≤ l.length ∧ RightP t.2.1) (fun t => l.length - t.1) (0, _, _) ⟨Nat.zero_le _, hR⟩ ⟨⟨rfl, rfl, rfl, rfl, rfl, rfl, trivial⟩, ⟨rfl, rfl, trivial⟩, Nat.le_refl _⟩ (fun t ht => ?_)
  clear c1 c2 hR
  obtain ⟨k, q, gc⟩ := t
  obtain ⟨hk, hR⟩ := ht
  dsimp only at hk hR ⊢
  by_cases hlt : k < l.length
  · have hc : decide (((k : Nat) : Int) < (((l.map encA).length : Nat) : Int)) = true := by rw [List.length_map]; simp; omega
    have h1 : l[k]? = some l[k] := List.getElem?_eq_getElem hlt
    generalize l[k] = x at *
    obtain ⟨xt, xr, xh, xa⟩ := x
    cases xt with
    | true =>
      have ca := hR.take_c
      have cb := hR.ref_take_c
      have hT := hR.take
      generalize takeQ q = t at *
      obtain ⟨te, tq, ts⟩ := t
      dsimp only at ca cb hT
      have d6 : (!(eqEv te te)) = false := by rw [eqEv_refl]; rfl
      have cs := ref_same_c tq tq (by have := hT.len; omega)
      rw [sameQ_refl] at cs
      cases ts
      all_goals
        (repeat' (first | refine awp_seq ?_ | refine awp_block ?_ | refine awp_region (fun _ => hmix) ?_ | refine ARun.op rfl (by first | exact True.intro | exact rfl | (unfold inR; omega) | omega) ?_ | refine ARun.indexAddr rfl rfl (by omega) (by first | with_reducible exact get_map h1 | with_reducible exact get_map h1) rfl rfl rfl rfl rfl (guardF_spec rfl) ?_ | refine callX (ca) rfl rfl rfl rfl ?_ | refine callX (cb) rfl rfl rfl rfl ?_ | refine callX (cs) rfl rfl rfl rfl ?_ | refine neX flat40 rfl rfl rfl rfl rfl ?_ | (refine ARun.fin (by first | (intro h; cases h; done) | (intro _; kernel_rfl)) ?_; dsimp only [thenA, blockA, AS.bump, List.length_cons, List.length_nil, reduceIte, Nat.reduceEqDiff]) | (refine awp_skip ?_; dsimp only [thenA, blockA, AS.bump, List.length_cons, List.length_nil, reduceIte, Nat.reduceEqDiff]) | (refine awp_exit ?_; dsimp only [thenA, blockA, AS.bump, List.length_cons, List.length_nil, reduceIte, Nat.reduceEqDiff]) | refine awp_condT rfl (by first | rfl | assumption) ?_ | refine awp_condF rfl (by first | rfl | assumption) ?_ | ((fail_if_success refine ARun.plain rfl ?_); first | refine ARun.knowT rfl rfl rfl (by first | rfl | assumption) ?_ | refine ARun.knowF rfl rfl rfl (by first | rfl | assumption) ?_ | refine ARun.fork rfl rfl rfl (fun h => ?_) (fun h => ?_)) | refine awp_cond rfl (fun h => ?_) (fun h => ?_)))
        exact ⟨(k + 1, tq, _), ⟨⟨rfl, rfl, rfl, rfl, rfl, succI k, trivial⟩, ⟨rfl, rfl, trivial⟩, Nat.le_refl _⟩, ⟨hlt, hT⟩, by dsimp only; omega⟩
    | false =>
      have ca := post_c q xr xh xa (by have := hR.len; omega) hR.nx
      have cb := ref_post_c q xr xh xa (by have := hR.len; omega) hR.nx
      have hT := hR.post xr xh xa
      generalize postQ q xr xh xa = t at *
      obtain ⟨pq, pi, pe⟩ := t
      dsimp only at ca cb hT
      have d6 : (pi != pi) = false := by simp
      have d7 : (pe != pe) = false := by simp
      have cs := ref_same_c pq pq (by have := hT.len; omega)
      rw [sameQ_refl] at cs
      (repeat' (first | refine awp_seq ?_ | refine awp_block ?_ | refine awp_region (fun _ => hmix) ?_ | refine ARun.op rfl (by first | exact True.intro | exact rfl | (unfold inR; omega) | omega) ?_ | refine ARun.indexAddr rfl rfl (by omega) (by first | with_reducible exact get_map h1 | with_reducible exact get_map h1) rfl rfl rfl rfl rfl (guardF_spec rfl) ?_ | refine callX (ca) rfl rfl rfl rfl ?_ | refine callX (cb) rfl rfl rfl rfl ?_ | refine callX (cs) rfl rfl rfl rfl ?_ | (refine ARun.fin (by first | (intro h; cases h; done) | (intro _; kernel_rfl)) ?_; dsimp only [thenA, blockA, AS.bump, List.length_cons, List.length_nil, reduceIte, Nat.reduceEqDiff]) | (refine awp_skip ?_; dsimp only [thenA, blockA, AS.bump, List.length_cons, List.length_nil, reduceIte, Nat.reduceEqDiff]) | (refine awp_exit ?_; dsimp only [thenA, blockA, AS.bump, List.length_cons, List.length_nil, reduceIte, Nat.reduceEqDiff]) | refine awp_condT rfl (by first | rfl | assumption) ?_ | refine awp_condF rfl (by first | rfl | assumption) ?_ | ((fail_if_success refine ARun.plain rfl ?_); first | refine ARun.knowT rfl rfl rfl (by first | rfl | assumption) ?_ | refine ARun.knowF rfl rfl rfl (by first | rfl | assumption) ?_ | refine ARun.fork rfl rfl rfl (fun h => ?_) (fun h => ?_)) | refine awp_cond rfl (fun h => ?_) (fun h => ?_)))
      exact ⟨(k + 1, pq, _), ⟨⟨rfl, rfl, rfl, rfl, rfl, succI k, trivial⟩, ⟨rfl, rfl, trivial⟩, Nat.le_refl _⟩, ⟨hlt, hT⟩, by dsimp only; omega⟩
  · have hc : decide (((k : Nat) : Int) < (((l.map encA).length : Nat) : Int)) = false := by rw [List.length_map]; simp; omega
    (repeat' (first | refine awp_seq ?_ | refine awp_block ?_ | refine awp_region (fun _ => hmix) ?_ | refine ARun.op rfl (by first | exact True.intro | exact rfl | (unfold inR; omega) | omega) ?_ | (refine ARun.fin (by first | (intro h; cases h; done) | (intro _; kernel_rfl)) ?_; dsimp only [thenA, blockA, AS.bump, List.length_cons, List.length_nil, reduceIte, Nat.reduceEqDiff]) | (refine awp_skip ?_; dsimp only [thenA, blockA, AS.bump, List.length_cons, List.length_nil, reduceIte, Nat.reduceEqDiff]) | (refine awp_exit ?_; dsimp only [thenA, blockA, AS.bump, List.length_cons, List.length_nil, reduceIte, Nat.reduceEqDiff]) | refine awp_condT rfl (by first | rfl | assumption) ?_ | refine awp_condF rfl (by first | rfl | assumption) ?_ | ((fail_if_success refine ARun.plain rfl ?_); first | refine ARun.knowT rfl rfl rfl (by first | rfl | assumption) ?_ | refine ARun.knowF rfl rfl rfl (by first | rfl | assumption) ?_ | refine ARun.fork rfl rfl rfl (fun h => ?_) (fun h => ?_)) | refine awp_cond rfl (fun h => ?_) (fun h => ?_)))
    exact awp_ret ⟨_, ResL.cons (ResA.tmp (.val _)) .nil, rfl⟩
end
section
variable {H : Type} {encT : TypeId × Value → H} {P : Program} {w : World} {base : Nat} {spare : Nat → Bool} {held : Bool}
theorem arg_u8 {t : TypeId} {r : Reach} {b0 : Nat} {v : Value} {d : DataW H} {p : List MemPlace} (ht : P.underlying t = some (.int .u8)) (hv : Value.okWide P w r b0 t v)
    (h : DataW.Trod encT P w base spare held t v d p) : ∃ n, Rep (still w) w (.val (.int .u8 n)) v ∧ 0 ≤ n ∧ n ≤ 255 := by
  obtain ⟨n, rfl⟩ := okWide_int ht hv
  exact arg_one (enc := fun n => .val (.int .u8 n)) rfl h (opens_u8 ht)
end
section
variable {H : Type} {encT : TypeId × Value → H} {w : World} {base : Nat} {spare : Nat → Bool} {held : Bool}
theorem cells4 : Try.prog.cellsOf 4 = 1 := by kernel_rfl
theorem opens_act : Opens encT Try.prog w base spare held 49 encA (fun _ => True) := fun n cs x h => by
  obtain ⟨xs, m, rfl, _, hlen, hyl, hf⟩ := DataW.trod_struct Try.underlying49 h
  have hC : Try.prog.cellsOf 49 = 4 := by kernel_rfl
  rw [hC] at hlen
  match cs, hlen with
  | [c0, c1, c2, c3], _ =>
    match xs, hyl with
    | [y0, y1, y2, y3], _ =>
      have f0 := hf 0 _ rfl
      have f1 := hf 1 _ rfl
      have f2 := hf 2 _ rfl
      have f3 := hf 3 _ rfl
      simp [cells3, cells4] at f0 f1 f2 f3
      obtain ⟨a0, k0, _⟩ := opens_bool Try.underlying4 _ _ _ f0
      obtain ⟨a1, k1, _⟩ := opens_i _ _ _ f1
      obtain ⟨a2, k2, _⟩ := opens_i _ _ _ f2
      obtain ⟨a3, k3, _⟩ := opens_i _ _ _ f3
      exact ⟨(a0, a1, a2, a3), k0.app (k1.app (k2.app k3)), trivial⟩
theorem opens_acts : Opens encT Try.prog w base spare held 47 (encL 4 encA) (fun l => l.length ≤ maxLen ∧ ∀ y, y ∈ l → True) := opens_slice Try.underlying47 (by kernel_rfl) (by decide) (fun _ => rfl) opens_act
end
theorem evqScript_lifted (os : Os) (started : os.Started) (H : Type) (enc : TypeId × Value → H) :
    ReturnsInHanded {} Try.checked os 7 .any (Rows.evqScriptSpec.pre6 enc Try.prog Try.f7 Rows.evqScriptRow.domain false) (Rows.evqScriptSpec.post enc Try.prog Try.f7 false true false false) := by
  refine returnsInHanded_of_change (C := Try.checked) own_knob started (by kernel_rfl) Try.func7
    (ChangeSpec.witness6 (enc := enc) (C := Try.checked) false ⟨#[], #[.int .u8 0, .int .u8 0, .slice none 0 0], []⟩ 12 (by kernel_rfl) (by kernel_rfl) (by kernel_rfl) (by kernel_rfl)) ?_
  intro W base args ds gs before hval0 hW hcnd _
  have hval : ∀ (j : Nat) t v, Try.f7.params[j]? = some t → args[j]? = some v → Value.okWide Try.prog W .any base t v := hval0
  have hW' := hW
  obtain ⟨p, q, hA0, hV, rfl, hfz, hnd⟩ := hW
  have hA : DataW.TrodAll enc Try.prog W 0 (fun _ => true) true Try.f7.params.toList args.toList ds p := hA0
  rw [Try.params7] at hA hval
  obtain ⟨v0, vs0, d0, ds0, p0, q0, hargs, rfl, rfl, h0, r0⟩ := trodAll_cons hA
  obtain ⟨v1, vs1, d1, ds1, p1, q1, rfl, rfl, rfl, h1, r1⟩ := trodAll_cons r0
  obtain ⟨v2, vs2, d2, ds2, p2, q2, rfl, rfl, rfl, h2, r2⟩ := trodAll_cons r1
  obtain ⟨rfl, rfl, rfl⟩ := trodAll_nil r2
  obtain rfl : args = #[v0, v1, v2] := by cases args; simp_all
  obtain ⟨rfl, rfl⟩ := trodVars_none hV
  have k0 := h0
  have lt0 : ∀ x ∈ p0, x.block < W.heap.size := by obtain ⟨m, hm⟩ := k0; exact DataW.trod_lt m _ _ _ hm
  have k1 := h1
  have lt1 : ∀ x ∈ p1, x.block < W.heap.size := by obtain ⟨m, hm⟩ := k1; exact DataW.trod_lt m _ _ _ hm
  have k2 := h2
  have lt2 : ∀ x ∈ p2, x.block < W.heap.size := by obtain ⟨m, hm⟩ := k2; exact DataW.trod_lt m _ _ _ hm
  obtain ⟨y0, rep0, hy0⟩ := arg_u8 Try.underlying5 (hval 0 5 v0 rfl rfl) h0
  obtain ⟨y1, rep1, hy1⟩ := arg_u8 Try.underlying5 (hval 1 5 v1 rfl rfl) h1
  obtain ⟨y2, rep2, hy2⟩ := arg_slice Try.underlying47 (hval 2 47 v2 rfl rfl) h2 opens_acts
  clear hA0 hval0
  refine ((script_c _ _ _ hy0 hy1).law (us := [v0, v1, v2]) rfl (fun i x u hx hu => by
    cases i with
    | zero => simp only [List.getElem?_cons_zero, Option.some.injEq] at hx hu; rw [← hx, ← hu]; exact rep0
    | succ i =>
      simp only [List.getElem?_cons_succ] at hx hu
      cases i with
      | zero => simp only [List.getElem?_cons_zero, Option.some.injEq] at hx hu; rw [← hx, ← hu]; exact rep1
      | succ i =>
        simp only [List.getElem?_cons_succ] at hx hu
        cases i with
        | zero => simp only [List.getElem?_cons_zero, Option.some.injEq] at hx hu; rw [← hx, ← hu]; exact rep2
        | succ i =>
          simp only [List.getElem?_cons_succ] at hx hu
          simp at hx)).mono fun e W' ⟨he, bel⟩ => ?_
  subst he
  exact ⟨_, rfl, _, _, _, [], _, [], hW', trodAll_mk1 (shut_bool Try.underlying4 _), (trodAll_cons_mk (Below.trod laid_out (by kernel_rfl) (of_decide_eq_true (by kernel_rfl)) k0 bel lt0) (trodAll_cons_mk (Below.trod laid_out (by kernel_rfl) (of_decide_eq_true (by kernel_rfl)) k1 bel lt1) (trodAll_cons_mk (Below.trod laid_out (by kernel_rfl) (of_decide_eq_true (by kernel_rfl)) k2 bel lt2) trodAll_mk0))), rfl, bel.frame _, fun h => by cases h⟩

/-- The statement. -/
theorem evqScript_holds : Rows.EvqScriptSaid :=
  OpenClaim.holds_of_wide 7 Try.f7 rfl rfl rfl rfl rfl rfl rfl ⟨rfl, rfl, rfl, rfl, rfl⟩ rfl rfl rfl rfl rfl (by kernel_rfl) Try.func7 (by kernel_rfl)
    (of_decide_eq_true (by kernel_rfl)) (by unfold Func.isWrapper; first | (rw [if_pos (by decide +kernel)]; kernel_rfl) | (rw [if_neg (by decide +kernel)]; exact ⟨rfl, rfl⟩))
    (fun os started H enc _ => evqScript_lifted os started H enc)
#print axioms evqScript_holds

end Go.Proofs.Ytpolenndeeaodab
