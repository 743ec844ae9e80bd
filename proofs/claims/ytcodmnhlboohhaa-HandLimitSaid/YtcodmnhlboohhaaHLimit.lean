/- HandLimit returns true at every input, and leaves its arguments as they were. -/
import Derived.Test.YtcodmnhlboohhaaHPlain
namespace Go.Proofs.Ytcodmnhlboohhaa
open Go Go.RowKit Go.ChangeShapes Go.WideShapes Go.ChangeAt
set_option linter.unusedVariables false

/-- The row behind i strikes of the first handler, the limit being n. -/
def rowL (xt n i : Int) : List HandD := [⟨xt, 3, i, decide (n ≤ i)⟩, ⟨xt, 0, 0, false⟩]

theorem rowL_strike (xt n i : Int) (h1 : 1 ≤ i) (h2 : i ≤ 100) : strikeD (rowL xt n (i - 1)) 0 n = (rowL xt n i, i == n, 0) := by
  have hi : inD (rowL xt n (i - 1)) 0 := by unfold inD rowL; simp
  have hu : upD (i - 1) = i := by unfold upD; omega
  unfold strikeD
  rw [dif_pos hi]
  simp only [rowL, Int.toNat_zero, List.getElem_cons_zero, List.set_cons_zero, struck, hu, Prod.mk.injEq, List.cons.injEq, HandD.mk.injEq, true_and, and_true]
  constructor
  · by_cases a : n ≤ i <;> by_cases b : n ≤ i - 1 <;> simp [a, b]
    omega
  · rw [Bool.eq_iff_iff]
    simp
    omega
theorem rowL_rearm (xt n i : Int) (hn : 1 ≤ n) : rearmD (rowL xt n i) 0 = (rowL xt n 0, 0) := by
  have hi : inD (rowL xt n i) 0 := by unfold inD rowL; simp
  unfold rearmD
  rw [dif_pos hi]
  simp only [rowL, Int.toNat_zero, List.getElem_cons_zero, List.set_cons_zero, mended, Prod.mk.injEq, List.cons.injEq, HandD.mk.injEq, true_and, and_true]
  simp
  omega
theorem rowL_may0 (xt n i : Int) : mayD (rowL xt n i) 0 = if n ≤ i then -262 else 0 := by
  have hi : inD (rowL xt n i) 0 := by unfold inD rowL; simp
  unfold mayD
  rw [if_pos hi]
  simp [rowL]
theorem rowL_may1 (xt n i : Int) : mayD (rowL xt n i) 1 = 0 := by
  have hi : inD (rowL xt n i) 1 := by unfold inD rowL; simp
  unfold mayD
  rw [if_pos hi]
  simp [rowL]
theorem rowL_pos (xt n i : Int) (h : 0 ≤ i) : ∀ x ∈ rowL xt n i, 0 ≤ x.strikes := by
  intro x hx
  simp [rowL] at hx
  rcases hx with rfl | rfl
  · exact h
  · exact Int.le_refl _
theorem wf_u8 {n : Int} (h : (Lit.int .u8 n).wf = true) : ∃ k : Nat, n = k ∧ k ≤ 255 := by
  have : 0 ≤ n ∧ n ≤ 255 := by simpa [Lit.wf, IntKind.min, IntKind.max, IntKind.bits, IntKind.signed] using h
  exact ⟨n.toNat, by omega, by omega⟩
theorem rowL_len (xt n i : Int) : (rowL xt n i).length ≤ 1000000 := by simp [rowL]

set_option maxHeartbeats 8000000 in
set_option maxRecDepth 100000 in
theorem limit_c (w : World) (limit more : Nat) (xt : Int) (hl : limit ≤ 255) (hm : more ≤ 255) :
    Calls Try.prog 5 #[.int .u8 (limit : Int), .int .u8 (more : Int), .int .i64 xt] w fun e w' => e = .returned (.bool true) ∧ Ext w w' := by
  obtain ⟨n, HN⟩ : ∃ n : Int, Hid (n = 1 + (limit : Int) % 50) := ⟨_, rfl⟩
  have hn1 : 1 ≤ n := by rw [HN.out]; omega
  have hn2 : n ≤ 50 := by rw [HN.out]; omega
  go_enter Try.func5, Try.ntmps5
  go_wp2_with fail
  refine (shown_c _).mono ?_
  rintro e w1 ⟨rfl, E⟩
  have F := Lib.hid E
  have L : Hid (Hn (w1.alloc (.cells #[.int .i64 xt, .int .i64 3, .int .i64 0, .bool false, .int .i64 xt, .int .i64 0, .int .i64 0, .bool false] 41)) (some ⟨w1.heap.size, 0, none⟩) 2 2 (rowL xt n 0)) :=
    Sn.lit w1 _ (rowL xt n 0) encH_len 2 _ rfl (by decide) (by rw [show rowL xt n 0 = [⟨xt, 3, 0, false⟩, ⟨xt, 0, 0, false⟩] from by simp [rowL]; omega]; rfl)
  clear E
  go_wp2_with fail
  rw [← HN.out]
  have F2 : Hid (Ext w (w1.alloc (.cells #[.int .i64 xt, .int .i64 3, .int .i64 0, .bool false, .int .i64 xt, .int .i64 0, .int .i64 0, .bool false] 41))) := F.out.alloc _
  go_loopw [9, 10] (fun l9 r wr => ∃ (k : Nat) (A : Option Addr) (c : Nat), k ≤ 2 ∧ r = .int .i64 k ∧ l9 = .slice A 2 c ∧ Hn wr A 2 c (rowL xt n 0) ∧ Ext w wr) (fun _ r _ => 2 - (intOf r).toNat)
  case atStart => exact ⟨0, _, _, by omega, rfl, rfl, L.out, F2.out⟩
  case round =>
    clear L F F2
    obtain ⟨k, A, c, hk, rfl, rfl, L0, F0⟩ := hrel
    have L := Lib.hid L0
    have F := Lib.hid F0
    clear L0 F0
    by_cases hlt : (k : Int) < 2
    · go_wp2_with fail
      obtain ⟨wo, rfl⟩ : ∃ wo : World, wo = wr := ⟨_, rfl⟩
      go_loopw [9, 11] (fun l9 iv wr2 => ∃ (i : Int) (A : Option Addr) (c : Nat), 1 ≤ i ∧ i ≤ n + (more : Int) % 5 + 1 ∧ iv = .int .i64 i ∧ l9 = .slice A 2 c ∧ Hn wr2 A 2 c (rowL xt n (i - 1)) ∧ Ext w wr2) (fun _ iv _ => (n + (more : Int) % 5 + 1 - intOf iv).toNat)
      case atStart => exact ⟨1, _, _, by omega, by omega, rfl, rfl, L.out, F.out⟩
      case round =>
        clear L F
        obtain ⟨i, A, c, hi1, hi2, rfl, rfl, L0, F0⟩ := hrel
        have L := Lib.hid L0
        have F := Lib.hid F0
        clear L0 F0
        by_cases hle : i ≤ n + (more : Int) % 5
        · have k1 := strike_c _ _ _ _ _ 0 n L.out (rowL_len _ _ _) (rowL_pos _ _ _ (by omega))
          rw [rowL_strike xt n i hi1 (by omega)] at k1
          have K1 := Lib.hid k1
          clear k1
          have hm0 := rowL_may0 xt n i
          have HM1 := Lib.hid (rowL_may1 xt n i)
          by_cases hni : n ≤ i
          all_goals
            first | rw [if_pos hni] at hm0 | rw [if_neg hni] at hm0
            have HM0 := Lib.hid hm0
            clear hm0
            go_wp2_with fail
            refine K1.out.mono ?_
            rintro e w2 ⟨A2, n2, c2, rfl, s2, E⟩
            obtain rfl : n2 = 2 := s2.1
            have F' := Lib.hid (F.out.tr E)
            have L' := Lib.hid s2
            clear E s2 K1 F L
            go_wp2_with fail
            have k2 := may_c _ _ _ _ _ 0 L'.out
            rw [HM0.out] at k2
            refine k2.mono ?_
            rintro e w' ⟨rfl, rfl⟩
            clear k2
            go_wp2_with fail
            have k2 := may_c _ _ _ _ _ 1 L'.out
            rw [HM1.out] at k2
            refine k2.mono ?_
            rintro e w' ⟨rfl, rfl⟩
            clear k2
            go_wp2_with fail
            go_roundw
            case rel => exact ⟨i + 1, _, _, by omega, by omega, rfl, rfl, by rw [show i + 1 - 1 = i from by omega]; exact L'.out, F'.out⟩
            case measure => simp [intOf]; omega
        · have k1 := rearm_c _ _ _ _ _ 0 L.out (rowL_len _ _ _)
          rw [rowL_rearm xt n (i - 1) hn1] at k1
          have K1 := Lib.hid k1
          clear k1
          have hm0 := rowL_may0 xt n 0
          rw [if_neg (by omega)] at hm0
          have HM0 := Lib.hid hm0
          clear hm0
          go_wp2_with fail
          refine K1.out.mono ?_
          rintro e w2 ⟨A2, n2, c2, rfl, s2, E⟩
          obtain rfl : n2 = 2 := s2.1
          have F' := Lib.hid (F.out.tr E)
          have L' := Lib.hid s2
          clear E s2 K1 F L
          go_wp2_with fail
          have k2 := may_c _ _ _ _ _ 0 L'.out
          rw [HM0.out] at k2
          refine k2.mono ?_
          rintro e w' ⟨rfl, rfl⟩
          clear k2
          go_wp2_with fail
          go_roundw
          case rel => exact ⟨k + 1, _, _, by omega, by go_num, rfl, L'.out, F'.out⟩
          case measure => simp [intOf]; omega
    · go_wp2_with fail
      go_ret
      exact ⟨rfl, F.out⟩

set_option maxRecDepth 100000 in
theorem handLimit_lifted (os : Os) (started : os.Started) (H : Type) (enc : TypeId × Value → H) :
    ReturnsInHanded {} Try.checked os 5 .any (Rows.handLimitSpec.pre6 enc Try.prog Try.f5 Rows.handLimitRow.domain false) (Rows.handLimitSpec.post enc Try.prog Try.f5 false true false false) := by
  refine returnsInHanded_of_change (C := Try.checked) own_knob started (by kernel_rfl) Try.func5
    (ChangeSpec.witness6 (enc := enc) (C := Try.checked) false ⟨#[], #[.int .u8 0, .int .u8 0, .int .i64 0], []⟩ 12 (by kernel_rfl) (by kernel_rfl) (by kernel_rfl) (by kernel_rfl)) ?_
  intro W base args ds gs before hval0 hW hcnd _
  have hval : ∀ (j : Nat) t v, Try.f5.params[j]? = some t → args[j]? = some v → Value.okWide Try.prog W .any base t v := hval0
  have hW' := hW
  obtain ⟨p, q, hA0, hV, rfl, hfz, hnd⟩ := hW
  have hA : DataW.TrodAll enc Try.prog W 0 (fun _ => true) true Try.f5.params.toList args.toList ds p := hA0
  rw [Try.params5] at hA hval
  obtain ⟨v0, vs0, d0, ds0, p0, q0, hargs, rfl, rfl, h0, r0⟩ := trodAll_cons hA
  obtain ⟨v1, vs1, d1, ds1, p1, q1, rfl, rfl, rfl, h1, r1⟩ := trodAll_cons r0
  obtain ⟨v2, vs2, d2, ds2, p2, q2, rfl, rfl, rfl, h2, r2⟩ := trodAll_cons r1
  obtain ⟨rfl, rfl, rfl⟩ := trodAll_nil r2
  obtain rfl : args = #[v0, v1, v2] := by cases args; simp_all
  obtain ⟨rfl, rfl⟩ := trodVars_none hV
  have k0 := h0
  have lt0 : ∀ x ∈ p0, x.block < W.heap.size := by obtain ⟨m, hm⟩ := k0; exact DataW.trod_lt m _ _ _ hm
  have k1 := h1
  have lt1 : ∀ x ∈ p1, x.block < W.heap.size := by obtain ⟨m, hm⟩ := k1; exact DataW.trod_lt m _ _ _ hm
  have k2 := h2
  have lt2 : ∀ x ∈ p2, x.block < W.heap.size := by obtain ⟨m, hm⟩ := k2; exact DataW.trod_lt m _ _ _ hm
  obtain ⟨limit, rfl, _, _, g0⟩ := open_int Try.underlying5 (hval 0 5 v0 rfl rfl) h0
  obtain ⟨more, rfl, _, _, g1⟩ := open_int Try.underlying5 (hval 1 5 v1 rfl rfl) h1
  obtain ⟨xt, rfl, _, _, _⟩ := open_int Try.underlying3 (hval 2 3 v2 rfl rfl) h2
  obtain ⟨limit, rfl, g0'⟩ := wf_u8 g0
  obtain ⟨more, rfl, g1'⟩ := wf_u8 g1
  clear hA0 hval0
  refine (limit_c W limit more xt g0' g1').mono fun e W' ⟨he, bel⟩ => ?_
  subst he
  exact ⟨_, rfl, _, _, _, [], _, [], hW', trodAll_mk1 (shut_bool Try.underlying4 _), (trodAll_cons_mk (Below.trod laid_out (by kernel_rfl) (of_decide_eq_true (by kernel_rfl)) k0 bel lt0) (trodAll_cons_mk (Below.trod laid_out (by kernel_rfl) (of_decide_eq_true (by kernel_rfl)) k1 bel lt1) (trodAll_cons_mk (Below.trod laid_out (by kernel_rfl) (of_decide_eq_true (by kernel_rfl)) k2 bel lt2) trodAll_mk0))), rfl, bel.frame _, fun h => by cases h⟩

/-- The statement. -/
theorem handLimit_holds : Rows.HandLimitSaid :=
  OpenClaim.holds_of_wide 5 Try.f5 rfl rfl rfl rfl rfl rfl rfl ⟨rfl, rfl, rfl, rfl, rfl⟩ rfl rfl rfl rfl rfl (by kernel_rfl) Try.func5 (by kernel_rfl)
    (of_decide_eq_true (by kernel_rfl)) (by unfold Func.isWrapper; first | (rw [if_pos (by decide +kernel)]; kernel_rfl) | (rw [if_neg (by decide +kernel)]; exact ⟨rfl, rfl⟩))
    (fun os started H enc _ => handLimit_lifted os started H enc)
#print axioms handLimit_holds
end Go.Proofs.Ytcodmnhlboohhaa
