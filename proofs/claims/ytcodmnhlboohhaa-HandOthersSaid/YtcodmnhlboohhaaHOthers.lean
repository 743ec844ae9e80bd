/- HandOthers returns true at every input, and leaves its arguments as they were. -/
import Derived.Test.YtcodmnhlboohhaaHPlain
namespace Go.Proofs.Ytcodmnhlboohhaa
open Go Go.RowKit Go.ChangeShapes Go.WideShapes Go.ChangeAt
set_option linter.unusedVariables false

set_option maxHeartbeats 8000000 in
set_option maxRecDepth 100000 in
theorem others_c (w : World) (A : Option Addr) (n c : Nat) (l : List HandD) (h limit : Int) (hl : Hn w A n c l) :
    Calls Try.prog 4 #[.slice A n c, .int .i64 h, .int .i64 limit] w fun e w' => e = .returned (.bool true) ∧ Ext w w' := by
  have L := Lib.hid hl
  have HN := Lib.hid hl.1
  have hm := hl.max
  clear hl
  by_cases h80 : 80 < n
  · skip
    go_enter Try.func4, Try.ntmps4
    go_wp2_with fail
    refine (shown_c _).mono ?_
    rintro e w1 ⟨rfl, E⟩
    have F := Lib.hid E
    clear E
    go_wp2_with fail
    go_ret
    exact ⟨rfl, F.out⟩
  have hlen : l.length ≤ 1000000 := by have := L.out.1; omega
  have HLEN := Lib.hid hlen
  clear hlen
  cases hr : rightD l
  · skip
    go_enter Try.func4, Try.ntmps4
    go_wp2_with fail
    refine (shown_c _).mono ?_
    rintro e w1 ⟨rfl, E⟩
    have F := Lib.hid E
    replace L := Lib.hid (L.out.ext E)
    clear E
    go_wp2_with fail
    refine (refRight_c _ _ _ _ _ L.out).mono ?_
    rintro e w1 ⟨rfl, E⟩
    replace F := Lib.hid (F.out.tr E)
    replace L := Lib.hid (L.out.ext E)
    clear E
    go_wp2_with fail
    go_ret
    exact ⟨rfl, F.out⟩
  · skip
    have HP := Lib.hid (right_pos hr)
    have q1 := strikeD_right hr h limit
    have q2 := rearmD_right hr h
    have q3 := strikeD_ok l h limit
    have q4 := rearmD_ok l h
    have HQ1 := Lib.hid (strikeD_len l h limit)
    have HQ2 := Lib.hid (rearmD_len l h)
    have HQ3 := Lib.hid (strikeD_at l h limit)
    have HQ4 := Lib.hid (rearmD_at l h)
    by_cases hi : inD l h
    · have hi1 : 0 ≤ h := hi.1
      have hi2 : h < (n : Int) := by rw [HN.out]; exact hi.2
      rw [decide_eq_true hi] at q3 q4
      clear hi
      go_enter Try.func4, Try.ntmps4
      go_wp2_with fail
      refine (shown_c _).mono ?_
      rintro e w1 ⟨rfl, E⟩
      have F := Lib.hid E
      replace L := Lib.hid (L.out.ext E)
      clear E
      go_wp2_with fail
      refine (refRight_c _ _ _ _ _ L.out).mono ?_
      rintro e w1 ⟨rfl, E⟩
      replace F := Lib.hid (F.out.tr E)
      replace L := Lib.hid (L.out.ext E)
      clear E
      go_wp2_with fail
      refine (strike_c _ _ _ _ _ h limit L.out HLEN.out HP.out).mono ?_
      rintro e w2 ⟨A1, n1, c1, rfl, s1, E⟩
      replace F := Lib.hid (F.out.tr E)
      replace L := Lib.hid (L.out.ext E)
      clear E
      have P := Lib.hid s1
      clear s1
      go_wp2_with fail
      refine (rearm_c _ _ _ _ _ h L.out HLEN.out).mono ?_
      rintro e w3 ⟨A2, n2, c2, rfl, s2, E⟩
      replace F := Lib.hid (F.out.tr E)
      replace L := Lib.hid (L.out.ext E)
      replace P := Lib.hid (P.out.ext E)
      clear E
      have Q := Lib.hid s2
      clear s2
      obtain rfl : n1 = n := by rw [P.out.1, HQ1.out, HN.out]
      obtain rfl : n2 = n1 := by rw [Q.out.1, HQ2.out, HN.out]
      go_wp2_with fail
      refine (refRight_c _ _ _ _ _ P.out).mono ?_
      rintro e w4 ⟨rfl, E⟩
      replace F := Lib.hid (F.out.tr E)
      replace L := Lib.hid (L.out.ext E)
      replace P := Lib.hid (P.out.ext E)
      replace Q := Lib.hid (Q.out.ext E)
      clear E
      go_wp2_with fail
      refine (refRight_c _ _ _ _ _ Q.out).mono ?_
      rintro e w5 ⟨rfl, E⟩
      replace F := Lib.hid (F.out.tr E)
      replace L := Lib.hid (L.out.ext E)
      replace P := Lib.hid (P.out.ext E)
      replace Q := Lib.hid (Q.out.ext E)
      clear E
      go_wp2_with fail
      go_loopw [14] (fun i wr => ∃ k : Nat, k ≤ n2 ∧ i = .int .i64 k ∧ Ext w wr ∧ Hn wr A n2 c l ∧ Hn wr A1 n2 c1 (strikeD l h limit).1 ∧ Hn wr A2 n2 c2 (rearmD l h).1) (fun i _ => n2 - (intOf i).toNat)
      case atStart => exact ⟨0, by omega, rfl, F.out, L.out, P.out, Q.out⟩
      case round =>
        clear F L P Q
        obtain ⟨k, hk, rfl, F0, L0, P0, Q0⟩ := hrel
        have F := Lib.hid F0
        have L := Lib.hid L0
        have P := Lib.hid P0
        have Q := Lib.hid Q0
        clear F0 L0 P0 Q0
        by_cases hlt : k < n2
        · have hkl : k < l.length := by rw [← HN.out]; exact hlt
          have hx : l[k]? = some l[k] := List.getElem?_eq_getElem hkl
          obtain ⟨y, hy, hy1, hy2, hy3⟩ := HQ3.out k hkl
          obtain ⟨z, hz, hz1, hz2, hz3⟩ := HQ4.out k hkl
          obtain ⟨b, o, rfl, x1, x2, x3, x4⟩ := Hn.cells L.out hx
          obtain ⟨b', o', rfl, y1, y2, y3, y4⟩ := Hn.cells P.out hy
          obtain ⟨b'', o'', rfl, z1, z2, z3, z4⟩ := Hn.cells Q.out hz
          have hkm : (k : Int) < (n2 : Int) := by omega
          clear hx hy hz
          generalize l[k] = x at *
          clear hkl
          by_cases hkh : (k : Int) = h
          · have g0 : ((k : Int) != h) = false := by simp [hkh]
            have g1 : (y.xt != x.xt) = false := by simp [hy2]
            have g2 : (y.fuel != x.fuel) = false := by simp [hy3]
            have g3 : (z.xt != x.xt) = false := by simp [hz2]
            have g4 : (z.fuel != x.fuel) = false := by simp [hz3]
            clear hkh hy1 hy2 hy3 hz1 hz2 hz3
            go_wp2_with fail
            simp only [List.append_eq, List.cons_append, List.nil_append]
            go_quiet (fail)
            go_wp2_with fail
            go_roundw
            case rel => exact ⟨k + 1, by omega, by go_num, F.out.drewN _, L.out.ext ((Ext.rfl' _).drewN _), P.out.ext ((Ext.rfl' _).drewN _), Q.out.ext ((Ext.rfl' _).drewN _)⟩
            case measure => simp [intOf]; omega
          · obtain rfl := hy1 hkh
            obtain rfl := hz1 hkh
            have g0 : ((k : Int) != h) = true := by simp [hkh]
            have g1 := run_neq_hand z z
            rw [decide_eq_true (rfl : z = z)] at g1
            clear hkh hy1 hy2 hy3 hz1 hz2 hz3
            go_wp2_with fail
            simp only [List.append_eq, List.cons_append, List.nil_append]
            go_quiet (fail)
            go_wp2_with fail
            go_roundw
            case rel => exact ⟨k + 1, by omega, by go_num, F.out.drewN _, L.out.ext ((Ext.rfl' _).drewN _), P.out.ext ((Ext.rfl' _).drewN _), Q.out.ext ((Ext.rfl' _).drewN _)⟩
            case measure => simp [intOf]; omega
        · go_wp2_with fail
          go_ret
          exact ⟨rfl, F.out⟩
    · have hor := no_or hi
      rw [← HN.out] at hor
      rw [decide_eq_false hi] at q3 q4
      clear hi
      by_cases h0 : h < 0
      · clear hor
        go_enter Try.func4, Try.ntmps4
        go_wp2_with fail
        refine (shown_c _).mono ?_
        rintro e w1 ⟨rfl, E⟩
        have F := Lib.hid E
        replace L := Lib.hid (L.out.ext E)
        clear E
        go_wp2_with fail
        refine (refRight_c _ _ _ _ _ L.out).mono ?_
        rintro e w1 ⟨rfl, E⟩
        replace F := Lib.hid (F.out.tr E)
        replace L := Lib.hid (L.out.ext E)
        clear E
        go_wp2_with fail
        refine (strike_c _ _ _ _ _ h limit L.out HLEN.out HP.out).mono ?_
        rintro e w2 ⟨A1, n1, c1, rfl, s1, E⟩
        replace F := Lib.hid (F.out.tr E)
        replace L := Lib.hid (L.out.ext E)
        clear E
        have P := Lib.hid s1
        clear s1
        go_wp2_with fail
        refine (rearm_c _ _ _ _ _ h L.out HLEN.out).mono ?_
        rintro e w3 ⟨A2, n2, c2, rfl, s2, E⟩
        replace F := Lib.hid (F.out.tr E)
        replace L := Lib.hid (L.out.ext E)
        replace P := Lib.hid (P.out.ext E)
        clear E
        have Q := Lib.hid s2
        clear s2
        obtain rfl : n1 = n := by rw [P.out.1, HQ1.out, HN.out]
        obtain rfl : n2 = n1 := by rw [Q.out.1, HQ2.out, HN.out]
        go_wp2_with fail
        refine (refRight_c _ _ _ _ _ P.out).mono ?_
        rintro e w4 ⟨rfl, E⟩
        replace F := Lib.hid (F.out.tr E)
        replace L := Lib.hid (L.out.ext E)
        replace P := Lib.hid (P.out.ext E)
        replace Q := Lib.hid (Q.out.ext E)
        clear E
        go_wp2_with fail
        refine (refRight_c _ _ _ _ _ Q.out).mono ?_
        rintro e w5 ⟨rfl, E⟩
        replace F := Lib.hid (F.out.tr E)
        replace L := Lib.hid (L.out.ext E)
        replace P := Lib.hid (P.out.ext E)
        replace Q := Lib.hid (Q.out.ext E)
        clear E
        go_wp2_with fail
        go_loopw [14] (fun i wr => ∃ k : Nat, k ≤ n2 ∧ i = .int .i64 k ∧ Ext w wr ∧ Hn wr A n2 c l ∧ Hn wr A1 n2 c1 (strikeD l h limit).1 ∧ Hn wr A2 n2 c2 (rearmD l h).1) (fun i _ => n2 - (intOf i).toNat)
        case atStart => exact ⟨0, by omega, rfl, F.out, L.out, P.out, Q.out⟩
        case round =>
          clear F L P Q
          obtain ⟨k, hk, rfl, F0, L0, P0, Q0⟩ := hrel
          have F := Lib.hid F0
          have L := Lib.hid L0
          have P := Lib.hid P0
          have Q := Lib.hid Q0
          clear F0 L0 P0 Q0
          by_cases hlt : k < n2
          · have hkl : k < l.length := by rw [← HN.out]; exact hlt
            have hx : l[k]? = some l[k] := List.getElem?_eq_getElem hkl
            obtain ⟨y, hy, hy1, hy2, hy3⟩ := HQ3.out k hkl
            obtain ⟨z, hz, hz1, hz2, hz3⟩ := HQ4.out k hkl
            obtain ⟨b, o, rfl, x1, x2, x3, x4⟩ := Hn.cells L.out hx
            obtain ⟨b', o', rfl, y1, y2, y3, y4⟩ := Hn.cells P.out hy
            obtain ⟨b'', o'', rfl, z1, z2, z3, z4⟩ := Hn.cells Q.out hz
            have hkm : (k : Int) < (n2 : Int) := by omega
            clear hx hy hz
            generalize l[k] = x at *
            clear hkl
            by_cases hkh : (k : Int) = h
            · have g0 : ((k : Int) != h) = false := by simp [hkh]
              have g1 : (y.xt != x.xt) = false := by simp [hy2]
              have g2 : (y.fuel != x.fuel) = false := by simp [hy3]
              have g3 : (z.xt != x.xt) = false := by simp [hz2]
              have g4 : (z.fuel != x.fuel) = false := by simp [hz3]
              clear hkh hy1 hy2 hy3 hz1 hz2 hz3
              go_wp2_with fail
              simp only [List.append_eq, List.cons_append, List.nil_append]
              go_quiet (fail)
              go_wp2_with fail
              go_roundw
              case rel => exact ⟨k + 1, by omega, by go_num, F.out.drewN _, L.out.ext ((Ext.rfl' _).drewN _), P.out.ext ((Ext.rfl' _).drewN _), Q.out.ext ((Ext.rfl' _).drewN _)⟩
              case measure => simp [intOf]; omega
            · obtain rfl := hy1 hkh
              obtain rfl := hz1 hkh
              have g0 : ((k : Int) != h) = true := by simp [hkh]
              have g1 := run_neq_hand z z
              rw [decide_eq_true (rfl : z = z)] at g1
              clear hkh hy1 hy2 hy3 hz1 hz2 hz3
              go_wp2_with fail
              simp only [List.append_eq, List.cons_append, List.nil_append]
              go_quiet (fail)
              go_wp2_with fail
              go_roundw
              case rel => exact ⟨k + 1, by omega, by go_num, F.out.drewN _, L.out.ext ((Ext.rfl' _).drewN _), P.out.ext ((Ext.rfl' _).drewN _), Q.out.ext ((Ext.rfl' _).drewN _)⟩
              case measure => simp [intOf]; omega
          · go_wp2_with fail
            go_ret
            exact ⟨rfl, F.out⟩
      · have hor' : (n : Int) ≤ h := by omega
        have h0' : 0 ≤ h := by omega
        clear hor h0
        go_enter Try.func4, Try.ntmps4
        go_wp2_with fail
        refine (shown_c _).mono ?_
        rintro e w1 ⟨rfl, E⟩
        have F := Lib.hid E
        replace L := Lib.hid (L.out.ext E)
        clear E
        go_wp2_with fail
        refine (refRight_c _ _ _ _ _ L.out).mono ?_
        rintro e w1 ⟨rfl, E⟩
        replace F := Lib.hid (F.out.tr E)
        replace L := Lib.hid (L.out.ext E)
        clear E
        go_wp2_with fail
        refine (strike_c _ _ _ _ _ h limit L.out HLEN.out HP.out).mono ?_
        rintro e w2 ⟨A1, n1, c1, rfl, s1, E⟩
        replace F := Lib.hid (F.out.tr E)
        replace L := Lib.hid (L.out.ext E)
        clear E
        have P := Lib.hid s1
        clear s1
        go_wp2_with fail
        refine (rearm_c _ _ _ _ _ h L.out HLEN.out).mono ?_
        rintro e w3 ⟨A2, n2, c2, rfl, s2, E⟩
        replace F := Lib.hid (F.out.tr E)
        replace L := Lib.hid (L.out.ext E)
        replace P := Lib.hid (P.out.ext E)
        clear E
        have Q := Lib.hid s2
        clear s2
        obtain rfl : n1 = n := by rw [P.out.1, HQ1.out, HN.out]
        obtain rfl : n2 = n1 := by rw [Q.out.1, HQ2.out, HN.out]
        go_wp2_with fail
        refine (refRight_c _ _ _ _ _ P.out).mono ?_
        rintro e w4 ⟨rfl, E⟩
        replace F := Lib.hid (F.out.tr E)
        replace L := Lib.hid (L.out.ext E)
        replace P := Lib.hid (P.out.ext E)
        replace Q := Lib.hid (Q.out.ext E)
        clear E
        go_wp2_with fail
        refine (refRight_c _ _ _ _ _ Q.out).mono ?_
        rintro e w5 ⟨rfl, E⟩
        replace F := Lib.hid (F.out.tr E)
        replace L := Lib.hid (L.out.ext E)
        replace P := Lib.hid (P.out.ext E)
        replace Q := Lib.hid (Q.out.ext E)
        clear E
        go_wp2_with fail
        go_loopw [14] (fun i wr => ∃ k : Nat, k ≤ n2 ∧ i = .int .i64 k ∧ Ext w wr ∧ Hn wr A n2 c l ∧ Hn wr A1 n2 c1 (strikeD l h limit).1 ∧ Hn wr A2 n2 c2 (rearmD l h).1) (fun i _ => n2 - (intOf i).toNat)
        case atStart => exact ⟨0, by omega, rfl, F.out, L.out, P.out, Q.out⟩
        case round =>
          clear F L P Q
          obtain ⟨k, hk, rfl, F0, L0, P0, Q0⟩ := hrel
          have F := Lib.hid F0
          have L := Lib.hid L0
          have P := Lib.hid P0
          have Q := Lib.hid Q0
          clear F0 L0 P0 Q0
          by_cases hlt : k < n2
          · have hkl : k < l.length := by rw [← HN.out]; exact hlt
            have hx : l[k]? = some l[k] := List.getElem?_eq_getElem hkl
            obtain ⟨y, hy, hy1, hy2, hy3⟩ := HQ3.out k hkl
            obtain ⟨z, hz, hz1, hz2, hz3⟩ := HQ4.out k hkl
            obtain ⟨b, o, rfl, x1, x2, x3, x4⟩ := Hn.cells L.out hx
            obtain ⟨b', o', rfl, y1, y2, y3, y4⟩ := Hn.cells P.out hy
            obtain ⟨b'', o'', rfl, z1, z2, z3, z4⟩ := Hn.cells Q.out hz
            have hkm : (k : Int) < (n2 : Int) := by omega
            clear hx hy hz
            generalize l[k] = x at *
            clear hkl
            by_cases hkh : (k : Int) = h
            · have g0 : ((k : Int) != h) = false := by simp [hkh]
              have g1 : (y.xt != x.xt) = false := by simp [hy2]
              have g2 : (y.fuel != x.fuel) = false := by simp [hy3]
              have g3 : (z.xt != x.xt) = false := by simp [hz2]
              have g4 : (z.fuel != x.fuel) = false := by simp [hz3]
              clear hkh hy1 hy2 hy3 hz1 hz2 hz3
              go_wp2_with fail
              simp only [List.append_eq, List.cons_append, List.nil_append]
              go_quiet (fail)
              go_wp2_with fail
              go_roundw
              case rel => exact ⟨k + 1, by omega, by go_num, F.out.drewN _, L.out.ext ((Ext.rfl' _).drewN _), P.out.ext ((Ext.rfl' _).drewN _), Q.out.ext ((Ext.rfl' _).drewN _)⟩
              case measure => simp [intOf]; omega
            · obtain rfl := hy1 hkh
              obtain rfl := hz1 hkh
              have g0 : ((k : Int) != h) = true := by simp [hkh]
              have g1 := run_neq_hand z z
              rw [decide_eq_true (rfl : z = z)] at g1
              clear hkh hy1 hy2 hy3 hz1 hz2 hz3
              go_wp2_with fail
              simp only [List.append_eq, List.cons_append, List.nil_append]
              go_quiet (fail)
              go_wp2_with fail
              go_roundw
              case rel => exact ⟨k + 1, by omega, by go_num, F.out.drewN _, L.out.ext ((Ext.rfl' _).drewN _), P.out.ext ((Ext.rfl' _).drewN _), Q.out.ext ((Ext.rfl' _).drewN _)⟩
              case measure => simp [intOf]; omega
          · go_wp2_with fail
            go_ret
            exact ⟨rfl, F.out⟩

set_option maxRecDepth 100000 in
theorem handOthers_lifted (os : Os) (started : os.Started) (H : Type) (enc : TypeId × Value → H) :
    ReturnsInHanded {} Try.checked os 4 .any (Rows.handOthersSpec.pre6 enc Try.prog Try.f4 Rows.handOthersRow.domain false) (Rows.handOthersSpec.post enc Try.prog Try.f4 false true false false) := by
  refine returnsInHanded_of_change (C := Try.checked) own_knob started (by kernel_rfl) Try.func4
    (ChangeSpec.witness6 (enc := enc) (C := Try.checked) false ⟨#[], #[.slice none 0 0, .int .i64 0, .int .i64 0], []⟩ 12 (by kernel_rfl) (by kernel_rfl) (by kernel_rfl) (by kernel_rfl)) ?_
  intro W base args ds gs before hval0 hW hcnd _
  have hval : ∀ (j : Nat) t v, Try.f4.params[j]? = some t → args[j]? = some v → Value.okWide Try.prog W .any base t v := hval0
  have hW' := hW
  obtain ⟨p, q, hA0, hV, rfl, hfz, hnd⟩ := hW
  have hA : DataW.TrodAll enc Try.prog W 0 (fun _ => true) true Try.f4.params.toList args.toList ds p := hA0
  rw [Try.params4] at hA hval
  obtain ⟨v0, vs0, d0, ds0, p0, q0, hargs, rfl, rfl, h0, r0⟩ := trodAll_cons hA
  obtain ⟨v1, vs1, d1, ds1, p1, q1, rfl, rfl, rfl, h1, r1⟩ := trodAll_cons r0
  obtain ⟨v2, vs2, d2, ds2, p2, q2, rfl, rfl, rfl, h2, r2⟩ := trodAll_cons r1
  obtain ⟨rfl, rfl, rfl⟩ := trodAll_nil r2
  obtain rfl : args = #[v0, v1, v2] := by cases args; simp_all
  obtain ⟨rfl, rfl⟩ := trodVars_none hV
  have k0 := h0
  have lt0 : ∀ x ∈ p0, x.block < W.heap.size := by obtain ⟨m, hm⟩ := k0; exact DataW.trod_lt m _ _ _ hm
  have k1 := h1
  have lt1 : ∀ x ∈ p1, x.block < W.heap.size := by obtain ⟨m, hm⟩ := k1; exact DataW.trod_lt m _ _ _ hm
  have k2 := h2
  have lt2 : ∀ x ∈ p2, x.block < W.heap.size := by obtain ⟨m, hm⟩ := k2; exact DataW.trod_lt m _ _ _ hm
  obtain ⟨fuel, hf⟩ := h0
  obtain ⟨A, n, c, l, e0, hl⟩ := hands_of hf
  obtain ⟨h, rfl, _, _, _⟩ := open_int Try.underlying3 (hval 1 3 v1 rfl rfl) h1
  obtain ⟨limit, rfl, _, _, _⟩ := open_int Try.underlying3 (hval 2 3 v2 rfl rfl) h2
  obtain ⟨a0, ln0, cp0, rfl⟩ := okWide_slice Try.underlying22 (hval 0 22 v0 rfl rfl)
  simp [Value.cells] at e0
  obtain ⟨rfl, rfl, rfl⟩ := e0
  clear hA0 hval0
  refine (others_c W _ _ _ l h limit hl).mono fun e W' ⟨he, bel⟩ => ?_
  subst he
  exact ⟨_, rfl, _, _, _, [], _, [], hW', trodAll_mk1 (shut_bool Try.underlying4 _), (trodAll_cons_mk (Below.trod laid_out (by kernel_rfl) (of_decide_eq_true (by kernel_rfl)) k0 bel lt0) (trodAll_cons_mk (Below.trod laid_out (by kernel_rfl) (of_decide_eq_true (by kernel_rfl)) k1 bel lt1) (trodAll_cons_mk (Below.trod laid_out (by kernel_rfl) (of_decide_eq_true (by kernel_rfl)) k2 bel lt2) trodAll_mk0))), rfl, bel.frame _, fun h => by cases h⟩

/-- The statement. -/
theorem handOthers_holds : Rows.HandOthersSaid :=
  OpenClaim.holds_of_wide 4 Try.f4 rfl rfl rfl rfl rfl rfl rfl ⟨rfl, rfl, rfl, rfl, rfl⟩ rfl rfl rfl rfl rfl (by kernel_rfl) Try.func4 (by kernel_rfl)
    (of_decide_eq_true (by kernel_rfl)) (by unfold Func.isWrapper; first | (rw [if_pos (by decide +kernel)]; kernel_rfl) | (rw [if_neg (by decide +kernel)]; exact ⟨rfl, rfl⟩))
    (fun os started H enc _ => handOthers_lifted os started H enc)
#print axioms handOthers_holds
end Go.Proofs.Ytcodmnhlboohhaa
