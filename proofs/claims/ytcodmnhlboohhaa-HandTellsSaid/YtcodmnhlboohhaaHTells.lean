/- HandTells returns true at every input, and leaves its argument as it was. -/
import Derived.Test.YtcodmnhlboohhaaHOpen
namespace Go.Proofs.Ytcodmnhlboohhaa
open Go Go.RowKit Go.ChangeShapes Go.WideShapes Go.ChangeAt
set_option linter.unusedVariables false

theorem right_pos {l : List HandD} (h : rightD l = true) : ∀ x ∈ l, 0 ≤ x.strikes := by
  intro x hx
  unfold rightD at h
  rw [Bool.and_eq_true, List.all_eq_true] at h
  have := h.1 x hx
  unfold okD at this
  simp at this
  omega

set_option maxHeartbeats 4000000 in
set_option maxRecDepth 100000 in
theorem tells_c (w : World) (A A' : Option Addr) (n c n' c' : Nat) (l o : List HandD) (h limit : Int) (hl : Hn w A n c l) (ho : Hn w A' n' c' o) :
    Calls Try.prog 3 #[.agg #[.slice A n c, .slice A' n' c', .int .i64 h, .int .i64 limit]] w fun e w' => e = .returned (.bool true) ∧ Ext w w' := by
  have L := Lib.hid hl
  have O := Lib.hid ho
  have hnl : n = l.length := hl.1
  have hno : n' = o.length := ho.1
  have hm : (n : Int) ≤ 9223372036854775807 := by have := hl.2.le; have := hl.2.cap; unfold maxLen at this; omega
  have hm' : (n' : Int) ≤ 9223372036854775807 := by have := ho.2.le; have := ho.2.cap; unfold maxLen at this; omega
  clear hl ho hnl hno
  by_cases h80 : 80 < n
  · skip
    go_enter Try.func3, Try.ntmps3
    go_wp2_with fail
    refine (shown_c _).mono ?_
    rintro e w1 ⟨rfl, E⟩
    have F := Lib.hid (((Ext.rfl' w).alloc _).tr E)
    clear E
    go_wp2_with fail
    go_ret
    exact ⟨rfl, F.out⟩
  by_cases h80' : 80 < n'
  · skip
    go_enter Try.func3, Try.ntmps3
    go_wp2_with fail
    refine (shown_c _).mono ?_
    rintro e w1 ⟨rfl, E⟩
    have F := Lib.hid (((Ext.rfl' w).alloc _).tr E)
    clear E
    go_wp2_with fail
    go_ret
    exact ⟨rfl, F.out⟩
  have hlen : l.length ≤ 1000000 := by have := L.out.1; omega
  have HLEN := Lib.hid hlen
  clear hlen
  cases hr : rightD l
  · skip
    go_enter Try.func3, Try.ntmps3
    go_wp2_with fail
    refine (shown_c _).mono ?_
    rintro e w1 ⟨rfl, E⟩
    have F := Lib.hid (((Ext.rfl' w).alloc _).tr E)
    replace L := Lib.hid ((L.out.ext ((Ext.rfl' w).alloc _)).ext E)
    replace O := Lib.hid ((O.out.ext ((Ext.rfl' w).alloc _)).ext E)
    clear E
    go_wp2_with fail
    refine (refRight_c _ _ _ _ _ L.out).mono ?_
    rintro e w1 ⟨rfl, E⟩
    replace F := Lib.hid (F.out.tr E)
    replace L := Lib.hid (L.out.ext E)
    replace O := Lib.hid (O.out.ext E)
    clear E
    go_wp2_with fail
    refine (right_c _ _ _ _ _ L.out).mono ?_
    rintro e w2 ⟨rfl, E⟩
    replace F := Lib.hid (F.out.tr E)
    replace L := Lib.hid (L.out.ext E)
    replace O := Lib.hid (O.out.ext E)
    clear E
    go_wp2_with fail
    refine (same_c _ _ _ _ _ _ _ _ _ L.out O.out).mono ?_
    rintro e w3 ⟨rfl, E⟩
    replace F := Lib.hid (F.out.tr E.ext)
    replace L := Lib.hid (L.out.ext E.ext)
    replace O := Lib.hid (O.out.ext E.ext)
    clear E
    go_wp2_with fail
    refine (refSame_c _ _ _ _ _ _ _ _ _ L.out O.out).mono ?_
    rintro e w4 ⟨rfl, E⟩
    replace F := Lib.hid (F.out.tr E.ext)
    replace L := Lib.hid (L.out.ext E.ext)
    replace O := Lib.hid (O.out.ext E.ext)
    clear E
    go_wp2_with fail
    go_ret
    exact ⟨rfl, F.out⟩
  · skip
    have HP := Lib.hid (right_pos hr)
    go_enter Try.func3, Try.ntmps3
    go_wp2_with fail
    refine (shown_c _).mono ?_
    rintro e w1 ⟨rfl, E⟩
    have F := Lib.hid (((Ext.rfl' w).alloc _).tr E)
    replace L := Lib.hid ((L.out.ext ((Ext.rfl' w).alloc _)).ext E)
    replace O := Lib.hid ((O.out.ext ((Ext.rfl' w).alloc _)).ext E)
    clear E
    go_wp2_with fail
    refine (refRight_c _ _ _ _ _ L.out).mono ?_
    rintro e w1 ⟨rfl, E⟩
    replace F := Lib.hid (F.out.tr E)
    replace L := Lib.hid (L.out.ext E)
    replace O := Lib.hid (O.out.ext E)
    clear E
    go_wp2_with fail
    refine (right_c _ _ _ _ _ L.out).mono ?_
    rintro e w2 ⟨rfl, E⟩
    replace F := Lib.hid (F.out.tr E)
    replace L := Lib.hid (L.out.ext E)
    replace O := Lib.hid (O.out.ext E)
    clear E
    go_wp2_with fail
    refine (same_c _ _ _ _ _ _ _ _ _ L.out O.out).mono ?_
    rintro e w3 ⟨rfl, E⟩
    replace F := Lib.hid (F.out.tr E.ext)
    replace L := Lib.hid (L.out.ext E.ext)
    replace O := Lib.hid (O.out.ext E.ext)
    clear E
    go_wp2_with fail
    refine (refSame_c _ _ _ _ _ _ _ _ _ L.out O.out).mono ?_
    rintro e w4 ⟨rfl, E⟩
    replace F := Lib.hid (F.out.tr E.ext)
    replace L := Lib.hid (L.out.ext E.ext)
    replace O := Lib.hid (O.out.ext E.ext)
    clear E
    go_wp2_with fail
    refine (strike_c _ _ _ _ _ h limit L.out HLEN.out HP.out).mono ?_
    rintro e w5 ⟨A1, n1, c1, rfl, s1, E⟩
    replace F := Lib.hid (F.out.tr E)
    replace L := Lib.hid (L.out.ext E)
    replace O := Lib.hid (O.out.ext E)
    clear E
    have P := Lib.hid s1
    clear s1
    go_wp2_with fail
    refine (refStrike_c _ _ _ _ _ h limit L.out HLEN.out HP.out).mono ?_
    rintro e w6 ⟨A2, n2, c2, rfl, s2, E⟩
    replace F := Lib.hid (F.out.tr E)
    replace L := Lib.hid (L.out.ext E)
    replace O := Lib.hid (O.out.ext E)
    replace P := Lib.hid (P.out.ext E)
    clear E
    have Q := Lib.hid s2
    clear s2
    go_wp2_with fail
    refine (rearm_c _ _ _ _ _ h L.out HLEN.out).mono ?_
    rintro e w7 ⟨A3, n3, c3, rfl, s3, E⟩
    replace F := Lib.hid (F.out.tr E)
    replace L := Lib.hid (L.out.ext E)
    replace O := Lib.hid (O.out.ext E)
    replace P := Lib.hid (P.out.ext E)
    replace Q := Lib.hid (Q.out.ext E)
    clear E
    have R := Lib.hid s3
    clear s3
    go_wp2_with fail
    refine (refRearm_c _ _ _ _ _ h L.out HLEN.out).mono ?_
    rintro e w8 ⟨A4, n4, c4, rfl, s4, E⟩
    replace F := Lib.hid (F.out.tr E)
    replace L := Lib.hid (L.out.ext E)
    replace O := Lib.hid (O.out.ext E)
    replace P := Lib.hid (P.out.ext E)
    replace Q := Lib.hid (Q.out.ext E)
    replace R := Lib.hid (R.out.ext E)
    clear E
    have S := Lib.hid s4
    clear s4
    go_wp2_with fail
    refine (may_c _ _ _ _ _ h L.out).mono ?_
    rintro e w' ⟨rfl, rfl⟩
    go_wp2_with fail
    refine (refMay_c _ _ _ _ _ h L.out).mono ?_
    rintro e w' ⟨rfl, rfl⟩
    go_wp2_with fail
    refine (refSame_c _ _ _ _ _ _ _ _ _ P.out Q.out).mono ?_
    rintro e w11 ⟨rfl, E⟩
    replace F := Lib.hid (F.out.tr E.ext)
    replace R := Lib.hid (R.out.ext E.ext)
    replace S := Lib.hid (S.out.ext E.ext)
    clear E
    go_wp2_with fail
    refine (refSame_c _ _ _ _ _ _ _ _ _ R.out S.out).mono ?_
    rintro e w12 ⟨rfl, E⟩
    replace F := Lib.hid (F.out.tr E.ext)
    clear E
    go_wp2_with fail
    go_ret
    exact ⟨by simp, F.out⟩

set_option maxRecDepth 100000 in
theorem handTells_lifted (os : Os) (started : os.Started) (H : Type) (enc : TypeId × Value → H) :
    ReturnsInHanded {} Try.checked os 3 .any (Rows.handTellsSpec.pre6 enc Try.prog Try.f3 Rows.handTellsRow.domain false) (Rows.handTellsSpec.post enc Try.prog Try.f3 false true false false) := by
  refine returnsInHanded_of_change (C := Try.checked) own_knob started (by kernel_rfl) Try.func3
    (ChangeSpec.witness6 (enc := enc) (C := Try.checked) false ⟨#[], #[.agg #[.slice none 0 0, .slice none 0 0, .int .i64 0, .int .i64 0]], []⟩ 12 (by kernel_rfl) (by kernel_rfl) (by kernel_rfl) (by kernel_rfl)) ?_
  intro W base args ds gs before hval0 hW hcnd _
  have hval : ∀ (j : Nat) t v, Try.f3.params[j]? = some t → args[j]? = some v → Value.okWide Try.prog W .any base t v := hval0
  have hW' := hW
  obtain ⟨p, q, hA0, hV, rfl, hfz, hnd⟩ := hW
  have hA : DataW.TrodAll enc Try.prog W 0 (fun _ => true) true Try.f3.params.toList args.toList ds p := hA0
  rw [Try.params3] at hA hval
  obtain ⟨v0, vs0, d0, ds0, p0, q0, hargs, rfl, rfl, h0, r0⟩ := trodAll_cons hA
  obtain ⟨rfl, rfl, rfl⟩ := trodAll_nil r0
  obtain rfl : args = #[v0] := by cases args; simp_all
  obtain ⟨rfl, rfl⟩ := trodVars_none hV
  have k0 := h0
  have lt0 : ∀ x ∈ p0, x.block < W.heap.size := by obtain ⟨m, hm⟩ := k0; exact DataW.trod_lt m _ _ _ hm
  have hv0 := hval 0 24 v0 rfl rfl
  obtain ⟨c0, c1, c2, c3, y0, y1, y2, y3, m, rfl, _, _, hy0, hy1, hy2, hy3⟩ := Joins.open_agg4 Try.underlying24 (by kernel_rfl) (by kernel_rfl) hv0 h0
  obtain ⟨A, n, c, l, e0, hl⟩ := hands_of hy0
  obtain ⟨A', n', c', o, e1, ho⟩ := hands_of hy1
  obtain ⟨h, e2, _, _⟩ := DataW.trod_int Try.underlying3 hy2
  obtain ⟨limit, e3, _, _⟩ := DataW.trod_int Try.underlying3 hy3
  simp at e0 e1 e2 e3
  subst e0 e1 e2 e3
  clear hA0 hval0
  refine (tells_c W A A' n c n' c' l o h limit hl ho).mono fun e W' ⟨he, bel⟩ => ?_
  subst he
  exact ⟨_, rfl, _, _, _, [], _, [], hW', trodAll_mk1 (shut_bool Try.underlying4 _), (trodAll_cons_mk (Below.trod laid_out (by kernel_rfl) (of_decide_eq_true (by kernel_rfl)) k0 bel lt0) trodAll_mk0), rfl, bel.frame _, fun h => by cases h⟩

/-- The statement. -/
theorem handTells_holds : Rows.HandTellsSaid :=
  OpenClaim.holds_of_wide 3 Try.f3 rfl rfl rfl rfl rfl rfl rfl ⟨rfl, rfl, rfl, rfl, rfl⟩ rfl rfl rfl rfl rfl (by kernel_rfl) Try.func3 (by kernel_rfl)
    (of_decide_eq_true (by kernel_rfl)) (by unfold Func.isWrapper; first | (rw [if_pos (by decide +kernel)]; kernel_rfl) | (rw [if_neg (by decide +kernel)]; exact ⟨rfl, rfl⟩))
    (fun os started H enc _ => handTells_lifted os started H enc)
#print axioms handTells_holds
end Go.Proofs.Ytcodmnhlboohhaa
