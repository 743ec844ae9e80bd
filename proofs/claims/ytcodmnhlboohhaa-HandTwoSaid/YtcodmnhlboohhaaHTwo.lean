/- HandTwo returns true at every input, and leaves its argument as it was. -/
import Derived.Test.YtcodmnhlboohhaaHPlain
namespace Go.Proofs.Ytcodmnhlboohhaa
open Go Go.RowKit Go.ChangeShapes Go.WideShapes Go.ChangeAt
set_option linter.unusedVariables false

theorem wf_u8 {n : Int} (h : (Lit.int .u8 n).wf = true) : ∃ k : Nat, n = k ∧ k ≤ 255 := by
  have : 0 ≤ n ∧ n ≤ 255 := by simpa [Lit.wf, IntKind.min, IntKind.max, IntKind.bits, IntKind.signed] using h
  exact ⟨n.toNat, by omega, by omega⟩
theorem run_eql_hand (x y : HandD) (w : World) : (binOp .eql 41 (.agg #[.int .i64 x.xt, .int .i64 x.fuel, .int .i64 x.strikes, .bool x.out]) (.agg #[.int .i64 y.xt, .int .i64 y.fuel, .int .i64 y.strikes, .bool y.out])).run Try.prog w = .ok (.bool (decide (x = y))) w := by
  rw [run_eql_struct]
  obtain ⟨a1, a2, a3, a4⟩ := x
  obtain ⟨b1, b2, b3, b4⟩ := y
  simp only [HandD.mk.injEq]
  by_cases h1 : a1 = b1 <;> by_cases h2 : a2 = b2 <;> by_cases h3 : a3 = b3 <;> by_cases h4 : a4 = b4 <;> simp [go_sem, h1, h2, h3, h4]

def bec (x : HandD) (limit : Int) : Bool := !x.out && decide (limit ≤ upD x.strikes)
theorem strikeD_nat {l : List HandD} {k : Nat} {x : HandD} (hx : l[k]? = some x) (limit : Int) : strikeD l k limit = (l.set k (struck x limit), bec x limit, 0) := by
  have hk : k < l.length := (List.getElem?_eq_some_iff.1 hx).1
  have hxe : l[k] = x := (List.getElem?_eq_some_iff.1 hx).2
  have hi : inD l k := ⟨by omega, by omega⟩
  unfold strikeD
  rw [dif_pos hi]
  simp only [Int.toNat_natCast, hxe]
  rfl
theorem rearmD_nat {l : List HandD} {k : Nat} {x : HandD} (hx : l[k]? = some x) : rearmD l k = (l.set k (mended x), 0) := by
  have hk : k < l.length := (List.getElem?_eq_some_iff.1 hx).1
  have hxe : l[k] = x := (List.getElem?_eq_some_iff.1 hx).2
  have hi : inD l k := ⟨by omega, by omega⟩
  unfold rearmD
  rw [dif_pos hi]
  simp only [Int.toNat_natCast, hxe]
theorem upD_pos' {l : List HandD} (h : ∀ x ∈ l, 0 ≤ x.strikes) (k : Nat) (x : HandD) (limit : Int) (hx : 0 ≤ x.strikes) : ∀ y ∈ l.set k (struck x limit), 0 ≤ y.strikes := by
  intro y hy
  rcases List.mem_or_eq_of_mem_set hy with hy | rfl
  · exact h y hy
  · exact upD_pos hx

set_option maxHeartbeats 16000000 in
set_option maxRecDepth 100000 in
theorem two_c (w : World) (A : Option Addr) (n c a b : Nat) (l : List HandD) (limit : Int) (hl : Hn w A n c l) (ha : a ≤ 255) (hb : b ≤ 255) :
    Calls Try.prog 6 #[.agg #[.slice A n c, .int .u8 (a : Int), .int .u8 (b : Int), .int .i64 limit]] w fun e w' => e = .returned (.bool true) ∧ Ext w w' := by
  have L := Lib.hid hl
  have HN := Lib.hid hl.1
  have hm := hl.max
  clear hl
  by_cases h80 : 80 < n
  · skip
    go_enter Try.func6, Try.ntmps6
    go_wp2_with fail
    refine (shown_c _).mono ?_
    rintro e w1 ⟨rfl, E⟩
    have F := Lib.hid (((Ext.rfl' w).alloc _).tr E)
    clear E
    go_wp2_with fail
    go_ret
    exact ⟨rfl, F.out⟩
  have hlen : l.length ≤ 1000000 := by have := L.out.1; omega
  have HLEN := Lib.hid hlen
  clear hlen
  cases hr : rightD l
  · skip
    go_enter Try.func6, Try.ntmps6
    go_wp2_with fail
    refine (shown_c _).mono ?_
    rintro e w1 ⟨rfl, E⟩
    have F := Lib.hid (((Ext.rfl' w).alloc _).tr E)
    replace L := Lib.hid ((L.out.ext ((Ext.rfl' w).alloc _)).ext E)
    clear E
    go_wp2_with fail
    refine (refRight_c _ _ _ _ _ L.out).mono ?_
    rintro e w1 ⟨rfl, E⟩
    replace F := Lib.hid (F.out.tr E)
    replace L := Lib.hid (L.out.ext E)
    clear E
    go_wp2_with fail
    go_ret
    exact ⟨rfl, F.out⟩
  by_cases h2 : n < 2
  · skip
    go_enter Try.func6, Try.ntmps6
    go_wp2_with fail
    refine (shown_c _).mono ?_
    rintro e w1 ⟨rfl, E⟩
    have F := Lib.hid (((Ext.rfl' w).alloc _).tr E)
    replace L := Lib.hid ((L.out.ext ((Ext.rfl' w).alloc _)).ext E)
    clear E
    go_wp2_with fail
    refine (refRight_c _ _ _ _ _ L.out).mono ?_
    rintro e w1 ⟨rfl, E⟩
    replace F := Lib.hid (F.out.tr E)
    replace L := Lib.hid (L.out.ext E)
    clear E
    go_wp2_with fail
    go_ret
    exact ⟨rfl, F.out⟩
  obtain ⟨i, HI⟩ : ∃ i : Nat, Hid ((a : Int) % (n : Int) = (i : Int) ∧ i < n) := ⟨a % n, by simp, Nat.mod_lt _ (by omega)⟩
  obtain ⟨k, HK⟩ : ∃ k : Nat, Hid ((b : Int) % (n : Int) = (k : Int) ∧ k < n) := ⟨b % n, by simp, Nat.mod_lt _ (by omega)⟩
  by_cases hik : i = k
  · skip
    have hq : ((a : Int) % (n : Int) == (b : Int) % (n : Int)) = true := by rw [HI.out.1, HK.out.1, hik]; simp
    clear hik
    go_enter Try.func6, Try.ntmps6
    go_wp2_with fail
    refine (shown_c _).mono ?_
    rintro e w1 ⟨rfl, E⟩
    have F := Lib.hid (((Ext.rfl' w).alloc _).tr E)
    replace L := Lib.hid ((L.out.ext ((Ext.rfl' w).alloc _)).ext E)
    clear E
    go_wp2_with fail
    refine (refRight_c _ _ _ _ _ L.out).mono ?_
    rintro e w1 ⟨rfl, E⟩
    replace F := Lib.hid (F.out.tr E)
    replace L := Lib.hid (L.out.ext E)
    clear E
    go_wp2_with fail
    go_ret
    exact ⟨rfl, F.out⟩
  have hq : ((a : Int) % (n : Int) == (b : Int) % (n : Int)) = false := by rw [HI.out.1, HK.out.1]; simp; omega
  have hil : i < l.length := by rw [← HN.out]; exact HI.out.2
  have hkl : k < l.length := by rw [← HN.out]; exact HK.out.2
  have hu : l[i]? = some l[i] := List.getElem?_eq_getElem hil
  have hv : l[k]? = some l[k] := List.getElem?_eq_getElem hkl
  have hup := right_pos hr l[i] (List.getElem_mem hil)
  have hvp := right_pos hr l[k] (List.getElem_mem hkl)
  generalize l[i] = u at *
  generalize l[k] = v at *
  have HP := Lib.hid (right_pos hr)
  have S1 := Lib.hid (strikeD_nat hu limit)
  have S3 := Lib.hid (strikeD_nat hv limit)
  have S2 : Hid (strikeD (l.set i (struck u limit)) k limit = ((l.set i (struck u limit)).set k (struck v limit), bec v limit, 0)) := strikeD_nat (by rw [List.getElem?_set_ne hik]; exact hv) limit
  have S4 : Hid (strikeD (l.set k (struck v limit)) i limit = ((l.set i (struck u limit)).set k (struck v limit), bec u limit, 0)) := by
    show _ = _
    rw [strikeD_nat (by rw [List.getElem?_set_ne (fun h => hik h.symm)]; exact hu) limit, List.set_comm _ _ (fun h => hik h.symm)]
  have R1 : Hid (rearmD ((l.set i (struck u limit)).set k (struck v limit)) i = (((l.set i (struck u limit)).set k (struck v limit)).set i (mended (struck u limit)), 0)) := rearmD_nat (by rw [List.getElem?_set_ne (fun h => hik h.symm)]; simp [hil])
  have R2 := Lib.hid (rearmD_nat hu)
  have Z1 : Hid ((((l.set i (struck u limit)).set k (struck v limit)).set i (mended (struck u limit)))[i]? = some (mended u)) := by
    show _ = _
    rw [List.getElem?_set_self (by simpa using hil)]; rfl
  have Z2 : Hid ((l.set i (mended u))[i]? = some (mended u)) := by
    show _ = _
    rw [List.getElem?_set_self hil]
  have HP1 := Lib.hid (upD_pos' HP.out i u limit hup)
  have HP2 := Lib.hid (upD_pos' HP.out k v limit hvp)
  have hin : (i : Int) < (n : Int) := by have := HI.out.2; omega
  clear hu hv hup hvp hik hil hkl
  go_enter Try.func6, Try.ntmps6
  go_wp2_with fail
  refine (shown_c _).mono ?_
  rintro e w1 ⟨rfl, E⟩
  have F := Lib.hid (((Ext.rfl' w).alloc _).tr E)
  replace L := Lib.hid ((L.out.ext ((Ext.rfl' w).alloc _)).ext E)
  clear E
  go_wp2_with fail
  refine (refRight_c _ _ _ _ _ L.out).mono ?_
  rintro e w1 ⟨rfl, E⟩
  replace F := Lib.hid (F.out.tr E)
  replace L := Lib.hid (L.out.ext E)
  clear E
  go_wp2_with fail
  rw [HI.out.1, HK.out.1]
  have k1 := strike_c _ _ _ _ _ (i : Int) limit L.out HLEN.out HP.out
  rw [S1.out] at k1
  refine k1.mono ?_
  rintro e w' ⟨A1, n1, c1, rfl, s1, E⟩
  clear k1
  replace F := Lib.hid (F.out.tr E)
  replace L := Lib.hid (L.out.ext E)
  clear E
  have P := Lib.hid s1
  clear s1
  go_wp2_with fail
  have k1 := strike_c _ _ _ _ _ (k : Int) limit P.out (by simpa using HLEN.out) HP1.out
  rw [S2.out] at k1
  refine k1.mono ?_
  rintro e w' ⟨A2, n2, c2, rfl, s2, E⟩
  clear k1
  replace F := Lib.hid (F.out.tr E)
  replace L := Lib.hid (L.out.ext E)
  clear E
  have X := Lib.hid s2
  clear s2 P
  go_wp2_with fail
  have k1 := strike_c _ _ _ _ _ (k : Int) limit L.out HLEN.out HP.out
  rw [S3.out] at k1
  refine k1.mono ?_
  rintro e w' ⟨A3, n3, c3, rfl, s3, E⟩
  clear k1
  replace F := Lib.hid (F.out.tr E)
  replace L := Lib.hid (L.out.ext E)
  replace X := Lib.hid (X.out.ext E)
  clear E
  have P := Lib.hid s3
  clear s3
  go_wp2_with fail
  have k1 := strike_c _ _ _ _ _ (i : Int) limit P.out (by simpa using HLEN.out) HP2.out
  rw [S4.out] at k1
  refine k1.mono ?_
  rintro e w' ⟨A4, n4, c4, rfl, s4, E⟩
  clear k1
  replace F := Lib.hid (F.out.tr E)
  replace L := Lib.hid (L.out.ext E)
  replace X := Lib.hid (X.out.ext E)
  clear E
  have Y := Lib.hid s4
  clear s4 P
  go_wp2_with fail
  have k1 := rearm_c _ _ _ _ _ (i : Int) X.out (by simpa using HLEN.out)
  rw [R1.out] at k1
  refine k1.mono ?_
  rintro e w' ⟨A5, n5, c5, rfl, s5, E⟩
  clear k1
  replace F := Lib.hid (F.out.tr E)
  replace L := Lib.hid (L.out.ext E)
  replace X := Lib.hid (X.out.ext E)
  replace Y := Lib.hid (Y.out.ext E)
  clear E
  have Z := Lib.hid s5
  clear s5
  go_wp2_with fail
  have k1 := rearm_c _ _ _ _ _ (i : Int) L.out HLEN.out
  rw [R2.out] at k1
  refine k1.mono ?_
  rintro e w' ⟨A6, n6, c6, rfl, s6, E⟩
  clear k1
  replace F := Lib.hid (F.out.tr E)
  replace L := Lib.hid (L.out.ext E)
  replace X := Lib.hid (X.out.ext E)
  replace Y := Lib.hid (Y.out.ext E)
  replace Z := Lib.hid (Z.out.ext E)
  clear E
  have W := Lib.hid s6
  clear s6
  obtain rfl : n5 = n := by rw [Z.out.1, HN.out]; simp
  obtain rfl : n6 = n5 := by rw [W.out.1, HN.out]; simp
  go_wp2_with fail
  obtain ⟨b', o', rfl, y1, y2, y3, y4⟩ := Hn.cells Z.out Z1.out
  obtain ⟨b'', o'', rfl, z1, z2, z3, z4⟩ := Hn.cells W.out Z2.out
  have g1 := run_eql_hand (mended u) (mended u)
  rw [decide_eq_true (rfl : mended u = mended u)] at g1
  simp only [mended] at y1 y2 y3 y4 z1 z2 z3 z4 g1
  have k1 := fun q => refSame_c (World.drewN _ q) _ _ _ _ _ _ _ _ (X.out.ext ((Ext.rfl' _).drewN q)) (Y.out.ext ((Ext.rfl' _).drewN q))
  simp only [decide_true] at k1
  have K1 := Lib.hid k1
  clear k1
  go_quiet ((go_at_call 11; exact Calls.quiet_of (K1.out _)))
  go_wp2_with fail
  go_ret
  exact ⟨rfl, F.out.drewN _⟩

set_option maxRecDepth 100000 in
theorem handTwo_lifted (os : Os) (started : os.Started) (H : Type) (enc : TypeId × Value → H) :
    ReturnsInHanded {} Try.checked os 6 .any (Rows.handTwoSpec.pre6 enc Try.prog Try.f6 Rows.handTwoRow.domain false) (Rows.handTwoSpec.post enc Try.prog Try.f6 false true false false) := by
  refine returnsInHanded_of_change (C := Try.checked) own_knob started (by kernel_rfl) Try.func6
    (ChangeSpec.witness6 (enc := enc) (C := Try.checked) false ⟨#[], #[.agg #[.slice none 0 0, .int .u8 0, .int .u8 0, .int .i64 0]], []⟩ 12 (by kernel_rfl) (by kernel_rfl) (by kernel_rfl) (by kernel_rfl)) ?_
  intro W base args ds gs before hval0 hW hcnd _
  have hval : ∀ (j : Nat) t v, Try.f6.params[j]? = some t → args[j]? = some v → Value.okWide Try.prog W .any base t v := hval0
  have hW' := hW
  obtain ⟨p, q, hA0, hV, rfl, hfz, hnd⟩ := hW
  have hA : DataW.TrodAll enc Try.prog W 0 (fun _ => true) true Try.f6.params.toList args.toList ds p := hA0
  rw [Try.params6] at hA hval
  obtain ⟨v0, vs0, d0, ds0, p0, q0, hargs, rfl, rfl, h0, r0⟩ := trodAll_cons hA
  obtain ⟨rfl, rfl, rfl⟩ := trodAll_nil r0
  obtain rfl : args = #[v0] := by cases args; simp_all
  obtain ⟨rfl, rfl⟩ := trodVars_none hV
  have k0 := h0
  have lt0 : ∀ x ∈ p0, x.block < W.heap.size := by obtain ⟨m, hm⟩ := k0; exact DataW.trod_lt m _ _ _ hm
  have hv0 := hval 0 45 v0 rfl rfl
  obtain ⟨c0, c1, c2, c3, y0, y1, y2, y3, m, rfl, _, _, hy0, hy1, hy2, hy3⟩ := Joins.open_agg4 Try.underlying45 (by kernel_rfl) (by kernel_rfl) hv0 h0
  obtain ⟨A, n, c, l, e0, hl⟩ := hands_of hy0
  obtain ⟨a, e1, _, g1⟩ := DataW.trod_int Try.underlying5 hy1
  obtain ⟨b, e2, _, g2⟩ := DataW.trod_int Try.underlying5 hy2
  obtain ⟨limit, e3, _, _⟩ := DataW.trod_int Try.underlying3 hy3
  simp at e0 e1 e2 e3
  subst e0 e1 e2 e3
  obtain ⟨a, rfl, g1'⟩ := wf_u8 g1
  obtain ⟨b, rfl, g2'⟩ := wf_u8 g2
  clear hA0 hval0
  refine (two_c W A n c a b l limit hl g1' g2').mono fun e W' ⟨he, bel⟩ => ?_
  subst he
  exact ⟨_, rfl, _, _, _, [], _, [], hW', trodAll_mk1 (shut_bool Try.underlying4 _), (trodAll_cons_mk (Below.trod laid_out (by kernel_rfl) (of_decide_eq_true (by kernel_rfl)) k0 bel lt0) trodAll_mk0), rfl, bel.frame _, fun h => by cases h⟩

/-- The statement. -/
theorem handTwo_holds : Rows.HandTwoSaid :=
  OpenClaim.holds_of_wide 6 Try.f6 rfl rfl rfl rfl rfl rfl rfl ⟨rfl, rfl, rfl, rfl, rfl⟩ rfl rfl rfl rfl rfl (by kernel_rfl) Try.func6 (by kernel_rfl)
    (of_decide_eq_true (by kernel_rfl)) (by unfold Func.isWrapper; first | (rw [if_pos (by decide +kernel)]; kernel_rfl) | (rw [if_neg (by decide +kernel)]; exact ⟨rfl, rfl⟩))
    (fun os started H enc _ => handTwo_lifted os started H enc)
#print axioms handTwo_holds
end Go.Proofs.Ytcodmnhlboohhaa
