/- Handlers: the example at the head of each statement holds. -/
import Derived.Test.YtcodmnhlboohhaaHf
namespace Go.Proofs.Ytcodmnhlboohhaa
open Go Go.RowKit
set_option linter.unusedVariables false

def h0 : List HandD := [⟨8, 5, 0, false⟩]
def h1 : List HandD := [⟨8, 5, 1, false⟩]
def h2 : List HandD := [⟨8, 5, 2, true⟩]
def hneg : List HandD := [⟨0, -1, 0, false⟩]

set_option maxHeartbeats 4000000 in
set_option maxRecDepth 100000 in
theorem shown_c (w : World) : Calls Try.prog 7 #[] w fun e w' => e = .returned (.bool true) ∧ Ext w w' := by
  have S0 : Hid (Hn (w.alloc (.cells #[.int .i64 8, .int .i64 5, .int .i64 0, .bool false] 41)) (some ⟨w.heap.size, 0, none⟩) 1 1 h0) := Sn.lit w _ h0 encH_len 1 _ rfl (by decide) rfl
  go_enter Try.func7, Try.ntmps7
  go_wp2_with fail
  have k1 := strike_c _ _ _ _ _ 0 2 S0.out (by decide) (by simp [h0])
  rw [show strikeD h0 0 2 = (h1, false, 0) from by decide] at k1
  refine k1.mono ?_
  rintro e w1 ⟨A1, n1, c1, rfl, s1, E1⟩
  have S1 := Lib.hid s1
  have T1 := Lib.hid (S0.out.ext E1)
  have F1 := Lib.hid (((Ext.rfl' w).alloc _).tr E1)
  clear k1 s1 E1 S0
  go_wp2_with fail
  have k1 := strike_c _ _ _ _ _ 0 2 S1.out (by decide) (by simp [h1])
  rw [show strikeD h1 0 2 = (h2, true, 0) from by decide] at k1
  refine k1.mono ?_
  rintro e w2 ⟨A2, n2, c2, rfl, s2, E2⟩
  have S2 := Lib.hid s2
  have T2 := Lib.hid (T1.out.ext E2)
  have U2 := Lib.hid (S1.out.ext E2)
  have F2 := Lib.hid (F1.out.tr E2)
  clear k1 s2 E2 S1 T1 F1
  go_wp2_with fail
  have k1 := rearm_c _ _ _ _ _ 0 S2.out (by decide)
  rw [show rearmD h2 0 = (h0, 0) from by decide] at k1
  refine k1.mono ?_
  rintro e w3 ⟨A3, n3, c3, rfl, s3, E3⟩
  have V3 := Lib.hid s3
  have S3 := Lib.hid (S2.out.ext E3)
  have T3 := Lib.hid (T2.out.ext E3)
  have U3 := Lib.hid (U2.out.ext E3)
  have F3 := Lib.hid (F2.out.tr E3)
  clear k1 s3 E3 S2 T2 U2 F2
  go_wp2_with fail
  have k1 := strike_c _ _ _ _ _ 1 2 T3.out (by decide) (by simp [h0])
  rw [show strikeD h0 1 2 = (h0, false, -259) from by decide] at k1
  refine k1.mono ?_
  rintro e w4 ⟨A4, n4, c4, rfl, s4, E4⟩
  have S4 := Lib.hid (S3.out.ext E4)
  have T4 := Lib.hid (T3.out.ext E4)
  have U4 := Lib.hid (U3.out.ext E4)
  have V4 := Lib.hid (V3.out.ext E4)
  have F4 := Lib.hid (F3.out.tr E4)
  clear k1 s4 E4 S3 T3 U3 V3 F3
  go_wp2_with fail
  have k1 := may_c _ _ _ _ _ 0 U4.out
  rw [show mayD h1 0 = 0 from by decide] at k1
  refine k1.mono ?_
  rintro e w' ⟨rfl, rfl⟩
  clear k1
  go_wp2_with fail
  have k1 := may_c _ _ _ _ _ 0 S4.out
  rw [show mayD h2 0 = -262 from by decide] at k1
  refine k1.mono ?_
  rintro e w' ⟨rfl, rfl⟩
  clear k1
  go_wp2_with fail
  have k1 := same_c _ _ _ _ _ _ _ _ _ V4.out T4.out
  rw [show decide (h0 = h0) = true from by decide] at k1
  refine k1.mono ?_
  rintro e w5 ⟨rfl, E5⟩
  have S5 := Lib.hid (S4.out.ext E5.ext)
  have T5 := Lib.hid (T4.out.ext E5.ext)
  have U5 := Lib.hid (U4.out.ext E5.ext)
  have F5 := Lib.hid (F4.out.tr E5.ext)
  clear k1 E5 S4 T4 U4 V4 F4
  go_wp2_with fail
  have k1 := may_c _ _ _ _ _ (-1) T5.out
  rw [show mayD h0 (-1) = -259 from by decide] at k1
  refine k1.mono ?_
  rintro e w' ⟨rfl, rfl⟩
  clear k1
  go_wp2_with fail
  have k1 := right_c _ _ _ _ _ T5.out
  rw [show rightD h0 = true from by decide] at k1
  refine k1.mono ?_
  rintro e w6 ⟨rfl, E6⟩
  have T6 := Lib.hid (T5.out.ext E6)
  have U6 := Lib.hid (U5.out.ext E6)
  have F6 := Lib.hid (F5.out.tr E6)
  clear k1 E6 S5 T5 U5 F5
  have N6 : Hid (Hn (w6.alloc (.cells #[.int .i64 0, .int .i64 (-1), .int .i64 0, .bool false] 41)) (some ⟨w6.heap.size, 0, none⟩) 1 1 hneg) := Sn.lit w6 _ hneg encH_len 1 _ rfl (by decide) rfl
  go_wp2_with fail
  have k1 := right_c _ _ _ _ _ N6.out
  rw [show rightD hneg = false from by decide] at k1
  refine k1.mono ?_
  rintro e w7 ⟨rfl, E7⟩
  have T7 := Lib.hid ((T6.out.ext ((Ext.rfl' _).alloc _)).ext E7)
  have U7 := Lib.hid ((U6.out.ext ((Ext.rfl' _).alloc _)).ext E7)
  have F7 := Lib.hid ((F6.out.alloc _).tr E7)
  clear k1 E7 T6 U6 F6 N6
  go_wp2_with fail
  have k1 := same_c _ _ _ _ _ _ _ _ _ U7.out T7.out
  rw [show decide (h1 = h0) = false from by decide] at k1
  refine k1.mono ?_
  rintro e w8 ⟨rfl, E8⟩
  have F8 := Lib.hid (F7.out.tr E8.ext)
  clear k1 E8 T7 U7 F7
  go_wp2_with fail
  go_ret
  exact ⟨rfl, F8.out⟩
end Go.Proofs.Ytcodmnhlboohhaa
