/- uU4, uU5, uU6. -/
import Derived.Test.YtkmlmboclegpcaaW1
import Derived.Test.YtkmlmboclegpcaaW2
import Derived.Test.YtkmlmboclegpcaaW3
import Derived.Test.YtkmlmboclegpcaaW4
import Derived.Test.YtkmlmboclegpcaauW5
import Derived.Test.YtkmlmboclegpcaauW6
import Derived.Test.YtkmlmboclegpcaauW7
import Derived.Test.YtkmlmboclegpcaauW8
import Derived.Test.YtkmlmboclegpcaauW9
import Derived.Test.YtkmlmboclegpcaauW10
import Derived.Test.YtkmlmboclegpcaauW11
import Derived.Test.YtkmlmboclegpcaauW12
import Derived.Test.YtkmlmboclegpcaauW13
import Derived.Test.YtkmlmboclegpcaauW14
set_option linter.unusedVariables false
set_option linter.unusedSimpArgs false
namespace Go.Proofs.Ytkmlmboclegpcaa
open Go Go.RowKit
set_option maxRecDepth 100000
theorem p_now {W : List AV} {m r n : Int} (h : W[0]? = some (.val (.int .i64 n))) : (encP W m r)[0 + 0]? = some (.val (.int .i64 n)) := app_now h
theorem f_now {W : List AV} {m r f n : Int} (h : W[0]? = some (.val (.int .i64 n))) : (encF W m r f)[0 + 0 + 0]? = some (.val (.int .i64 n)) := app_now h
theorem f_free0 {W : List AV} {m r f : Int} (h : W.length = 1025) : (encF W m r f)[0 + 1027]? = some (.val (.int .i64 f)) := f_free h
theorem now_at (w : Wh) : (encWh w)[0]? = some (.val (.int .i64 w.now)) := rfl
def stT (t : Tmr) (n d : Int) (b : Bool) : Tmr := ⟨t.id, n + d, if b = true then d else 0, t.rank, t.hand, t.arg⟩
attribute [local irreducible] Decidable.decide awp ARun regK toK zW zP zF encP encF zBig28 zBig30 zBig95
theorem has_c {N : Nat} (hs : SortOk N) {w : Wh} {l : List Tmr} (h : WR w l) (hl : l.length < N) (m r i : Int) : FnC Try.prog 38 [.agg (encP (encWh w) m r), .val (.int .i64 i)] (.val (.bool (l.any (idB i)))) := by
 have c1 := pall_c hs h hl m r
 have c2 := contains_c 52 i (has1_c i) l (by have := h.ln; omega)
 have lw := h.len
 have hcl := encWh_closed w
 generalize encWh w = W at *
 have l2 : (encP W m r).length = 1027 := encP_len lw
 have hcp := encP_closed (m := m) (r := r) hcl
 refine goF Try.func38 (closedL_cons (.agg hcp) (closedL_cons (.val _) closedL_nil)) (fun w0 st0 => ?_)
 dsimp only [frOf]
 (repeat' (first | refine goN ?_ | refine awp_region_ne 1 rfl (fun _ => hmix) ?_ | refine boxW (t := 30) rfl l2 rfl rfl rfl ?_ | refine ARun.o rfl ?_ | refine goB ?_ | ((fail_if_success refine ARun.plain rfl ?_); refine ARun.fork rfl rfl rfl (fun h => ?_) (fun h => ?_)) | refine awp_cond rfl (fun h => ?_) (fun h => ?_)))
 refine awp_frz (fr' := [(2, .ptr 2 0 0 0), (3, .rp [.val (.int .i64 i)]), (4, .val (.bool false))]) [(3, ⟨1, 1, [[.val (.int .i64 i)]]⟩)] (.cons rfl (clo_all rfl) (.nil _)) ⟨.same _, .ptr1 (.head _) rfl rfl, .same _, trivial⟩ ?_
 (repeat' (first | refine loadW (t := 30) rfl rfl rfl rfl rfl (by assumption) rfl rfl ?_ | refine goA ?_ | refine cX c1 ?_ | refine ARun.makeFunc rfl rfl rfl (guardF_spec rfl) ?_ | refine cX c2 ?_ | refine goB ?_ | fail))
 exact awp_ret ⟨_, ResL.cons (ResA.tmp (.val _)) .nil, rfl⟩
set_option maxHeartbeats 8000000 in
theorem start_no {N : Nat} (hs : SortOk N) {w : Wh} {l : List Tmr} (h : WR w l) (hl : l.length < N) (m r : Int) (t : Tmr) (d : Int) (b : Bool) (hm : 0 ≤ m ∧ m ≤ 1000) (hr : 0 ≤ r ∧ r ≤ 1000) (hno : ¬ (1 ≤ d ∧ d ≤ 4294967295) ∨ l.any (idB t.id) = true) : FnC Try.prog 13 [.agg (encP (encWh w) m r), .agg (encTm t), .val (.int .i64 d), .val (.bool b)] (.tup [.agg (encP (encWh w) m r), .val (.int .i64 (-24))]) := by
 have c2 := has_c hs h hl m r t.id
 have lw := h.len
 have hcl := encWh_closed w
 generalize encWh w = W at *
 have c1 := of_c lw hcl m r hm hr
 have lz := zP_len
 have lf := zF_len
 have l2 : (encP W m r).length = 1027 := encP_len lw
 have l3 : (encF W m r (r - m)).length = 1028 := encF_len lw
 have hcp := encP_closed (m := m) (r := r) hcl
 by_cases h1 : d < 1
 ·have d1 : decide (d < 1) = true := decide_eq_true h1
  refine goF Try.func13 (closedL_cons (.agg hcp) (closedL_cons (.agg (encTm_closed t)) (closedL_cons (.val _) (closedL_cons (.val _) closedL_nil)))) (fun w0 st0 => ?_)
  dsimp only [frOf]
  (repeat' (first | refine storeW (t := 95) rfl rfl rfl rfl rfl (by assumption) (by assumption) rfl rfl ?_ | refine storeW (t := 30) rfl rfl rfl rfl rfl (by assumption) (by assumption) rfl rfl ?_ | refine loadW (t := 30) rfl rfl rfl rfl rfl (by assumption) rfl rfl ?_ | refine boxW (t := 30) rfl l2 rfl rfl rfl ?_ | refine allocW (t := 95) rfl zFall zF_eq zF_len rfl rfl rfl ?_ | refine allocW (t := 30) rfl zPall zP_eq zP_len rfl rfl rfl ?_ | refine goA ?_ | refine cX c1 ?_ | refine goB ?_ | fail))
  exact awp_ret ⟨_, (ResL.cons (ResA.agg rfl rfl rfl rfl rfl rfl (loadCs_all l2) (RL.allClosed (by assumption))) (ResL.cons (ResA.tmp (.val _)) .nil)), rfl⟩
 have d1 : decide (d < 1) = false := decide_eq_false h1
 by_cases h2 : 4294967296 ≤ d
 ·have d2 : decide (4294967296 ≤ d) = true := decide_eq_true h2
  refine goF Try.func13 (closedL_cons (.agg hcp) (closedL_cons (.agg (encTm_closed t)) (closedL_cons (.val _) (closedL_cons (.val _) closedL_nil)))) (fun w0 st0 => ?_)
  dsimp only [frOf]
  (repeat' (first | refine storeW (t := 95) rfl rfl rfl rfl rfl (by assumption) (by assumption) rfl rfl ?_ | refine storeW (t := 30) rfl rfl rfl rfl rfl (by assumption) (by assumption) rfl rfl ?_ | refine loadW (t := 30) rfl rfl rfl rfl rfl (by assumption) rfl rfl ?_ | refine boxW (t := 30) rfl l2 rfl rfl rfl ?_ | refine allocW (t := 95) rfl zFall zF_eq zF_len rfl rfl rfl ?_ | refine allocW (t := 30) rfl zPall zP_eq zP_len rfl rfl rfl ?_ | refine goA ?_ | refine cX c1 ?_ | refine goB ?_ | fail))
  exact awp_ret ⟨_, (ResL.cons (ResA.agg rfl rfl rfl rfl rfl rfl (loadCs_all l2) (RL.allClosed (by assumption))) (ResL.cons (ResA.tmp (.val _)) .nil)), rfl⟩
 have d2 : decide (4294967296 ≤ d) = false := decide_eq_false h2
 have hy : l.any (idB t.id) = true := hno.resolve_left (fun q => q (by omega))
 rw [hy] at c2
 refine goF Try.func13 (closedL_cons (.agg hcp) (closedL_cons (.agg (encTm_closed t)) (closedL_cons (.val _) (closedL_cons (.val _) closedL_nil)))) (fun w0 st0 => ?_)
 dsimp only [frOf]
 (repeat' (first | refine storeW (t := 95) rfl rfl rfl rfl rfl (by assumption) (by assumption) rfl rfl ?_ | refine storeW (t := 30) rfl rfl rfl rfl rfl (by assumption) (by assumption) rfl rfl ?_ | refine loadW (t := 30) rfl rfl rfl rfl rfl (by assumption) rfl rfl ?_ | refine boxW (t := 30) rfl l2 rfl rfl rfl ?_ | refine allocW (t := 95) rfl zFall zF_eq zF_len rfl rfl rfl ?_ | refine allocW (t := 30) rfl zPall zP_eq zP_len rfl rfl rfl ?_ | refine goA ?_ | refine cX c1 ?_ | refine cX c2 ?_ | refine goB ?_ | fail))
 exact awp_ret ⟨_, (ResL.cons (ResA.agg rfl rfl rfl rfl rfl rfl (loadCs_all l2) (RL.allClosed (by assumption))) (ResL.cons (ResA.tmp (.val _)) .nil)), rfl⟩
set_option maxHeartbeats 8000000 in
theorem start_full {N : Nat} (hs : SortOk N) {w : Wh} {l : List Tmr} (h : WR w l) (hl : l.length < N) (m r : Int) (t : Tmr) (d : Int) (b : Bool) (hm : 0 ≤ m ∧ m ≤ 1000) (hr : 0 ≤ r ∧ r ≤ 1000) (hd : 1 ≤ d ∧ d ≤ 4294967295) (hn : l.any (idB t.id) = false) (hf : r ≤ m) : FnC Try.prog 13 [.agg (encP (encWh w) m r), .agg (encTm t), .val (.int .i64 d), .val (.bool b)] (.tup [.agg (encP (encWh w) m r), .val (.int .i64 (-258))]) := by
 have c2 := has_c hs h hl m r t.id
 rw [hn] at c2
 have lw := h.len
 have hcl := encWh_closed w
 generalize encWh w = W at *
 have c1 := of_c lw hcl m r hm hr
 have lz := zP_len
 have lf := zF_len
 have l2 : (encP W m r).length = 1027 := encP_len lw
 have l3 : (encF W m r (r - m)).length = 1028 := encF_len lw
 have g6 := f_free0 (m := m) (r := r) (f := r - m) lw
 have hcp := encP_closed (m := m) (r := r) hcl
 have d1 : decide (d < 1) = false := decide_eq_false (by omega)
 have d2 : decide (4294967296 ≤ d) = false := decide_eq_false (by omega)
 have d3 : decide (r - m < 1) = true := decide_eq_true (by omega)
 refine goF Try.func13 (closedL_cons (.agg hcp) (closedL_cons (.agg (encTm_closed t)) (closedL_cons (.val _) (closedL_cons (.val _) closedL_nil)))) (fun w0 st0 => ?_)
 dsimp only [frOf]
 (repeat' (first | refine storeW (t := 95) rfl rfl rfl rfl rfl (by assumption) (by assumption) rfl rfl ?_ | refine storeW (t := 30) rfl rfl rfl rfl rfl (by assumption) (by assumption) rfl rfl ?_ | refine loadW (t := 30) rfl rfl rfl rfl rfl (by assumption) rfl rfl ?_ | refine boxW (t := 30) rfl l2 rfl rfl rfl ?_ | refine allocW (t := 95) rfl zFall zF_eq zF_len rfl rfl rfl ?_ | refine allocW (t := 30) rfl zPall zP_eq zP_len rfl rfl rfl ?_ | refine goA ?_ | refine cX c1 ?_ | refine cX c2 ?_ | refine loadC rfl rfl rfl rfl rfl g6 rfl rfl ?_ | refine goB ?_ | fail))
 exact awp_ret ⟨_, (ResL.cons (ResA.agg rfl rfl rfl rfl rfl rfl (loadCs_all l2) (RL.allClosed (by assumption))) (ResL.cons (ResA.tmp (.val _)) .nil)), rfl⟩
set_option maxHeartbeats 16000000 in
theorem start_yes {N : Nat} (hs : SortOk N) {w : Wh} {l : List Tmr} (h : WR w l) (hl : l.length < N) (hl9 : l.length < 900) (m r : Int) (t : Tmr) (d : Int) (b : Bool) (hm : 0 ≤ m ∧ m ≤ 1000) (hr : 0 ≤ r ∧ r ≤ 1000) (hd : 1 ≤ d ∧ d ≤ 4294967295) (hn : l.any (idB t.id) = false) (hf : m < r) : FnC Try.prog 13 [.agg (encP (encWh w) m r), .agg (encTm t), .val (.int .i64 d), .val (.bool b)] (.tup [.agg (encP (encWh (putD w (stT t w.now d b))) (m + 1) r), .val (.int .i64 0)]) := by
 have c2 := has_c hs h hl m r t.id
 rw [hn] at c2
 have h0 := h.r.1
 have h1 := h.n1
 have c3 := add_s h (stT t w.now d b) (by show w.now < w.now + d; omega) (by show w.now + d < w.now + 4294967296; omega)
 have lx := (h.add (t := stT t w.now d b) (by show w.now < w.now + d; omega) (by show w.now + d < w.now + 4294967296; omega) hl9).len
 have lw := h.len
 have hcl := encWh_closed w
 have hcx := encWh_closed (putD w (stT t w.now d b))
 have e0 := now_at w
 generalize encWh (putD w (stT t w.now d b)) = X at *
 generalize encWh w = W at *
 generalize w.now = n at *
 have c1 := of_c lw hcl m r hm hr
 have lz := zP_len
 have lf := zF_len
 have lzw := zW_len
 have l2 : (encP W m r).length = 1027 := encP_len lw
 have l3 : (encF W m r (r - m)).length = 1028 := encF_len lw
 have l4 : (encP X (m + 1) r).length = 1027 := encP_len lx
 have g6 := f_free0 (m := m) (r := r) (f := r - m) lw
 have g5 := f_now (m := m) (r := r) (f := r - m) e0
 have g4 := f_wheel (m := m) (r := r) (f := r - m) lw
 have g7 := p_many (m := m) (r := r) lx
 have g8 := p_setw (m := m) (r := r) lw lx
 have g9 := p_set (m := m) (r := r) lx (m + 1)
 have hcp := encP_closed (m := m) (r := r) hcl
 have hcq := encP_closed (m := m + 1) (r := r) hcx
 have z1 : ((0 : Int) != 0) = false := by simp
 have d1 : decide (d < 1) = false := decide_eq_false (by omega)
 have d2 : decide (4294967296 ≤ d) = false := decide_eq_false (by omega)
 have d3 : decide (r - m < 1) = false := decide_eq_false (by omega)
 refine goF Try.func13 (closedL_cons (.agg hcp) (closedL_cons (.agg (encTm_closed t)) (closedL_cons (.val _) (closedL_cons (.val _) closedL_nil)))) (fun w0 st0 => ?_)
 dsimp only [frOf]
 cases b with
 | true =>
  (repeat' (first | refine storeW (t := 28) rfl rfl rfl rfl rfl (by assumption) (by assumption) rfl rfl ?_ | refine loadW (t := 28) rfl rfl rfl rfl rfl (by assumption) rfl rfl ?_ | refine storeW (t := 95) rfl rfl rfl rfl rfl (by assumption) (by assumption) rfl rfl ?_ | refine storeW (t := 30) rfl rfl rfl rfl rfl (by assumption) (by assumption) rfl rfl ?_ | refine loadW (t := 30) rfl rfl rfl rfl rfl (by assumption) rfl rfl ?_ | refine boxW (t := 30) rfl l2 rfl rfl rfl ?_ | refine allocW (t := 28) rfl zall zW_eq zW_len rfl rfl rfl ?_ | refine allocW (t := 95) rfl zFall zF_eq zF_len rfl rfl rfl ?_ | refine allocW (t := 30) rfl zPall zP_eq zP_len rfl rfl rfl ?_ | refine goA ?_ | refine cX c1 ?_ | refine cX c2 ?_ | refine cX c3 ?_ | refine loadC rfl rfl rfl rfl rfl g6 rfl rfl ?_ | refine loadC rfl rfl rfl rfl rfl g5 rfl rfl ?_ | refine loadC rfl rfl rfl rfl rfl g7 rfl rfl ?_ | refine loadS (t := 28) rfl rfl rfl rfl rfl g4 rfl rfl ?_ | refine storeS (t := 28) rfl rfl rfl rfl rfl lx rfl g8 rfl ?_ | refine storeC rfl rfl rfl rfl rfl rfl g9 rfl ?_ | refine goB ?_ | fail))
  exact awp_ret ⟨_, (ResL.cons (ResA.agg rfl rfl rfl rfl rfl rfl (loadCs_all l4) (RL.allClosed (by assumption))) (ResL.cons (ResA.tmp (.val _)) .nil)), rfl⟩
 | false =>
  (repeat' (first | refine storeW (t := 28) rfl rfl rfl rfl rfl (by assumption) (by assumption) rfl rfl ?_ | refine loadW (t := 28) rfl rfl rfl rfl rfl (by assumption) rfl rfl ?_ | refine storeW (t := 95) rfl rfl rfl rfl rfl (by assumption) (by assumption) rfl rfl ?_ | refine storeW (t := 30) rfl rfl rfl rfl rfl (by assumption) (by assumption) rfl rfl ?_ | refine loadW (t := 30) rfl rfl rfl rfl rfl (by assumption) rfl rfl ?_ | refine boxW (t := 30) rfl l2 rfl rfl rfl ?_ | refine allocW (t := 28) rfl zall zW_eq zW_len rfl rfl rfl ?_ | refine allocW (t := 95) rfl zFall zF_eq zF_len rfl rfl rfl ?_ | refine allocW (t := 30) rfl zPall zP_eq zP_len rfl rfl rfl ?_ | refine goA ?_ | refine cX c1 ?_ | refine cX c2 ?_ | refine cX c3 ?_ | refine loadC rfl rfl rfl rfl rfl g6 rfl rfl ?_ | refine loadC rfl rfl rfl rfl rfl g5 rfl rfl ?_ | refine loadC rfl rfl rfl rfl rfl g7 rfl rfl ?_ | refine loadS (t := 28) rfl rfl rfl rfl rfl g4 rfl rfl ?_ | refine storeS (t := 28) rfl rfl rfl rfl rfl lx rfl g8 rfl ?_ | refine storeC rfl rfl rfl rfl rfl rfl g9 rfl ?_ | refine goB ?_ | fail))
  exact awp_ret ⟨_, (ResL.cons (ResA.agg rfl rfl rfl rfl rfl rfl (loadCs_all l4) (RL.allClosed (by assumption))) (ResL.cons (ResA.tmp (.val _)) .nil)), rfl⟩
set_option maxHeartbeats 8000000 in
theorem cancel_yes {w : Wh} {l : List Tmr} (h : WR w l) (m r i : Int) (hm : 0 ≤ m ∧ m ≤ 1000) (hy : l.any (idB i) = true) : FnC Try.prog 15 [.agg (encP (encWh w) m r), .val (.int .i64 i)] (.tup [.agg (encP (encWh (cutW w i)) (m - 1) r), .val (.bool true)]) := by
 have c1 := cut_s h i
 rw [hy] at c1
 have lw := h.len
 have lx := (h.cut i).len
 have hcl := encWh_closed w
 have hcx := encWh_closed (cutW w i)
 generalize encWh (cutW w i) = X at *
 generalize encWh w = W at *
 have lz := zP_len
 have lzw := zW_len
 have l2 : (encP W m r).length = 1027 := encP_len lw
 have l4 : (encP X (m - 1) r).length = 1027 := encP_len lx
 have g4 := p_wheel (m := m) (r := r) lw
 have g7 := p_many (m := m) (r := r) lx
 have g8 := p_setw (m := m) (r := r) lw lx
 have g9 := p_set (m := m) (r := r) lx (m - 1)
 have hcp := encP_closed (m := m) (r := r) hcl
 have hcq := encP_closed (m := m - 1) (r := r) hcx
 refine goF Try.func15 (closedL_cons (.agg hcp) (closedL_cons (.val _) closedL_nil)) (fun w0 st0 => ?_)
 dsimp only [frOf]
 (repeat' (first | refine storeW (t := 28) rfl rfl rfl rfl rfl (by assumption) (by assumption) rfl rfl ?_ | refine loadW (t := 28) rfl rfl rfl rfl rfl (by assumption) rfl rfl ?_ | refine storeW (t := 30) rfl rfl rfl rfl rfl (by assumption) (by assumption) rfl rfl ?_ | refine loadW (t := 30) rfl rfl rfl rfl rfl (by assumption) rfl rfl ?_ | refine boxW (t := 30) rfl l2 rfl rfl rfl ?_ | refine allocW (t := 28) rfl zall zW_eq zW_len rfl rfl rfl ?_ | refine allocW (t := 30) rfl zPall zP_eq zP_len rfl rfl rfl ?_ | refine goA ?_ | refine cX c1 ?_ | refine loadC rfl rfl rfl rfl rfl g7 rfl rfl ?_ | refine loadS (t := 28) rfl rfl rfl rfl rfl g4 rfl rfl ?_ | refine storeS (t := 28) rfl rfl rfl rfl rfl lx rfl g8 rfl ?_ | refine storeC rfl rfl rfl rfl rfl rfl g9 rfl ?_ | refine goB ?_ | fail))
 exact awp_ret ⟨_, (ResL.cons (ResA.agg rfl rfl rfl rfl rfl rfl (loadCs_all l4) (RL.allClosed (by assumption))) (ResL.cons (ResA.tmp (.val _)) .nil)), rfl⟩
set_option maxHeartbeats 8000000 in
theorem cancel_no {w : Wh} {l : List Tmr} (h : WR w l) (m r i : Int) (hy : l.any (idB i) = false) : FnC Try.prog 15 [.agg (encP (encWh w) m r), .val (.int .i64 i)] (.tup [.agg (encP (encWh w) m r), .val (.bool false)]) := by
 have c1 := cut_s h i
 rw [hy] at c1
 have lw := h.len
 have lx := (h.cut i).len
 have hcl := encWh_closed w
 generalize encWh (cutW w i) = X at *
 generalize encWh w = W at *
 have lz := zP_len
 have lzw := zW_len
 have l2 : (encP W m r).length = 1027 := encP_len lw
 have g4 := p_wheel (m := m) (r := r) lw
 have hcp := encP_closed (m := m) (r := r) hcl
 refine goF Try.func15 (closedL_cons (.agg hcp) (closedL_cons (.val _) closedL_nil)) (fun w0 st0 => ?_)
 dsimp only [frOf]
 (repeat' (first | refine storeW (t := 28) rfl rfl rfl rfl rfl (by assumption) (by assumption) rfl rfl ?_ | refine loadW (t := 28) rfl rfl rfl rfl rfl (by assumption) rfl rfl ?_ | refine storeW (t := 30) rfl rfl rfl rfl rfl (by assumption) (by assumption) rfl rfl ?_ | refine loadW (t := 30) rfl rfl rfl rfl rfl (by assumption) rfl rfl ?_ | refine boxW (t := 30) rfl l2 rfl rfl rfl ?_ | refine allocW (t := 28) rfl zall zW_eq zW_len rfl rfl rfl ?_ | refine allocW (t := 30) rfl zPall zP_eq zP_len rfl rfl rfl ?_ | refine goA ?_ | refine cX c1 ?_ | refine loadS (t := 28) rfl rfl rfl rfl rfl g4 rfl rfl ?_ | refine goB ?_ | fail))
 exact awp_ret ⟨_, (ResL.cons (ResA.agg rfl rfl rfl rfl rfl rfl (loadCs_all l2) (RL.allClosed (by assumption))) (ResL.cons (ResA.tmp (.val _)) .nil)), rfl⟩
end Go.Proofs.Ytkmlmboclegpcaa
namespace Go.Proofs.Ytkmlmboclegpcaa
open Go Go.RowKit
set_option maxRecDepth 100000
def encYs (q : List Tmr) : List (List AV) := q.map fun t => [.agg (encTm t)]
def capG (l : List Tmr) : List AV := [.rp [encTs l]]
theorem capG_closed (l : List Tmr) : ∀ x, x ∈ capG l → Closed x := closedL_cons (.rp (closedL_cons (closed_ts l) closedL_nil)) closedL_nil
attribute [local irreducible] Decidable.decide awp ARun regK toK zW zP zF encP encF zBig28 zBig30 zBig95 agL
theorem again_c (l : List Tmr) : FnC Try.prog 44 [encTs l] (.clo (.func 63) [] (capG l)) := by
 refine goF Try.func44 (closedL_cons (closed_ts l) closedL_nil) (fun w0 st0 => ?_)
 dsimp only [frOf]
 (repeat' (first | refine goA ?_ | refine ARun.makeFunc rfl rfl rfl (guardF_spec rfl) ?_ | refine goB ?_ | fail))
 refine awp_ret ⟨_, ResL.cons (ResA.tmp (Reif.cloL (RL.nil _) (RL.cons (.ptr rfl rfl rfl (closedL_cons (closed_ts l) closedL_nil)) (RL.nil _)))) .nil, rfl⟩
theorem agL_at {l : List Tmr} {k : Nat} {x : Tmr} (h : l[k]? = some x) (hb : agB x = true) : (agL l)[(agL (l.take k)).length]? = some (agT x) := by
 have e1 := agL_take h
 rw [if_pos hb] at e1
 have e : agL l = agL (l.take (k + 1)) ++ agL (l.drop (k + 1)) := by
  unfold agL
  rw [← List.map_append, ← List.filter_append, List.take_append_drop]
 rw [e, e1, List.append_assoc, List.getElem?_append_right (Nat.le_refl _), Nat.sub_self]
 rfl
set_option maxHeartbeats 4000000 in
theorem again1_i (l : List Tmr) (hl : l.length ≤ 1000) (hL : ∀ t, t ∈ l → 0 ≤ t.due ∧ t.due ≤ 5000000000000000000 ∧ 0 ≤ t.each ∧ t.each ≤ 4294967295) : IterC Try.prog 63 (capG l) (encYs (agL l)) := by
 refine IterC.of_awpY (T := tt) (ok := tok) Try.func63 (by kernel_rfl) rfl rfl (by kernel_rfl) (capG_closed l) (fun Y => ?_)
 dsimp only [frOf, capG]
 have hlx : (encYs (agL l)).length = (agL l).length := by unfold encYs; rw [List.length_map]
 have em : (((l.map encTm).length : Nat) : Int) = l.length := by rw [List.length_map]
 have e0 : (agL (l.take 0)).length = 0 := by unfold agL; rfl
 (repeat' (first | refine awpY_seq ?_ | refine awpY_block ?_ | (refine awpY_plain (fun W st => ?_); refine awp_region (fun _ => hmix) ?_) | refine ARun.op rfl (by first | exact True.intro | exact rfl | (unfold inR; omega) | omega | ((try unfold inR); simp only [decide_eq_true_eq, decide_eq_false_iff_not, beq_iff_eq, beq_eq_false_iff_ne, ne_eq, Bool.not_eq_true', Bool.not_eq_false', List.length_map, List.length_append, List.length_take, List.length_drop, List.length_replicate, List.length_cons, List.length_nil] at *; omega)) ?_ | (refine ARun.fin (by first | (intro h; cases h; done) | (intro _; kernel_rfl)) ?_; dsimp only [thenY, blockY, thenA, blockA, AS.bump, List.length_cons, List.length_nil, reduceIte, Nat.reduceEqDiff]) | (refine awpY_skip ?_; dsimp only [thenY, blockY, thenA, blockA, AS.bump, List.length_cons, List.length_nil, reduceIte, Nat.reduceEqDiff]) | (refine awpY_exit ?_; dsimp only [thenY, blockY, thenA, blockA, AS.bump, List.length_cons, List.length_nil, reduceIte, Nat.reduceEqDiff]) | refine awpY_condT rfl (by first | rfl | assumption | exact beq_int _ | exact bne_int _) ?_ | refine awpY_condF rfl (by first | rfl | assumption | exact beq_int _ | exact bne_int _) ?_))
 refine awpY_loopT (τ := Nat × Nat) (fun t => ⟨[(7, .val (.int .i64 (t.1 : Nat))), (6, .val (.int .i64 ((l.map encTm).length : Nat))), (5, encTs l), (0, .val (.func (.yield Y.l) #[] #[])), (1, .rp [encTs l])], [], t.2⟩) (fun t => some (agL (l.take t.1)).length) (fun t => t.1 ≤ l.length) (fun t => l.length - t.1) (0, _) (Nat.zero_le _) (congrArg some e0.symm) ⟨⟨rfl, rfl, rfl, rfl, rfl, trivial⟩, trivial, Nat.le_refl _⟩ (fun t ht => ?_)
 obtain ⟨k, gc⟩ := t
 dsimp only at ht ⊢
 by_cases hlt : k < l.length
 ·have d1 : decide (((k : Nat) : Int) < ((l.map encTm).length : Nat)) = true := decide_eq_true (by omega)
  obtain ⟨x, hx⟩ : ∃ x, l[k]? = some x := ⟨_, List.getElem?_eq_getElem hlt⟩
  have hp : (l.map encTm)[((k : Nat) : Int).toNat]? = some (encTm x) := map_at hx
  have hxl := hL x (List.mem_of_getElem? hx)
  have e1 := agL_take hx
  by_cases h0 : x.each = 0
  ·have d2 : (x.each == 0) = true := beq_iff_eq.2 h0
   have hb : agB x = false := by unfold agB; rw [d2]; rfl
   rw [if_neg (by rw [hb]; decide)] at e1
   (repeat' (first | refine awpY_seq ?_ | refine awpY_block ?_ | (refine awpY_plain (fun W st => ?_); refine awp_region (fun _ => hmix) ?_) | refine ARun.op rfl (by first | exact True.intro | exact rfl | (unfold inR; omega) | omega | ((try unfold inR); simp only [decide_eq_true_eq, decide_eq_false_iff_not, beq_iff_eq, beq_eq_false_iff_ne, ne_eq, Bool.not_eq_true', Bool.not_eq_false', List.length_map, List.length_append, List.length_take, List.length_drop, List.length_replicate, List.length_cons, List.length_nil] at *; omega)) ?_ | refine ARun.indexAddr rfl rfl (by omega) (by with_reducible exact hp) rfl rfl rfl rfl rfl (guardF_spec rfl) ?_ | (refine ARun.fin (by first | (intro h; cases h; done) | (intro _; kernel_rfl)) ?_; dsimp only [thenY, blockY, thenA, blockA, AS.bump, List.length_cons, List.length_nil, reduceIte, Nat.reduceEqDiff]) | (refine awpY_skip ?_; dsimp only [thenY, blockY, thenA, blockA, AS.bump, List.length_cons, List.length_nil, reduceIte, Nat.reduceEqDiff]) | (refine awpY_exit ?_; dsimp only [thenY, blockY, thenA, blockA, AS.bump, List.length_cons, List.length_nil, reduceIte, Nat.reduceEqDiff]) | refine awpY_condT rfl (by first | rfl | assumption | exact beq_int _ | exact bne_int _) ?_ | refine awpY_condF rfl (by first | rfl | assumption | exact beq_int _ | exact bne_int _) ?_))
   refine ⟨(k + 1, _), by rw [e1], ⟨⟨rfl, rfl, rfl, rfl, rfl, trivial⟩, trivial, Nat.le_refl _⟩, hlt, (by dsimp only; omega)⟩
  ·have d2 : (x.each == 0) = false := beq_eq_false_iff_ne.2 h0
   have hb : agB x = true := by unfold agB; rw [d2]; rfl
   have hy : (encYs (agL l))[(agL (l.take k)).length]? = some [.agg (encTm (agT x))] := by
    unfold encYs
    rw [List.getElem?_map, agL_at hx hb]
    rfl
   rw [if_pos hb] at e1
   (repeat' (first | refine awpY_yield 2 _ [(7, .val (.int .i64 (k : Nat))), (6, .val (.int .i64 ((l.map encTm).length : Nat))), (5, encTs l), (0, .val (.func (.yield Y.l) #[] #[])), (1, .rp [encTs l])] rfl hy (closedL_cons (.agg (encTm_closed _)) closedL_nil) (.cons (.val _) (.cons (.val _) (.cons (closed_ts l) (.cons (.val _) (.cons (.rp (closedL_cons (closed_ts l) closedL_nil)) .nil))))) rfl (fun W st => ?_) | refine awpY_seq ?_ | refine awpY_block ?_ | (refine awpY_plain (fun W st => ?_); refine awp_region (fun _ => hmix) ?_) | refine ARun.op rfl (by first | exact True.intro | exact rfl | (unfold inR; omega) | omega | ((try unfold inR); simp only [decide_eq_true_eq, decide_eq_false_iff_not, beq_iff_eq, beq_eq_false_iff_ne, ne_eq, Bool.not_eq_true', Bool.not_eq_false', List.length_map, List.length_append, List.length_take, List.length_drop, List.length_replicate, List.length_cons, List.length_nil] at *; omega)) ?_ | refine ARun.indexAddr rfl rfl (by omega) (by with_reducible exact hp) rfl rfl rfl rfl rfl (guardF_spec rfl) ?_ | (refine ARun.fin (by first | (intro h; cases h; done) | (intro _; kernel_rfl)) ?_; dsimp only [thenY, blockY, thenA, blockA, AS.bump, List.length_cons, List.length_nil, reduceIte, Nat.reduceEqDiff]) | (refine awpY_skip ?_; dsimp only [thenY, blockY, thenA, blockA, AS.bump, List.length_cons, List.length_nil, reduceIte, Nat.reduceEqDiff]) | (refine awpY_exit ?_; dsimp only [thenY, blockY, thenA, blockA, AS.bump, List.length_cons, List.length_nil, reduceIte, Nat.reduceEqDiff]) | refine awpY_condT rfl (by first | rfl | assumption | exact beq_int _ | exact bne_int _) ?_ | refine awpY_condF rfl (by first | rfl | assumption | exact beq_int _ | exact bne_int _) ?_))
   refine ARun.nil ⟨rfl, rfl, rfl, ⟨rfl, rfl, rfl, rfl, rfl, trivial⟩, fun W st => ?_, fun W st => ?_⟩
   ·dsimp only [List.drop_succ_cons, List.drop_zero]
    (repeat' (first | refine awpY_seq ?_ | refine awpY_block ?_ | (refine awpY_plain (fun W st => ?_); refine awp_region (fun _ => hmix) ?_) | refine ARun.op rfl (by first | exact True.intro | exact rfl | (unfold inR; omega) | omega | ((try unfold inR); simp only [decide_eq_true_eq, decide_eq_false_iff_not, beq_iff_eq, beq_eq_false_iff_ne, ne_eq, Bool.not_eq_true', Bool.not_eq_false', List.length_map, List.length_append, List.length_take, List.length_drop, List.length_replicate, List.length_cons, List.length_nil] at *; omega)) ?_ | (refine ARun.fin (by first | (intro h; cases h; done) | (intro _; kernel_rfl)) ?_; dsimp only [thenY, blockY, thenA, blockA, AS.bump, List.length_cons, List.length_nil, reduceIte, Nat.reduceEqDiff]) | (refine awpY_skip ?_; dsimp only [thenY, blockY, thenA, blockA, AS.bump, List.length_cons, List.length_nil, reduceIte, Nat.reduceEqDiff]) | (refine awpY_exit ?_; dsimp only [thenY, blockY, thenA, blockA, AS.bump, List.length_cons, List.length_nil, reduceIte, Nat.reduceEqDiff]) | refine awpY_condT rfl (by first | rfl | assumption | exact beq_int _ | exact bne_int _) ?_ | refine awpY_condF rfl (by first | rfl | assumption | exact beq_int _ | exact bne_int _) ?_))
    refine ARun.nil ?_
    dsimp only [thenY, blockY]
    (repeat' (first | refine awpY_seq ?_ | refine awpY_block ?_ | (refine awpY_plain (fun W st => ?_); refine awp_region (fun _ => hmix) ?_) | refine ARun.op rfl (by first | exact True.intro | exact rfl | (unfold inR; omega) | omega | ((try unfold inR); simp only [decide_eq_true_eq, decide_eq_false_iff_not, beq_iff_eq, beq_eq_false_iff_ne, ne_eq, Bool.not_eq_true', Bool.not_eq_false', List.length_map, List.length_append, List.length_take, List.length_drop, List.length_replicate, List.length_cons, List.length_nil] at *; omega)) ?_ | (refine ARun.fin (by first | (intro h; cases h; done) | (intro _; kernel_rfl)) ?_; dsimp only [thenY, blockY, thenA, blockA, AS.bump, List.length_cons, List.length_nil, reduceIte, Nat.reduceEqDiff]) | (refine awpY_skip ?_; dsimp only [thenY, blockY, thenA, blockA, AS.bump, List.length_cons, List.length_nil, reduceIte, Nat.reduceEqDiff]) | (refine awpY_exit ?_; dsimp only [thenY, blockY, thenA, blockA, AS.bump, List.length_cons, List.length_nil, reduceIte, Nat.reduceEqDiff]) | refine awpY_condT rfl (by first | rfl | assumption | exact beq_int _ | exact bne_int _) ?_ | refine awpY_condF rfl (by first | rfl | assumption | exact beq_int _ | exact bne_int _) ?_))
    refine ⟨(k + 1, _), by rw [e1, List.length_append]; rfl, ⟨⟨rfl, rfl, rfl, rfl, rfl, trivial⟩, trivial, Nat.le_refl _⟩, hlt, (by dsimp only; omega)⟩
   ·dsimp only [List.drop_succ_cons, List.drop_zero]
    (repeat' (first | refine awpY_seq ?_ | refine awpY_block ?_ | (refine awpY_plain (fun W st => ?_); refine awp_region (fun _ => hmix) ?_) | refine ARun.op rfl (by first | exact True.intro | exact rfl | (unfold inR; omega) | omega | ((try unfold inR); simp only [decide_eq_true_eq, decide_eq_false_iff_not, beq_iff_eq, beq_eq_false_iff_ne, ne_eq, Bool.not_eq_true', Bool.not_eq_false', List.length_map, List.length_append, List.length_take, List.length_drop, List.length_replicate, List.length_cons, List.length_nil] at *; omega)) ?_ | (refine ARun.fin (by first | (intro h; cases h; done) | (intro _; kernel_rfl)) ?_; dsimp only [thenY, blockY, thenA, blockA, AS.bump, List.length_cons, List.length_nil, reduceIte, Nat.reduceEqDiff]) | (refine awpY_skip ?_; dsimp only [thenY, blockY, thenA, blockA, AS.bump, List.length_cons, List.length_nil, reduceIte, Nat.reduceEqDiff]) | (refine awpY_exit ?_; dsimp only [thenY, blockY, thenA, blockA, AS.bump, List.length_cons, List.length_nil, reduceIte, Nat.reduceEqDiff]) | refine awpY_condT rfl (by first | rfl | assumption | exact beq_int _ | exact bne_int _) ?_ | refine awpY_condF rfl (by first | rfl | assumption | exact beq_int _ | exact bne_int _) ?_))
    refine ARun.nil ?_
    dsimp only [thenY, blockY]
    (repeat' (first | refine awpY_seq ?_ | refine awpY_block ?_ | (refine awpY_plain (fun W st => ?_); refine awp_region (fun _ => hmix) ?_) | refine ARun.op rfl (by first | exact True.intro | exact rfl | (unfold inR; omega) | omega | ((try unfold inR); simp only [decide_eq_true_eq, decide_eq_false_iff_not, beq_iff_eq, beq_eq_false_iff_ne, ne_eq, Bool.not_eq_true', Bool.not_eq_false', List.length_map, List.length_append, List.length_take, List.length_drop, List.length_replicate, List.length_cons, List.length_nil] at *; omega)) ?_ | (refine ARun.fin (by first | (intro h; cases h; done) | (intro _; kernel_rfl)) ?_; dsimp only [thenY, blockY, thenA, blockA, AS.bump, List.length_cons, List.length_nil, reduceIte, Nat.reduceEqDiff]) | (refine awpY_skip ?_; dsimp only [thenY, blockY, thenA, blockA, AS.bump, List.length_cons, List.length_nil, reduceIte, Nat.reduceEqDiff]) | (refine awpY_exit ?_; dsimp only [thenY, blockY, thenA, blockA, AS.bump, List.length_cons, List.length_nil, reduceIte, Nat.reduceEqDiff]) | refine awpY_condT rfl (by first | rfl | assumption | exact beq_int _ | exact bne_int _) ?_ | refine awpY_condF rfl (by first | rfl | assumption | exact beq_int _ | exact bne_int _) ?_))
    refine awpY_ret ?_
    exact ⟨.inr rfl, .inr rfl⟩
 ·have hk : k = l.length := by omega
  have d1 : decide (((k : Nat) : Int) < ((l.map encTm).length : Nat)) = false := decide_eq_false (by omega)
  have e2 : l.take k = l := List.take_of_length_le (by omega)
  rw [e2]
  (repeat' (first | refine awpY_seq ?_ | refine awpY_block ?_ | (refine awpY_plain (fun W st => ?_); refine awp_region (fun _ => hmix) ?_) | refine ARun.op rfl (by first | exact True.intro | exact rfl | (unfold inR; omega) | omega | ((try unfold inR); simp only [decide_eq_true_eq, decide_eq_false_iff_not, beq_iff_eq, beq_eq_false_iff_ne, ne_eq, Bool.not_eq_true', Bool.not_eq_false', List.length_map, List.length_append, List.length_take, List.length_drop, List.length_replicate, List.length_cons, List.length_nil] at *; omega)) ?_ | (refine ARun.fin (by first | (intro h; cases h; done) | (intro _; kernel_rfl)) ?_; dsimp only [thenY, blockY, thenA, blockA, AS.bump, List.length_cons, List.length_nil, reduceIte, Nat.reduceEqDiff]) | (refine awpY_skip ?_; dsimp only [thenY, blockY, thenA, blockA, AS.bump, List.length_cons, List.length_nil, reduceIte, Nat.reduceEqDiff]) | (refine awpY_exit ?_; dsimp only [thenY, blockY, thenA, blockA, AS.bump, List.length_cons, List.length_nil, reduceIte, Nat.reduceEqDiff]) | refine awpY_condT rfl (by first | rfl | assumption | exact beq_int _ | exact bne_int _) ?_ | refine awpY_condF rfl (by first | rfl | assumption | exact beq_int _ | exact bne_int _) ?_))
  rw [if_pos rfl]
  exact ⟨.inl rfl, .inl (by rw [hlx])⟩
end Go.Proofs.Ytkmlmboclegpcaa
namespace Go.Proofs.Ytkmlmboclegpcaa
open Go Go.RowKit
set_option maxRecDepth 100000
attribute [local irreducible] Decidable.decide awp ARun regK toK zW zP zF encP encF zBig28 zBig30 zBig95 agL tickW
theorem add_put {w : Wh} {l q : List Tmr} {t : Tmr} {k : Nat} (h : WR w l) (hq : ∀ t, t ∈ q → w.now < t.due ∧ t.due < w.now + 4294967296) (hl : l.length + q.length ≤ 900) (hx : q[k]? = some t) : FnC Try.prog 39 [.agg (encWh (putL w (q.take k))), .agg (encTm t)] (.tup [.agg (encWh (putL w (q.take (k + 1)))), .val (.int .i64 0)]) := by
 have hk : (q.take k).length ≤ q.length := by rw [List.length_take]; omega
 have h1 := h.puts (q := q.take k) (fun u hu => hq u (List.mem_of_mem_take hu)) (by omega)
 have h2 := hq t (List.mem_of_getElem? hx)
 rw [take_succ' hx, putL_snoc]
 have e : (putL w (q.take k)).now = w.now := putL_now _ _
 exact add_s h1 t (by rw [e]; exact h2.1) (by rw [e]; exact h2.2)
set_option maxHeartbeats 8000000 in
theorem ptick_c {N : Nat} (hs : SortOk N) {w : Wh} {l : List Tmr} (h : PR w l) (hl : l.length < N) (hn : w.now + 1 ≤ 4000000000000000000) (m r : Int) (hm : m = (l.length : Nat)) : FnC Try.prog 17 [.agg (encP (encWh w) m r)] (.tup [.agg (encP (encWh (nextW w l)) ((nextL w.now l).length : Nat) r), encTs (l.filter (dueB (w.now + 1)))]) := by
 have c1 := tick_s hs h.r hl
 have h1 := h.r.tick hn
 have hnow := tick_now h.r
 have hln := h.r.ln
 have hn0 := h.r.r.1
 have hpl := part_len l (dueB (w.now + 1))
 have hnl := nextL_len w.now l
 have hag := agL_len (l.filter (dueB (w.now + 1)))
 have hdu : ∀ t, t ∈ l.filter (dueB (w.now + 1)) → t.due = w.now + 1 := due_in
 have heo := h.e.filter (dueB (w.now + 1))
 have c2 := again_c (l.filter (dueB (w.now + 1)))
 have hit := again1_i (l.filter (dueB (w.now + 1))) (by omega) (fun t ht => by
  have a1 := hdu t ht
  have a2 := heo t ht
  omega)
 have hqd : ∀ t, t ∈ agL (l.filter (dueB (w.now + 1))) → (tickW w).now < t.due ∧ t.due < (tickW w).now + 4294967296 := fun t ht => by
  rw [hnow]
  exact agL_in heo hdu ht
 have ca : ∀ (k : Nat) (t : Tmr), (agL (l.filter (dueB (w.now + 1))))[k]? = some t → FnC Try.prog 39 [.agg (encWh (putL (tickW w) ((agL (l.filter (dueB (w.now + 1)))).take k))), .agg (encTm t)] (.tup [.agg (encWh (putL (tickW w) ((agL (l.filter (dueB (w.now + 1)))).take (k + 1)))), .val (.int .i64 0)]) := fun k t hx => add_put h1 hqd (by omega) hx
 have lu : ∀ k, (encWh (putL (tickW w) ((agL (l.filter (dueB (w.now + 1)))).take k))).length = 1025 := fun k => (h1.puts (q := (agL (l.filter (dueB (w.now + 1)))).take k) (fun u hu => hqd u (List.mem_of_mem_take hu)) (by rw [List.length_take]; omega)).len
 have lw := h.r.len
 have lt := h1.len
 have hcl := encWh_closed w
 have enx : nextW w l = putL (tickW w) (agL (l.filter (dueB (w.now + 1)))) := rfl
 rw [enx]
 generalize agL (l.filter (dueB (w.now + 1))) = q at *
 generalize l.filter (dueB (w.now + 1)) = O at *
 have lx := lu q.length
 rw [List.take_length] at lx
 have hcx := encWh_closed (putL (tickW w) q)
 have e0 : putL (tickW w) (q.take 0) = tickW w := by unfold putL; rfl
 generalize encWh w = W at *
 have em : (((O.map encTm).length : Nat) : Int) = O.length := by rw [List.length_map]
 have lz := zP_len
 have lzw := zW_len
 have l2 : (encP W m r).length = 1027 := encP_len lw
 have l4 : (encP (encWh (putL (tickW w) q)) ((nextL w.now l).length : Nat) r).length = 1027 := encP_len lx
 have g4 := p_wheel (m := m) (r := r) lw
 have g7 := p_many (m := m) (r := r) lw
 have g9 := p_set (m := m) (r := r) lw (m - ((O.map encTm).length : Nat))
 have hcp := encP_closed (m := m) (r := r) hcl
 have hcq := encP_closed (m := ((nextL w.now l).length : Nat)) (r := r) hcx
 refine goF Try.func17 (closedL_cons (.agg hcp) closedL_nil) (fun w0 st0 => ?_)
 dsimp only [frOf]
 (repeat' (first | refine storeW (t := 28) rfl rfl rfl rfl rfl (by assumption) (by assumption) rfl rfl ?_ | refine loadW (t := 28) rfl rfl rfl rfl rfl (by assumption) rfl rfl ?_ | refine storeW (t := 30) rfl rfl rfl rfl rfl (by assumption) (by assumption) rfl rfl ?_ | refine loadW (t := 30) rfl rfl rfl rfl rfl (by assumption) rfl rfl ?_ | refine boxW (t := 30) rfl l2 rfl rfl rfl ?_ | refine allocW (t := 28) rfl zall zW_eq zW_len rfl rfl rfl ?_ | refine allocW (t := 30) rfl zPall zP_eq zP_len rfl rfl rfl ?_ | refine goA ?_ | refine cX c1 ?_ | refine cX c2 ?_ | refine loadC rfl rfl rfl rfl rfl g7 rfl rfl ?_ | refine loadS (t := 28) rfl rfl rfl rfl rfl g4 rfl rfl ?_ | refine storeC rfl rfl rfl rfl rfl rfl g9 rfl ?_ | refine goB ?_ | fail))
 refine awp_rangeFunc (τ := Nat × Int × Nat) (fun t => [(1, some ⟨0, 1027, [encP W t.2.1 r]⟩), (4, some ⟨9, 1025, [encWh (putL (tickW w) (q.take t.1))]⟩), (2, some ⟨1, 1027, [zP]⟩)]) (fun t => t.2.2) (fun i t => t.1 = i ∧ t.2.1 = m - ((O.map encTm).length : Nat) + (i : Nat)) (0, m - ((O.map encTm).length : Nat), _) hit rfl (capG_closed O) (fun x hx => by obtain ⟨p, _, rfl⟩ := List.mem_map.1 hx; rfl) (fun x hx => by obtain ⟨p, _, rfl⟩ := List.mem_map.1 hx; exact closedL_cons (.agg (encTm_closed p)) closedL_nil) (by kernel_rfl) ⟨rfl, by dsimp only; omega⟩
  ⟨⟨rfl, rfl, rfl, trivial⟩, Nat.le_refl _⟩ (fun w0 st0 lent l c0 i x t hx hI => ?_) (fun t hI => ?_)
 ·obtain ⟨j, M, gc⟩ := t
  dsimp only at hI ⊢
  obtain ⟨rfl, hM⟩ := hI
  have hxp := hx
  unfold encYs at hxp
  rw [List.getElem?_map] at hxp
  obtain ⟨p, hp, rfl⟩ := Option.map_eq_some_iff.1 hxp
  have c3 := ca j p hp
  have lj := lu j
  have lk := lu (j + 1)
  have hjl := (List.getElem?_eq_some_iff.1 hp).1
  clear g7 g9 c1 c2 hit hx hxp ca lu
  have g7 := p_many (m := M) (r := r) lw
  have g9 := p_set (m := M) (r := r) lw (M + 1)
  generalize encWh (putL (tickW w) (q.take j)) = Wj at *
  dsimp only [setPs]
  (repeat' (first | refine goA ?_ | refine goB ?_ | fail))
  intro w0 st0 lent c0
  (repeat' (first | refine storeW (t := 28) rfl rfl rfl rfl rfl (by assumption) (by assumption) rfl rfl ?_ | refine loadW (t := 28) rfl rfl rfl rfl rfl (by assumption) rfl rfl ?_ | refine goA ?_ | refine cX c3 ?_ | refine loadC rfl rfl rfl rfl rfl g7 rfl rfl ?_ | refine storeC rfl rfl rfl rfl rfl rfl g9 rfl ?_ | refine goB ?_ | fail))
  exact ⟨(j + 1, M + 1, _), ⟨rfl, rfl, rfl, trivial⟩, Nat.le_refl _, rfl, by dsimp only; omega⟩
 ·have hlx : (encYs q).length = q.length := List.length_map _
  rw [hlx] at hI
  obtain ⟨j, M, gc⟩ := t
  dsimp only at hI ⊢
  obtain ⟨rfl, hM⟩ := hI
  rw [List.take_length]
  obtain rfl : M = ((nextL w.now l).length : Nat) := by omega
  have g8 := p_setw (m := ((nextL w.now l).length : Nat)) (r := r) lw lx
  generalize encWh (putL (tickW w) q) = X at *
  generalize ((nextL w.now l).length : Int) = M at *
  dsimp only [thenA, blockA]
  have l5 : (encP W M r).length = 1027 := encP_len lw
  (repeat' (first | refine storeW (t := 30) rfl rfl rfl rfl rfl (by assumption) (by assumption) rfl rfl ?_ | refine loadW (t := 30) rfl rfl rfl rfl rfl (by assumption) rfl rfl ?_ | refine loadW (t := 28) rfl rfl rfl rfl rfl (by assumption) rfl rfl ?_ | refine goA ?_ | refine storeS (t := 28) rfl rfl rfl rfl rfl lx rfl g8 rfl ?_ | refine goB ?_ | fail))
  exact awp_ret ⟨_, ResL.cons (ResA.agg rfl rfl rfl rfl rfl rfl (loadCs_all l4) (RL.allClosed (by assumption))) (ResL.cons (ResA.tmp (.closed _ (closed_ts O))) .nil), rfl⟩
end Go.Proofs.Ytkmlmboclegpcaa
