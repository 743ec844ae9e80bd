/- vG13, vG14, vG15, vG16, vG17. -/
import Derived.Test.YtgkjappmcgnabaaW1
import Derived.Test.YtgkjappmcgnabaaW2
import Derived.Test.YtgkjappmcgnabaaW3
import Derived.Test.YtgkjappmcgnabaaW4
import Derived.Test.YtgkjappmcgnabaavW5
import Derived.Test.YtgkjappmcgnabaavW6
import Derived.Test.YtgkjappmcgnabaavW7
import Derived.Test.YtgkjappmcgnabaavW8
import Derived.Test.YtgkjappmcgnabaavW9
import Derived.Test.YtgkjappmcgnabaavW10
import Derived.Test.YtgkjappmcgnabaavW11
/- vm: Few, May; machines that are read of arguments. -/
namespace Go.Proofs.Ytgkjappmcgnabaa
set_option linter.unusedVariables false
set_option linter.unusedSimpArgs false
open Go Go.RowKit
open Dict (St Bs bs_eq Wd encW encWs closed_ws)
open Mem (Mm encM encBs closed_bs encP encP_closed)
open Stk (encS closed_s)
set_option maxRecDepth 100000
structure FewV (v : V) : Prop where
  f1 : Mem.FewM v.m 8192
  f2 : Dict.FewW v.dict 300
  f3 : v.d.length ≤ 300
  f4 : v.r.length ≤ 300
  f5 : v.f.length ≤ 70
  f6 : v.out.length ≤ 5000
  f7 : v.pb.length ≤ 200
  f8 : v.req.length ≤ 20
  f9 : v.hand.length ≤ 70
attribute [local irreducible] Decidable.decide awp ARun regK toK
set_option maxHeartbeats 8000000 in
theorem few_c (v : V) : FnC Try.prog 8 [.agg (encV v)] (.val (.bool (pD (FewV v)))) := by
  have c1 := Mem.ref_few_c v.m 8192
  have c2 := Dict.few_c v.dict 300 (by omega)
  have ed : (((v.d.map encI).length : Nat) : Int) = v.d.length := by rw [List.length_map]
  have er : (((v.r.map encI).length : Nat) : Int) = v.r.length := by rw [List.length_map]
  have ef : (((v.f.map encFr).length : Nat) : Int) = v.f.length := by rw [List.length_map]
  have eo : (((v.out.map encB).length : Nat) : Int) = v.out.length := by rw [List.length_map]
  have ep : (((v.pb.map encB).length : Nat) : Int) = v.pb.length := by rw [List.length_map]
  have eq : (((v.req.map encRq).length : Nat) : Int) = v.req.length := by rw [List.length_map]
  have eh : (((v.hand.map encHn).length : Nat) : Int) = v.hand.length := by rw [List.length_map]
  by_cases h1 : Mem.FewM v.m 8192
  case neg =>
    rw [Mem.fewM_no h1] at c1
    rw [pD_no (fun h => h1 h.f1)]
    refine FnC.of_awp (T := tt) (ok := tok) Try.func8 (by kernel_rfl) rfl (by kernel_rfl) (closedL_cons (closedV v) closedL_nil) (fun w0 st0 => ?_)
    dsimp only [frOf]
    (repeat' (first | refine awp_seq ?_ | refine awp_block ?_ | refine awp_region (fun _ => hmix) ?_ | refine ARun.op rfl (by first | exact True.intro | exact rfl | (unfold inR; omega) | omega | ((try unfold inR); simp only [decide_eq_true_eq, decide_eq_false_iff_not, beq_iff_eq, beq_eq_false_iff_ne, ne_eq, Bool.not_eq_true', Bool.not_eq_false', List.length_map, List.length_append, List.length_take, List.length_drop, List.length_replicate, List.length_cons, List.length_nil] at *; omega)) ?_ | refine callX (c1) rfl rfl rfl rfl ?_ | refine callX (c2) rfl rfl rfl rfl ?_ | ((first | refine ARun.fin (by first | (intro h; cases h; done) | (intro _; kernel_rfl)) ?_ | refine awp_skip ?_ | refine awp_exit ?_); dsimp only [thenA, blockA, AS.bump, List.length_cons, List.length_nil, reduceIte, Nat.reduceEqDiff]) | refine awp_condT rfl (by first | rfl | assumption | exact beq_int _ | exact bne_int _) ?_ | refine awp_condF rfl (by first | rfl | assumption | exact beq_int _ | exact bne_int _) ?_ | ((fail_if_success refine ARun.plain rfl ?_); first | refine ARun.knowT rfl rfl rfl (by first | rfl | assumption | exact beq_int _ | exact bne_int _) ?_ | refine ARun.knowF rfl rfl rfl (by first | rfl | assumption | exact beq_int _ | exact bne_int _) ?_)))
    exact awp_ret ⟨_, ResL.cons (ResA.tmp (.val _)) .nil, rfl⟩
  rw [Mem.fewM_yes h1] at c1
  by_cases h2 : Dict.FewW v.dict 300
  case neg =>
    rw [Dict.fewW_no h2] at c2
    rw [pD_no (fun h => h2 h.f2)]
    refine FnC.of_awp (T := tt) (ok := tok) Try.func8 (by kernel_rfl) rfl (by kernel_rfl) (closedL_cons (closedV v) closedL_nil) (fun w0 st0 => ?_)
    dsimp only [frOf]
    (repeat' (first | refine awp_seq ?_ | refine awp_block ?_ | refine awp_region (fun _ => hmix) ?_ | refine ARun.op rfl (by first | exact True.intro | exact rfl | (unfold inR; omega) | omega | ((try unfold inR); simp only [decide_eq_true_eq, decide_eq_false_iff_not, beq_iff_eq, beq_eq_false_iff_ne, ne_eq, Bool.not_eq_true', Bool.not_eq_false', List.length_map, List.length_append, List.length_take, List.length_drop, List.length_replicate, List.length_cons, List.length_nil] at *; omega)) ?_ | refine callX (c1) rfl rfl rfl rfl ?_ | refine callX (c2) rfl rfl rfl rfl ?_ | ((first | refine ARun.fin (by first | (intro h; cases h; done) | (intro _; kernel_rfl)) ?_ | refine awp_skip ?_ | refine awp_exit ?_); dsimp only [thenA, blockA, AS.bump, List.length_cons, List.length_nil, reduceIte, Nat.reduceEqDiff]) | refine awp_condT rfl (by first | rfl | assumption | exact beq_int _ | exact bne_int _) ?_ | refine awp_condF rfl (by first | rfl | assumption | exact beq_int _ | exact bne_int _) ?_ | ((fail_if_success refine ARun.plain rfl ?_); first | refine ARun.knowT rfl rfl rfl (by first | rfl | assumption | exact beq_int _ | exact bne_int _) ?_ | refine ARun.knowF rfl rfl rfl (by first | rfl | assumption | exact beq_int _ | exact bne_int _) ?_)))
    exact awp_ret ⟨_, ResL.cons (ResA.tmp (.val _)) .nil, rfl⟩
  rw [Dict.fewW_yes h2] at c2
  have fin : v.d.length ≤ 300 → v.r.length ≤ 300 → v.f.length ≤ 70 → v.out.length ≤ 5000 → v.pb.length ≤ 200 → v.req.length ≤ 20 → v.hand.length ≤ 70 → FewV v := fun a b c d e f g => ⟨h1, h2, a, b, c, d, e, f, g⟩
  refine FnC.of_awp (T := tt) (ok := tok) Try.func8 (by kernel_rfl) rfl (by kernel_rfl) (closedL_cons (closedV v) closedL_nil) (fun w0 st0 => ?_)
  dsimp only [frOf]
  (repeat' (first | refine awp_seq ?_ | refine awp_block ?_ | refine awp_region (fun _ => hmix) ?_ | refine ARun.op rfl (by first | exact True.intro | exact rfl | (unfold inR; omega) | omega | ((try unfold inR); simp only [decide_eq_true_eq, decide_eq_false_iff_not, beq_iff_eq, beq_eq_false_iff_ne, ne_eq, Bool.not_eq_true', Bool.not_eq_false', List.length_map, List.length_append, List.length_take, List.length_drop, List.length_replicate, List.length_cons, List.length_nil] at *; omega)) ?_ | refine callX (c1) rfl rfl rfl rfl ?_ | refine callX (c2) rfl rfl rfl rfl ?_ | ((first | refine ARun.fin (by first | (intro h; cases h; done) | (intro _; kernel_rfl)) ?_ | refine awp_skip ?_ | refine awp_exit ?_); dsimp only [thenA, blockA, AS.bump, List.length_cons, List.length_nil, reduceIte, Nat.reduceEqDiff]) | refine awp_condT rfl (by first | rfl | assumption | exact beq_int _ | exact bne_int _) ?_ | refine awp_condF rfl (by first | rfl | assumption | exact beq_int _ | exact bne_int _) ?_ | ((fail_if_success refine ARun.plain rfl ?_); first | refine ARun.knowT rfl rfl rfl (by first | rfl | assumption | exact beq_int _ | exact bne_int _) ?_ | refine ARun.knowF rfl rfl rfl (by first | rfl | assumption | exact beq_int _ | exact bne_int _) ?_ | refine ARun.fork rfl rfl rfl (fun h => ?_) (fun h => ?_)) | refine awp_cond rfl (fun h => ?_) (fun h => ?_)))
  all_goals
    refine awp_ret ⟨_, ResL.cons (ResA.tmp (.val _)) .nil, congrArg (fun b => AV.val (.bool b)) ?_⟩
    clear c1 c2
    simp only [decide_eq_true_eq, decide_eq_false_iff_not] at *
    first
      | exact pD_no (fun h => by
          obtain ⟨_, _, s3, s4, s5, s6, s7, s8, s9⟩ := h
          omega)
      | (by_cases h9 : v.hand.length ≤ 70
         · rw [pD_yes (fin (by omega) (by omega) (by omega) (by omega) (by omega) (by omega) h9), decide_eq_true (by omega)]
         · rw [pD_no (fun h => h9 h.f9), decide_eq_false (by omega)])
/-- Flags of words that a machine can hold. -/
def FlIn (l : List Wd) : Prop := ∀ w, w ∈ l → -9223372036854775808 ≤ w.fl ∧ w.fl ≤ 9223372036854775807
theorem FewV.held {v : V} (h : FewV v) (hi : FlIn v.dict) : Held v := by
  obtain ⟨⟨m1, m2, _⟩, ⟨w1, w2⟩, s3, s4, s5, s6, s7, s8, s9⟩ := h
  exact ⟨by omega, by omega, by omega, by omega, by omega, by omega, fun w hw => ⟨by have := w2 w hw; omega, hi w hw⟩, by omega, by omega, by omega, by omega⟩
theorem may_c (v : V) (hi : FlIn v.dict) : FnC Try.prog 26 [.agg (encV v)] (.val (.bool (pD (FewV v ∧ RightV v)))) := by
  have c1 := few_c v
  by_cases h1 : FewV v
  · rw [pD_yes h1] at c1
    have c2 := ref_right_c v (h1.held hi)
    rw [show pD (FewV v ∧ RightV v) = pD (RightV v) from pD_congr ⟨fun h => h.2, fun h => ⟨h1, h⟩⟩]
    refine FnC.of_awp (T := tt) (ok := tok) Try.func26 (by kernel_rfl) rfl (by kernel_rfl) (closedL_cons (closedV v) closedL_nil) (fun w0 st0 => ?_)
    dsimp only [frOf]
    (repeat' (first | refine awp_seq ?_ | refine awp_block ?_ | refine awp_region (fun _ => hmix) ?_ | refine ARun.op rfl (by first | exact True.intro | exact rfl | (unfold inR; omega) | omega | ((try unfold inR); simp only [decide_eq_true_eq, decide_eq_false_iff_not, beq_iff_eq, beq_eq_false_iff_ne, ne_eq, Bool.not_eq_true', Bool.not_eq_false', List.length_map, List.length_append, List.length_take, List.length_drop, List.length_replicate, List.length_cons, List.length_nil] at *; omega)) ?_ | refine callX (c1) rfl rfl rfl rfl ?_ | refine callX (c2) rfl rfl rfl rfl ?_ | ((first | refine ARun.fin (by first | (intro h; cases h; done) | (intro _; kernel_rfl)) ?_ | refine awp_skip ?_ | refine awp_exit ?_); dsimp only [thenA, blockA, AS.bump, List.length_cons, List.length_nil, reduceIte, Nat.reduceEqDiff]) | refine awp_condT rfl (by first | rfl | assumption | exact beq_int _ | exact bne_int _) ?_ | refine awp_condF rfl (by first | rfl | assumption | exact beq_int _ | exact bne_int _) ?_ | ((fail_if_success refine ARun.plain rfl ?_); first | refine ARun.knowT rfl rfl rfl (by first | rfl | assumption | exact beq_int _ | exact bne_int _) ?_ | refine ARun.knowF rfl rfl rfl (by first | rfl | assumption | exact beq_int _ | exact bne_int _) ?_)))
    exact awp_ret ⟨_, ResL.cons (ResA.tmp (.val _)) .nil, rfl⟩
  · rw [pD_no h1] at c1
    rw [pD_no (fun h => h1 h.1)]
    refine FnC.of_awp (T := tt) (ok := tok) Try.func26 (by kernel_rfl) rfl (by kernel_rfl) (closedL_cons (closedV v) closedL_nil) (fun w0 st0 => ?_)
    dsimp only [frOf]
    (repeat' (first | refine awp_seq ?_ | refine awp_block ?_ | refine awp_region (fun _ => hmix) ?_ | refine ARun.op rfl (by first | exact True.intro | exact rfl | (unfold inR; omega) | omega | ((try unfold inR); simp only [decide_eq_true_eq, decide_eq_false_iff_not, beq_iff_eq, beq_eq_false_iff_ne, ne_eq, Bool.not_eq_true', Bool.not_eq_false', List.length_map, List.length_append, List.length_take, List.length_drop, List.length_replicate, List.length_cons, List.length_nil] at *; omega)) ?_ | refine callX (c1) rfl rfl rfl rfl ?_ | ((first | refine ARun.fin (by first | (intro h; cases h; done) | (intro _; kernel_rfl)) ?_ | refine awp_skip ?_ | refine awp_exit ?_); dsimp only [thenA, blockA, AS.bump, List.length_cons, List.length_nil, reduceIte, Nat.reduceEqDiff]) | refine awp_condT rfl (by first | rfl | assumption | exact beq_int _ | exact bne_int _) ?_ | refine awp_condF rfl (by first | rfl | assumption | exact beq_int _ | exact bne_int _) ?_ | ((fail_if_success refine ARun.plain rfl ?_); first | refine ARun.knowT rfl rfl rfl (by first | rfl | assumption | exact beq_int _ | exact bne_int _) ?_ | refine ARun.knowF rfl rfl rfl (by first | rfl | assumption | exact beq_int _ | exact bne_int _) ?_)))
    exact awp_ret ⟨_, ResL.cons (ResA.tmp (.val _)) .nil, rfl⟩
end Go.Proofs.Ytgkjappmcgnabaa
/- vm: memories, told by their cells; what New lays. -/
namespace Go.Proofs.Ytgkjappmcgnabaa
set_option linter.unusedVariables false
set_option linter.unusedSimpArgs false
open Go Go.RowKit
open Dict (St Bs bs_eq Wd encW encWs closed_ws addD)
open Mem (Mm encM encBs closed_bs encP encP_closed storeD fetchD writeD thereD cellAtD putB putB_len partD newD freeD get_put)
open Stk (encS closed_s)
set_option maxRecDepth 100000
def cellsC (f : Nat → Int) : Nat → List UInt8
  | 0 => []
  | n + 1 => cellsC f n ++ putB (f n)
def updC (f : Nat → Int) (k : Nat) (v : Int) : Nat → Int := fun j => if j = k then v else f j
theorem cellsC_len (f : Nat → Int) : ∀ n, (cellsC f n).length = 8 * n
  | 0 => rfl
  | n + 1 => by
    rw [cellsC, List.length_append, cellsC_len f n, putB_len]
    omega
theorem cellsC_congr {f g : Nat → Int} : ∀ {n : Nat}, (∀ j, j < n → f j = g j) → cellsC f n = cellsC g n
  | 0, _ => rfl
  | n + 1, h => by
    rw [cellsC, cellsC, cellsC_congr (fun j hj => h j (by omega)), h n (by omega)]
theorem overL_left {α : Type} {l r b : List α} {a : Nat} (h : a + b.length ≤ l.length) : overL (l ++ r) a b = overL l a b ++ r := by
  unfold overL
  rw [List.take_append_of_le_length (by omega), List.drop_append_of_le_length h]
  simp
theorem overL_end {α : Type} {l b c : List α} (h : c.length = b.length) : overL (l ++ c) l.length b = l ++ b := by
  unfold overL
  rw [List.take_left', List.drop_append, ← h]
  · simp
  · rfl
theorem cellsC_over {f : Nat → Int} {k : Nat} (v : Int) : ∀ {n : Nat}, k < n → overL (cellsC f n) (8 * k) (putB v) = cellsC (updC f k v) n
  | 0, h => by omega
  | n + 1, h => by
    rw [cellsC, cellsC]
    by_cases hk : k = n
    · subst hk
      have e := overL_end (l := cellsC f k) (b := putB v) (c := putB (f k)) (by rw [putB_len, putB_len])
      rw [cellsC_len] at e
      rw [e, cellsC_congr (f := updC f k v) (g := f) (fun j hj => if_neg (by omega)), show updC f k v k = v from if_pos rfl]
    · rw [overL_left (by rw [cellsC_len, putB_len]; omega), cellsC_over v (by omega), show updC f k v n = f n from if_neg (by omega)]
theorem cellsC_part {f : Nat → Int} {k : Nat} : ∀ {n : Nat}, k < n → ((cellsC f n).drop (8 * k)).take 8 = putB (f k)
  | 0, h => by omega
  | n + 1, h => by
    rw [cellsC]
    by_cases hk : k = n
    · subst hk
      rw [List.drop_left' (by rw [cellsC_len]), List.take_of_length_le (by rw [putB_len]; omega)]
    · rw [List.drop_append_of_le_length (by rw [cellsC_len]; omega), List.take_append_of_le_length (by rw [List.length_drop, cellsC_len]; omega)]
      exact cellsC_part (by omega)
theorem cellsC_zero : ∀ n, cellsC (fun _ => 0) n = List.replicate (8 * n) 0
  | 0 => rfl
  | n + 1 => by
    rw [cellsC, cellsC_zero n, show putB 0 = List.replicate 8 0 from rfl, List.replicate_append_replicate]
    rfl
theorem cell_flat {m : Mm} {f : Nat → Int} {n k : Nat} (hm : m.b = cellsC f n) (hk : k < n) : cellAtD m ((8 * k : Nat) : Int) = 0 := by
  unfold cellAtD
  have h1 : thereD m.b.length ((8 * k : Nat) : Int) 8 = true := by
    unfold thereD
    rw [decide_eq_true_eq, hm, cellsC_len]
    omega
  rw [if_neg (by rw [h1]; simp), if_neg]
  rw [Int.tmod_eq_emod_of_nonneg (by omega)]
  omega
theorem store_flat {m : Mm} {f : Nat → Int} {n k : Nat} (v : Int) (hm : m.b = cellsC f n) (hk : k < n) : (storeD m ((8 * k : Nat) : Int) v).1.b = cellsC (updC f k v) n ∧ (storeD m ((8 * k : Nat) : Int) v).2 = 0 := by
  unfold storeD
  rw [if_neg (fun e => e (cell_flat hm hk))]
  have h1 : thereD m.b.length ((8 * k : Nat) : Int) (putB v).length = true := by
    unfold thereD
    rw [decide_eq_true_eq, hm, cellsC_len, putB_len]
    omega
  rw [Mem.writeD_yes h1 (fun e => by have := congrArg List.length e; rw [putB_len] at this; cases this)]
  refine ⟨?_, rfl⟩
  dsimp only
  rw [Int.toNat_natCast, hm]
  exact cellsC_over v hk
theorem fetch_flat {m : Mm} {f : Nat → Int} {n k : Nat} (hm : m.b = cellsC f n) (hk : k < n) (hf : -9223372036854775808 ≤ f k ∧ f k ≤ 9223372036854775807) : fetchD m ((8 * k : Nat) : Int) = (f k, 0) := by
  unfold fetchD
  rw [if_neg (fun e => e (cell_flat hm hk))]
  have h1 : partD m.b ((8 * k : Nat) : Int) 8 = putB (f k) := by
    unfold partD
    rw [Int.toNat_natCast, hm]
    exact cellsC_part hk
  rw [h1, get_put _ hf]
end Go.Proofs.Ytgkjappmcgnabaa
/- vm: what New lays, told at once: cells, and words. -/
namespace Go.Proofs.Ytgkjappmcgnabaa
set_option linter.unusedVariables false
set_option linter.unusedSimpArgs false
open Go Go.RowKit
open Dict (St Bs bs_eq Wd encW encWs closed_ws addD namedD)
open Mem (Mm storeD fetchD newD freeD)
set_option maxRecDepth 100000
theorem nms_halt : ((List.range 130).all fun i => match nmsV[i]? with | some nm => (decide (nm = nHalt) == decide (i = 8)) && (decide (nm = nCaught) == decide (i = 9)) && decide (namedD nm = 0) | none => false) = true := by kernel_rfl
theorem spc_named : (spcV.all fun nm => decide (namedD nm = 0)) = true := by kernel_rfl
theorem nms_at {i : Nat} {nm : Bs} (h : nmsV[i]? = some nm) : (nm = nHalt ↔ i = 8) ∧ (nm = nCaught ↔ i = 9) ∧ namedD nm = 0 := by
  have hi : i < 130 := (List.getElem?_eq_some_iff.1 h).1
  have := List.all_eq_true.1 nms_halt i (List.mem_range.2 hi)
  rw [h] at this
  simp only [Bool.and_eq_true, beq_iff_eq, decide_eq_true_eq] at this
  exact ⟨by simpa using this.1.1, by simpa using this.1.2, this.2⟩
theorem spc_at {i : Nat} {nm : Bs} (h : spcV[i]? = some nm) : namedD nm = 0 := of_decide_eq_true (List.all_eq_true.1 spc_named nm (List.mem_of_getElem? h))
def valN (i : Nat) : Nat → Int := fun k => if k = 2 then (if 9 ≤ i then 96 else 0) else if k = 3 then (if 10 ≤ i then 104 else 0) else if 4 ≤ k ∧ k < 4 + i then (k : Int) - 4 else 0
def valS (j : Nat) : Nat → Int := fun k => if 134 ≤ k ∧ k < 134 + j then (k : Int) + 166 else valN 130 k
def wN (p : Bs × Nat) : Wd := ⟨p.1, 32 + 8 * (p.2 : Nat), flagsD p.1 (p.2 : Nat)⟩
def wS (p : Bs × Nat) : Wd := ⟨p.1, 1072 + 8 * (p.2 : Nat), flagsD p.1 (12 + (p.2 : Nat))⟩
def dictN (i : Nat) : List Wd := (nmsV.take i).zipIdx.map wN
def dictS (j : Nat) : List Wd := dictN 130 ++ (spcV.take j).zipIdx.map wS
theorem zip_step {l : List Bs} {i : Nat} {a : Bs} (h : l[i]? = some a) (f : Bs × Nat → Wd) : (l.take (i + 1)).zipIdx.map f = (l.take i).zipIdx.map f ++ [f (a, i)] := by
  have hi := (List.getElem?_eq_some_iff.1 h).1
  rw [take_succ' h, List.zipIdx_append, List.map_append]
  simp [Nat.min_eq_left (Nat.le_of_lt hi)]
theorem add_ok {l : List Wd} {nm : Bs} {xt fl words : Int} (h1 : namedD nm = 0) (h2 : 0 ≤ fl ∧ fl ≤ 7) (h3 : (l.length : Int) < words) (h4 : l.length < 1024) : addD l nm xt fl words = (l ++ [⟨nm, xt, fl⟩], 0) := by
  unfold addD
  rw [if_neg (by simp [h1]), if_neg (by simp [h2]), if_neg (by omega)]
theorem newN_all {c : Cf} (hF : FitsP c) : ∀ i : Nat, i ≤ 130 → (newN c i).1.b = cellsC (valN i) (c.mem.toNat / 8) ∧ (newN c i).2 = dictN i
  | 0, _ => by
    have h8 : c.mem % 8 = 0 := by have := hF.2.1; rw [Int.tmod_eq_emod_of_nonneg (by have := hF.1.1; omega)] at this; exact this
    refine ⟨?_, rfl⟩
    show (newD c.mem).1.b = _
    unfold newD
    rw [if_neg (by have := hF.1; have := hF.2.1; omega)]
    rw [cellsC_congr (g := fun _ => 0) (fun j _ => by unfold valN; split <;> simp <;> omega), cellsC_zero]
    have h9 := hF.1
    have e : c.mem.toNat = 8 * (c.mem.toNat / 8) := by omega
    show List.replicate c.mem.toNat (0 : UInt8) = _
    rw [← e]
  | i + 1, hi => by
    obtain ⟨h1, h2⟩ := newN_all hF i (by omega)
    obtain ⟨k1, k2, k3⟩ := newN_len c i
    have hn : i < nmsV.length := by show i < 130; omega
    have hp : nmsV[i]? = some nmsV[i] := List.getElem?_eq_getElem hn
    generalize nmsV[i] = nm at hp
    obtain ⟨g1, g2, g3⟩ := nms_at hp
    have hmem : 256 ≤ c.mem.toNat / 8 := by have := hF.1; omega
    have e1 : (32 : Int) + 8 * ((i : Nat) : Int) = ((8 * (4 + i) : Nat) : Int) := by omega
    unfold newN
    rw [hp]
    dsimp only
    refine ⟨?_, ?_⟩
    · unfold stepV
      dsimp only
      rw [e1]
      have s1 := (store_flat (m := (newN c i).1) (k := 4 + i) ((i : Nat) : Int) h1 (by omega)).1
      generalize (storeD (newN c i).1 ((8 * (4 + i) : Nat) : Int) ((i : Nat) : Int)).1 = m1 at s1
      unfold haltD
      by_cases q1 : nm = nHalt
      · rw [if_pos q1]
        obtain rfl := g1.1 q1
        rw [show (16 : Int) = ((8 * 2 : Nat) : Int) from rfl, (store_flat _ s1 (by omega)).1]
        refine cellsC_congr (fun j hj => ?_)
        unfold updC valN
        repeat' split
        all_goals first | omega | rfl
      · rw [if_neg q1]
        by_cases q2 : nm = nCaught
        · rw [if_pos q2]
          obtain rfl := g2.1 q2
          rw [show (24 : Int) = ((8 * 3 : Nat) : Int) from rfl, (store_flat _ s1 (by omega)).1]
          refine cellsC_congr (fun j hj => ?_)
          unfold updC valN
          repeat' split
          all_goals first | omega | rfl
        · rw [if_neg q2, s1]
          have n8 : i ≠ 8 := fun e => q1 (g1.2 e)
          have n9 : i ≠ 9 := fun e => q2 (g2.2 e)
          refine cellsC_congr (fun j hj => ?_)
          unfold updC valN
          repeat' split
          all_goals first | omega | rfl
    · unfold stepV
      dsimp only
      have hw := hF.2.2.2.2.1.1
      rw [add_ok g3 (flagsD_range _ _) (by omega) (by omega), h2]
      exact (zip_step hp wN).symm
theorem newS_all {c : Cf} (hF : FitsP c) : ∀ j : Nat, j ≤ 37 → (newS c j).1.b = cellsC (valS j) (c.mem.toNat / 8) ∧ (newS c j).2 = dictS j
  | 0, _ => by
    obtain ⟨h1, h2⟩ := newN_all hF 130 (Nat.le_refl _)
    refine ⟨h1.trans (cellsC_congr (fun k _ => by unfold valS; rw [if_neg (by omega)])), ?_⟩
    show (newN c 130).2 = _
    rw [h2]
    unfold dictS
    simp
  | j + 1, hj => by
    obtain ⟨h1, h2⟩ := newS_all hF j (by omega)
    obtain ⟨k1, k2, k3⟩ := newS_len c j
    have hn : j < spcV.length := by show j < 37; omega
    have hp : spcV[j]? = some spcV[j] := List.getElem?_eq_getElem hn
    generalize spcV[j] = nm at hp
    have hmem : 256 ≤ c.mem.toNat / 8 := by have := hF.1; omega
    have e1 : (1072 : Int) + 8 * ((j : Nat) : Int) = ((8 * (134 + j) : Nat) : Int) := by omega
    unfold newS
    rw [hp]
    dsimp only
    unfold stepV
    refine ⟨?_, ?_⟩
    · dsimp only
      rw [e1, (store_flat (m := (newS c j).1) (k := 134 + j) (300 + ((j : Nat) : Int)) h1 (by omega)).1]
      refine cellsC_congr (fun k _ => ?_)
      unfold updC valS
      repeat' split
      all_goals first | omega | rfl
    · dsimp only
      have hw := hF.2.2.2.2.1.1
      rw [add_ok (spc_at hp) (flagsD_range _ _) (by omega) (by omega), h2]
      unfold dictS
      rw [zip_step hp wS, List.append_assoc]
      rfl
end Go.Proofs.Ytgkjappmcgnabaa
/- vm: the new machine; the document's example. -/
namespace Go.Proofs.Ytgkjappmcgnabaa
set_option linter.unusedVariables false
set_option linter.unusedSimpArgs false
open Go Go.RowKit
open Dict (St Bs bs_eq Wd encW encWs closed_ws addD namedD findD encFd)
open Mem (Mm encM encBs storeD fetchD newD freeD)
open Stk (encS)
set_option maxRecDepth 100000
attribute [local irreducible] newS newN dictS dictN cellsC Mem.storeD
/-- The new machine of a configuration that may be. -/
def vNew (c : Cf) : V := ⟨c, ⟨cellsC (updC (valS 37) 0 10) (c.mem.toNat / 8), []⟩, 1368, [], [], [], dictS 37, 0, [], [], false, [], 0, 0, 0, 0, 0, []⟩
theorem newV_new {c : Cf} (hF : FitsP c) : newV c = (vNew c, 0) := by
  rw [newV_yes hF]
  obtain ⟨h1, h2⟩ := newS_all hF 37 (Nat.le_refl _)
  have hmem : 256 ≤ c.mem.toNat / 8 := by have := hF.1; omega
  have h3 := (store_flat (m := (newS c 37).1) (k := 0) 10 h1 (by omega)).1
  rw [show (((8 * 0 : Nat)) : Int) = 0 from rfl] at h3
  unfold vNew
  rw [h2]
  have e : freeD (storeD (newS c 37).1 0 10).1 = ⟨cellsC (updC (valS 37) 0 10) (c.mem.toNat / 8), []⟩ := by
    unfold freeD
    rw [← h3]
  rw [e]
theorem dict_ok : ((dictS 37).all fun w => decide (namedD w.name = 0) && decide (0 ≤ w.fl) && decide (w.fl ≤ 7) && decide (w.name.length ≤ 60)) = true := by kernel_rfl
theorem dict_len : (dictS 37).length = 167 := by kernel_rfl
theorem dict_at {w : Wd} (h : w ∈ dictS 37) : Dict.OkW w ∧ w.name.length ≤ 60 := by
  have := List.all_eq_true.1 dict_ok w h
  simp only [Bool.and_eq_true, decide_eq_true_eq] at this
  exact ⟨⟨this.1.1.1, this.1.1.2, this.1.2⟩, this.2⟩
theorem vNew_right {c : Cf} (hF : FitsP c) : RightV (vNew c) := by
  have hm := hF.1
  have h8 : c.mem % 8 = 0 := by have := hF.2.1; rw [Int.tmod_eq_emod_of_nonneg (by omega)] at this; exact this
  have hb : (vNew c).m.b.length = c.mem.toNat := by
    show (cellsC _ _).length = _
    rw [cellsC_len]
    omega
  have hdl := dict_len
  refine ⟨⟨hF, ⟨fun p hp => (by cases hp), ?_, ?_⟩, ?_, ?_, ?_⟩, ⟨?_, ?_, fun x hx => (by cases hx), by simp [vNew]⟩, ⟨⟨fun w hw => (dict_at hw).1, ?_⟩, ?_, ?_, ?_⟩, ?_, ?_, ?_, fun x hx => (by cases hx), by simp [vNew]⟩
  · rw [hb]; omega
  · rw [hb]; omega
  · rw [hb]; show ((c.mem.toNat : Nat) : Int) = c.mem; omega
  · show (1368 : Int) ≤ 1368; omega
  · show (1368 : Int) ≤ c.mem; omega
  · show ((0 : Nat) : Int) ≤ c.data; have := hF.2.2.1.1; omega
  · show ((0 : Nat) : Int) ≤ c.ret; have := hF.2.2.2.1.1; omega
  · show (dictS 37).length ≤ 1024; omega
  · show ((dictS 37).length : Int) ≤ c.words; have := hF.2.2.2.2.1.1; omega
  · show ((0 : Nat) : Int) ≤ c.out; have := hF.2.2.2.2.2.1; omega
  · exact ⟨by simp [vNew], .inr rfl⟩
  · simp [vNew]
  · exact ⟨by show (0 : Int) ≤ 0; omega, by show (0 : Int) ≤ 64; omega⟩
  · exact ⟨by show (0 : Int) ≤ 0; omega, by show (0 : Int) ≤ 4611686018427387904; omega⟩
theorem vNew_held {c : Cf} (hF : FitsP c) : Held (vNew c) := by
  have hm := hF.1
  have hb : (vNew c).m.b.length ≤ 65536 := by
    show (cellsC _ _).length ≤ _
    rw [cellsC_len]
    omega
  have hdl := dict_len
  exact ⟨by omega, by simp [vNew], by simp [vNew], by simp [vNew], by simp [vNew], by show (dictS 37).length ≤ _; omega, fun w hw => ⟨by have := (dict_at hw).2; omega, by have := (dict_at hw).1.2; omega⟩, by simp [vNew], by simp [vNew], by simp [vNew], by simp [vNew]⟩
theorem vNew_fetch {c : Cf} (hF : FitsP c) {k : Nat} (hk : k < 171) : fetchD (vNew c).m ((8 * k : Nat) : Int) = (updC (valS 37) 0 10 k, 0) := by
  have hm := hF.1
  refine fetch_flat (n := c.mem.toNat / 8) rfl (by omega) ?_
  unfold updC valS valN
  repeat' split
  all_goals omega
end Go.Proofs.Ytgkjappmcgnabaa
/- vm: the document's example. -/
namespace Go.Proofs.Ytgkjappmcgnabaa
set_option linter.unusedVariables false
set_option linter.unusedSimpArgs false
open Go Go.RowKit
open Dict (St Bs bs_eq Wd encW encWs closed_ws addD namedD findD encFd)
open Mem (Mm encM encBs closed_bs encP_closed storeD fetchD newD freeD)
open Stk (encS closed_s popD pushD pushD_ok)
set_option maxRecDepth 100000
def conf0 : Cf := ⟨2048, 32, 32, 200, 500⟩
theorem fits0 : FitsP conf0 := ⟨⟨by decide, by decide⟩, by decide, ⟨by decide, by decide⟩, ⟨by decide, by decide⟩, ⟨by decide, by decide⟩, by decide, by decide⟩
def nDup : Bs := [100, 117, 112]
theorem find0 : (findD (dictS 37) nDup).2.2 = true ∧ (findD (dictS 37) nDup).1.xt = 216 := ⟨by kernel_rfl, by kernel_rfl⟩
theorem facts0 : ∃ v : V, newV conf0 = (v, 0) ∧ kindD v 216 = (23, 0) ∧ ((findD v.dict nDup).2.2 = true ∧ (findD v.dict nDup).1.xt = 216) ∧ fetchD v.m 0 = (10, 0) ∧ RightV v ∧ Held v ∧ v.cf = conf0 ∧ v.d = [] ∧ v.r = [] ∧ v.out = [] ∧ Dict.NameIn v.dict := by
  have f23 := vNew_fetch fits0 (k := 27) (by omega)
  have f0 := vNew_fetch fits0 (k := 0) (by omega)
  refine ⟨vNew conf0, newV_new fits0, ?_, find0, f0, vNew_right fits0, vNew_held fits0, rfl, rfl, rfl, rfl, fun w hw => ⟨by have := (dict_at hw).2; omega, (dict_at hw).1.2⟩⟩
  have e : fetchD (vNew conf0).m 216 = (23, 0) := f23
  unfold kindD
  rw [e, if_neg (by decide), if_pos (by decide)]
theorem not_right_zero : ¬ RightV vZero := fun h => by
  have := h.1.1.1.1
  exact absurd this (by decide)
theorem held_zero : Held vZero := ⟨by simp [vZero], by simp [vZero], by simp [vZero], by simp [vZero], by simp [vZero], by simp [vZero], fun w hw => (by cases hw), by simp [vZero], by simp [vZero], by simp [vZero], by simp [vZero]⟩
attribute [local irreducible] Decidable.decide awp ARun regK toK
theorem conf_c : FnC Try.prog 38 [] (.agg (encC conf0)) := by
  refine FnC.of_awp (T := tt) (ok := tok) Try.func38 (by kernel_rfl) rfl (by kernel_rfl) closedL_nil (fun w0 st0 => ?_)
  dsimp only [frOf]
  (repeat' (first | refine awp_seq ?_ | refine awp_block ?_ | refine awp_region (fun _ => hmix) ?_ | refine ARun.op rfl (by first | exact True.intro | exact rfl | (unfold inR; omega) | omega | ((try unfold inR); simp only [decide_eq_true_eq, decide_eq_false_iff_not, beq_iff_eq, beq_eq_false_iff_ne, ne_eq, Bool.not_eq_true', Bool.not_eq_false', List.length_map, List.length_append, List.length_take, List.length_drop, List.length_replicate, List.length_cons, List.length_nil] at *; omega)) ?_ | ((first | refine ARun.fin (by first | (intro h; cases h; done) | (intro _; kernel_rfl)) ?_ | refine awp_skip ?_ | refine awp_exit ?_); dsimp only [thenA, blockA, AS.bump, List.length_cons, List.length_nil, reduceIte, Nat.reduceEqDiff]) | refine awp_condT rfl (by first | rfl | assumption | exact beq_int _ | exact bne_int _) ?_ | refine awp_condF rfl (by first | rfl | assumption | exact beq_int _ | exact bne_int _) ?_ | ((fail_if_success refine ARun.plain rfl ?_); first | refine ARun.knowT rfl rfl rfl (by first | rfl | assumption | exact beq_int _ | exact bne_int _) ?_ | refine ARun.knowF rfl rfl rfl (by first | rfl | assumption | exact beq_int _ | exact bne_int _) ?_)))
  first
    | exact awp_ret ⟨_, ResL.cons (ResA.tmp (.closed (.agg (encC conf0)) (.agg (encC_closed conf0)))) .nil, rfl⟩
    | exact awp_ret ⟨_, ResL.cons (ResA.agg rfl rfl rfl rfl rfl rfl rfl (RL.allClosed (encC_closed conf0))) .nil, rfl⟩
set_option maxHeartbeats 16000000 in
theorem shown_c : FnC Try.prog 7 [] (.val (.bool true)) := by
  obtain ⟨v, h1, h2, ⟨h3, h3'⟩, h4, h5, h6, h7, h8, h9, h10, h11⟩ := facts0
  have c0 := conf_c
  have c1 := new_c conf0
  rw [h1] at c1
  have c2 := kind_c v 216 h6.mb
  rw [h2] at c2
  have c3 := Dict.ref_find_c v.dict nDup h6.wl (by show 3 ≤ 1000000; omega) h11
  generalize findD v.dict nDup = w at *
  have c4 := Mem.ref_fetch_c v.m 0 h6.mb
  rw [h4] at c4
  have c5 := push_c v 7 h6.dl
  rw [show vpushD v 7 = (withD v [7], 0) by unfold vpushD; rw [h7, h8]; rfl] at c5
  have c6 := pop_c (withD v [7]) (by show 1 ≤ 1000000; omega)
  rw [show vpopD (withD v [7]) = (7, v, 0) by
    have : withD v [] = v := by rw [← h8]; rfl
    show ((7 : Int), withD v [], (0 : Int)) = _
    rw [this]] at c6
  have c7 := rpop_c v h6.rl
  rw [show rpopD v = (0, v, -6) by
    have : withR v [] = v := by rw [← h9]; rfl
    unfold rpopD
    rw [h9]
    show ((0 : Int), withR v [], (-6 : Int)) = _
    rw [this]] at c7
  have c8 := print_c v [104, 105] h6.ol (by simp) (by rw [h7]; show -1000000000 ≤ (500 : Int) ∧ (500 : Int) ≤ 1000000000; omega)
  rw [show printD v [104, 105] = (withOut v [104, 105], 0) by
    unfold printD
    rw [h7, h10]
    exact if_neg (by decide)] at c8
  have c9 := same_c v v h6 h6
  rw [pD_yes rfl] at c9
  have c10 := right_c v h6
  rw [pD_yes h5] at c10
  have c11 := right_c vZero held_zero
  rw [pD_no not_right_zero] at c11
  have c12 := same_c v (withD v [7]) h6 ⟨h6.mb, h6.mo, by show 1 ≤ 1000000; omega, h6.rl, h6.fl, h6.wl, h6.wi, h6.ol, h6.pl, h6.ql, h6.hl⟩
  rw [pD_no (fun e => by have := congrArg V.d e; rw [h8] at this; cases this)] at c12
  have c13 := start_c
  have c14 := names_c
  have c15 := specials_c
  have c16 := fits_c conf0
  rw [fits_yes fits0] at c16
  have e1 := len_nms
  have e2 := len_spc
  simp only [encVE, encIVE, encFd] at c5 c6 c7 c8 c3
  generalize nmsV.map encN = l1 at *
  generalize spcV.map encN = l2 at *
  obtain ⟨⟨wn, wx, wf⟩, wi, wb⟩ := w
  dsimp only at h3 h3'
  subst h3 h3'
  have k1 : (((l1.length : Nat) : Int) == 130) = true := beq_iff_eq.2 (by omega)
  have k2 : (((l2.length : Nat) : Int) == 37) = true := beq_iff_eq.2 (by omega)
  have k3 : ((ByteArray.mk [104, 105].toArray).toList == (ByteArray.mk #[104, 105]).toList) = true := by rw [bs_eq]; exact decide_eq_true rfl
  clear h1 h2 h4 h5 h6 h7 h8 h9 h10 h11 e1 e2
  refine FnC.of_awp (T := tt) (ok := tok) Try.func7 (by kernel_rfl) rfl (by kernel_rfl) closedL_nil (fun w0 st0 => ?_)
  dsimp only [frOf]
  (repeat' (first | refine awp_seq ?_ | refine awp_block ?_ | refine awp_region (fun _ => hmix) ?_ | refine ARun.op rfl (by first | exact True.intro | exact rfl | (unfold inR; omega) | omega | ((try unfold inR); simp only [decide_eq_true_eq, decide_eq_false_iff_not, beq_iff_eq, beq_eq_false_iff_ne, ne_eq, Bool.not_eq_true', Bool.not_eq_false', List.length_map, List.length_append, List.length_take, List.length_drop, List.length_replicate, List.length_cons, List.length_nil] at *; omega)) ?_ | refine callX (c0) rfl rfl rfl rfl ?_ | refine callX (c1) rfl rfl rfl rfl ?_ | refine callX (c2) rfl rfl rfl rfl ?_ | refine callX (c3) rfl rfl rfl rfl ?_ | refine callX (c4) rfl rfl rfl rfl ?_ | refine callX (c5) rfl rfl rfl rfl ?_ | refine callX (c6) rfl rfl rfl rfl ?_ | refine callX (c7) rfl rfl rfl rfl ?_ | refine callX (c8) rfl rfl rfl rfl ?_ | refine callX (c9) rfl rfl rfl rfl ?_ | refine callX (c10) rfl rfl rfl rfl ?_ | refine callX (c12) rfl rfl rfl rfl ?_ | refine callX (c13) rfl rfl rfl rfl ?_ | refine callX (c14) rfl rfl rfl rfl ?_ | refine callX (c15) rfl rfl rfl rfl ?_ | refine callX (c16) rfl rfl rfl rfl ?_ | refine ARun.bytesStr (by first | exact SrcA.sl rfl (.inr rfl) | exact SrcA.sl rfl (.inl rfl) | exact SrcA.ownW rfl rfl rfl rfl) rfl rfl rfl rfl rfl rfl rfl rfl (guardF_spec rfl) ?_ | refine callW (c11) rfl (by (repeat (refine WkL.cons (by first | exact Wk.same _ | exact Wk.nilSl | exact Wk.weak _ _ _ | exact Wk.aggL (by (repeat (refine WkL.cons (by first | exact Wk.same _ | exact Wk.nilSl | exact Wk.weak _ _ _) ?_)); exact WkL.nil)) ?_)); exact WkL.nil) rfl rfl ?_ | ((first | refine ARun.fin (by first | (intro h; cases h; done) | (intro _; kernel_rfl)) ?_ | refine awp_skip ?_ | refine awp_exit ?_); dsimp only [thenA, blockA, AS.bump, List.length_cons, List.length_nil, reduceIte, Nat.reduceEqDiff]) | refine awp_condT rfl (by first | rfl | assumption | exact beq_int _ | exact bne_int _) ?_ | refine awp_condF rfl (by first | rfl | assumption | exact beq_int _ | exact bne_int _) ?_ | ((fail_if_success refine ARun.plain rfl ?_); first | refine ARun.knowT rfl rfl rfl (by first | rfl | assumption | exact beq_int _ | exact bne_int _) ?_ | refine ARun.knowF rfl rfl rfl (by first | rfl | assumption | exact beq_int _ | exact bne_int _) ?_)))
  exact awp_ret ⟨_, ResL.cons (ResA.tmp (.val _)) .nil, rfl⟩
end Go.Proofs.Ytgkjappmcgnabaa
