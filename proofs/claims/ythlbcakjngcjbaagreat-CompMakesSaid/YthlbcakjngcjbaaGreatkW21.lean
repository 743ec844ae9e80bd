/- kY4, kC11, kC13, kC14, kC15. -/
import Derived.Test.YthlbcakjngcjbaaGreatW1
import Derived.Test.YthlbcakjngcjbaaGreatW2
import Derived.Test.YthlbcakjngcjbaaGreatW3
import Derived.Test.YthlbcakjngcjbaaGreatW4
import Derived.Test.YthlbcakjngcjbaaGreatkW5
import Derived.Test.YthlbcakjngcjbaaGreatkW6
import Derived.Test.YthlbcakjngcjbaaGreatkW7
import Derived.Test.YthlbcakjngcjbaaGreatkW8
import Derived.Test.YthlbcakjngcjbaaGreatkW9
import Derived.Test.YthlbcakjngcjbaaGreatkW10
import Derived.Test.YthlbcakjngcjbaaGreatkW11
import Derived.Test.YthlbcakjngcjbaaGreatkW12
import Derived.Test.YthlbcakjngcjbaaGreatkW13
import Derived.Test.YthlbcakjngcjbaaGreatkW14
import Derived.Test.YthlbcakjngcjbaaGreatkW15
import Derived.Test.YthlbcakjngcjbaaGreatkW16
import Derived.Test.YthlbcakjngcjbaaGreatkW17
import Derived.Test.YthlbcakjngcjbaaGreatkW18
import Derived.Test.YthlbcakjngcjbaaGreatkW19
import Derived.Test.YthlbcakjngcjbaaGreatkW20
set_option linter.unusedVariables false
set_option linter.unusedSimpArgs false
namespace Go.Proofs.YthlbcakjngcjbaaGreat
open Go Go.RowKit
open Go.Proofs.YthlbcakjngcjbaaGreat.Dict (St Bs bs_eq)
open Go.Proofs.YthlbcakjngcjbaaGreat.Mem (Mm encM encBs closed_bs encP encP_closed closed_m storeD fetchD)
open Go.Proofs.YthlbcakjngcjbaaGreat.Stk (encS closed_s encI_closed)
set_option maxRecDepth 100000
theorem q_du0 : ((ByteArray.mk #[68, 85, 80]).toList == (ByteArray.mk #[68, 69, 80, 84, 72]).toList) = false := by rw [bs_eq [68, 85, 80] [68, 69, 80, 84, 72]]; exact decide_eq_false (by decide)
theorem q_du1 : ((ByteArray.mk #[68, 85, 80]).toList == (ByteArray.mk #[68, 85, 80]).toList) = true := by rw [bs_eq [68, 85, 80] [68, 85, 80]]; exact decide_eq_true rfl
theorem q_mu0 : ((ByteArray.mk #[42]).toList == (ByteArray.mk #[47]).toList) = false := by rw [bs_eq [42] [47]]; exact decide_eq_false (by decide)
theorem q_mu1 : ((ByteArray.mk #[42]).toList == (ByteArray.mk #[77, 79, 68]).toList) = false := by rw [bs_eq [42] [77, 79, 68]]; exact decide_eq_false (by decide)
theorem q_mu2 : ((ByteArray.mk #[42]).toList == (ByteArray.mk #[43]).toList) = false := by rw [bs_eq [42] [43]]; exact decide_eq_false (by decide)
theorem q_mu3 : ((ByteArray.mk #[42]).toList == (ByteArray.mk #[45]).toList) = false := by rw [bs_eq [42] [45]]; exact decide_eq_false (by decide)
theorem q_mu4 : ((ByteArray.mk #[42]).toList == (ByteArray.mk #[42]).toList) = true := by rw [bs_eq [42] [42]]; exact decide_eq_true rfl
theorem nm23 : nmsV[23]? = some [68, 85, 80] := by kernel_rfl
theorem nm41 : nmsV[41]? = some [42] := by kernel_rfl
theorem wrap1 : IntKind.i64.wrap 1 = 1 := by decide
attribute [local irreducible] Decidable.decide awp ARun regK toK
theorem cl1 (a : Int) : Closed (.sl 1 false [[.val (.int .i64 a)]]) := closed_s [a]
theorem dup_takes (a : Int) : FnC Tryz.prog 182 [St [68, 85, 80], .sl 1 false [[.val (.int .i64 a)]]] (.val (.int .i64 1)) := by
 have n0 := q_du0
 have n1 := q_du1
 refine goF Tryz.func182 (closedL_cons (.val _) (closedL_cons (cl1 a) closedL_nil)) (fun w0 st0 => ?_)
 dsimp only [frOf]
 (repeat' (first | refine goA ?_ | refine goB ?_ | fail))
 exact awp_ret ⟨_, ResL.cons (ResA.tmp (.val _)) .nil, rfl⟩
theorem dup_left (a d : Int) : FnC Tryz.prog 183 [St [68, 85, 80], .sl 1 false [[.val (.int .i64 a)]], .val (.int .i64 d)] (.sl 1 false [[.val (.int .i64 a)], [.val (.int .i64 a)]]) := by
 have n1 := q_du1
 refine goF Tryz.func183 (closedL_cons (.val _) (closedL_cons (cl1 a) (closedL_cons (.val _) closedL_nil))) (fun w0 st0 => ?_)
 dsimp only [frOf]
 (repeat' (first | refine goA ?_ | refine ARun.indexAddr rfl rfl (by omega) rfl rfl rfl rfl rfl rfl (guardF_spec rfl) ?_ | refine goB ?_ | fail))
 exact awp_ret ⟨_, ResL.cons (ResA.tmp (.weak (.sl (own_closed_map (l := [a, a]) encI_closed)))) .nil, rfl⟩
set_option maxHeartbeats 4000000 in
theorem dup_shuffle (a lim : Int) (hl : 2 ≤ lim) : FnC Tryz.prog 171 [St [68, 85, 80], .sl 1 false [[.val (.int .i64 a)]], .val (.int .i64 lim)] (.tup [.sl 1 false [[.val (.int .i64 a)], [.val (.int .i64 a)]], .val (.bool true), .val (.int .i64 0)]) := by
 have c1 := dup_takes a
 have c2 := dup_left a 1
 have he : [[AV.val (.int .i64 a)]] = [] ++ [[AV.val (.int .i64 a)]] := rfl
 have d1 : decide ((1 : Int) < 0) = false := decide_eq_false (by omega)
 have d2 : decide ((1 : Int) < 1) = false := decide_eq_false (by omega)
 have d3 : decide (lim < 2) = false := decide_eq_false (by omega)
 refine goF Tryz.func171 (closedL_cons (.val _) (closedL_cons (cl1 a) (closedL_cons (.val _) closedL_nil))) (fun w0 st0 => ?_)
 dsimp only [frOf]
 (repeat' (first | refine goA ?_ | refine cX c1 ?_ | refine cX c2 ?_ | refine ARun.sliceTo rfl he rfl lensT rfl rfl rfl rfl rfl (guardF_spec rfl) ?_ | refine ARun.sliceFrom rfl he rfl lensT rfl rfl rfl rfl rfl (guardF_spec rfl) ?_ | refine appF rfl ?_ | refine appO rfl ?_ | refine goB ?_ | fail))
 exact awp_ret ⟨_, ResL.cons (ResA.tmp (.owned rfl rfl rfl (own_closed_map (l := [a, a]) encI_closed))) (ResL.cons (ResA.tmp (.val _)) (ResL.cons (ResA.tmp (.val _)) .nil)), rfl⟩
theorem does_k (k : Int) (h : 23 ≤ k ∧ k ≤ 129) : FnC Tryz.prog 170 [.val (.int .i64 k)] (.val (.bool true)) := by
 have d1 : decide ((23 : Int) ≤ k) = true := decide_eq_true h.1
 have d2 : decide (k ≤ 129) = true := decide_eq_true h.2
 refine goF Tryz.func170 (closedL_cons (.val _) closedL_nil) (fun w0 st0 => ?_)
 dsimp only [frOf]
 (repeat' (first | refine goA ?_ | refine goB ?_ | fail))
 exact awp_ret ⟨_, ResL.cons (ResA.tmp (.val _)) .nil, congrArg (fun b => AV.val (.bool b)) d2.symm⟩
set_option maxHeartbeats 4000000 in
theorem do_dup (v : V) (a : Int) (hl : 2 ≤ v.cf.data) : FnC Tryz.prog 154 [.agg (encV (withD v [a])), .val (.int .i64 23)] (encVE (withD v [a, a], 0)) := by
 have c1 := does_k 23 (by omega)
 have c2 := ref_names_c
 have c3 := dup_shuffle a v.cf.data hl
 have hp : (nmsV.map encN)[((23 : Int)).toNat]? = some (encN [68, 85, 80]) := get_map nm23
 have nt : (!true) = false := rfl
 have d1 : decide ((23 : Int) ≤ 38) = true := decide_eq_true (by omega)
 generalize nmsV.map encN = nn at *
 unfold encVE
 refine goF Tryz.func154 (closedL_cons (closedV _) (closedL_cons (.val _) closedL_nil)) (fun w0 st0 => ?_)
 dsimp only [frOf]
 (repeat' (first | refine goA ?_ | refine cX c1 ?_ | refine cX c2 ?_ | refine cX c3 ?_ | refine ARun.indexAddr rfl rfl (by omega) (by with_reducible exact hp) rfl rfl rfl rfl rfl (guardF_spec rfl) ?_ | refine goB ?_ | fail))
 exact awp_ret ⟨_, ResL.cons (ResA.agg rfl rfl rfl rfl rfl rfl rfl (RL.allClosed (encV_closed (withD v [a, a])))) (ResL.cons (ResA.tmp (.val _)) .nil), rfl⟩
theorem div55 : FnC Tryz.prog 196 [.val (.int .i64 5), .val (.int .i64 5)] (.tup [.val (.int .i64 1), .val (.int .i64 0), .val (.int .i64 0)]) := by
 have d0 : ((5 : Int) == 0) = false := by simp
 have hq : BinR Tryz.prog .quo 3 (.int .i64 5) (.int .i64 5) (.int .i64 1) := bin_wrap (fun w => by simp [binOp, Op.intDiv]; exact wrap1)
 have d1 : decide ((5 : Int) - 1 * 5 < 0) = false := decide_eq_false (by omega)
 have d2 : decide ((0 : Int) < (5 : Int) - 1 * 5) = false := decide_eq_false (by omega)
 refine goF Tryz.func196 (closedL_cons (.val _) (closedL_cons (.val _) closedL_nil)) (fun w0 st0 => ?_)
 dsimp only [frOf]
 (repeat' (first | refine ARun.bin rfl rfl hq rfl (guardF_spec rfl) ?_ | refine goA ?_ | refine goB ?_ | fail))
 exact awp_ret ⟨_, ResL.cons (ResA.tmp (.val _)) (ResL.cons (ResA.tmp (.val _)) (ResL.cons (ResA.tmp (.val _)) .nil)), rfl⟩
theorem two55 : FnC Tryz.prog 184 [St [42], .val (.int .i64 5), .val (.int .i64 5)] (.tup [.val (.int .i64 25), .val (.bool true), .val (.int .i64 0)]) := by
 have c1 := div55
 have n0 := q_mu0
 have n1 := q_mu1
 have n2 := q_mu2
 have n3 := q_mu3
 have n4 := q_mu4
 refine goF Tryz.func184 (closedL_cons (.val _) (closedL_cons (.val _) (closedL_cons (.val _) closedL_nil))) (fun w0 st0 => ?_)
 dsimp only [frOf]
 (repeat' (first | refine goA ?_ | refine cX c1 ?_ | refine goB ?_ | fail))
 exact awp_ret ⟨_, ResL.cons (ResA.tmp (.val _)) (ResL.cons (ResA.tmp (.val _)) (ResL.cons (ResA.tmp (.val _)) .nil)), rfl⟩
theorem done55 (v : V) : FnC Tryz.prog 173 [.agg (encV v), .val (.int .i64 41), St [42], .sl 1 false [[.val (.int .i64 5)], [.val (.int .i64 5)]]] (.tup [.agg (encV v), .sl 1 false [[.val (.int .i64 25)]], .val (.int .i64 0)]) := by
 have c1 := two55
 have d1 : decide ((41 : Int) ≤ 58) = true := decide_eq_true (by omega)
 refine goF Tryz.func173 (closedL_cons (closedV v) (closedL_cons (.val _) (closedL_cons (.val _) (closedL_cons (closed_s [5, 5]) closedL_nil)))) (fun w0 st0 => ?_)
 dsimp only [frOf]
 (repeat' (first | refine goA ?_ | refine cX c1 ?_ | refine ARun.indexAddr rfl rfl (by omega) rfl rfl rfl rfl rfl rfl (guardF_spec rfl) ?_ | refine goB ?_ | fail))
 exact awp_ret ⟨_, ResL.cons (ResA.agg rfl rfl rfl rfl rfl rfl rfl (RL.allClosed (encV_closed v))) (ResL.cons (ResA.tmp (.weak (.sl (own_closed_map (l := [25]) encI_closed)))) (ResL.cons (ResA.tmp (.val _)) .nil)), rfl⟩
theorem takes41 : FnC Tryz.prog 172 [.val (.int .i64 41), St [42]] (.val (.int .i64 2)) := by
 have d1 : decide ((41 : Int) ≤ 58) = true := decide_eq_true (by omega)
 refine goF Tryz.func172 (closedL_cons (.val _) (closedL_cons (.val _) closedL_nil)) (fun w0 st0 => ?_)
 dsimp only [frOf]
 (repeat' (first | refine goA ?_ | refine goB ?_ | fail))
 exact awp_ret ⟨_, ResL.cons (ResA.tmp (.val _)) .nil, rfl⟩
set_option maxHeartbeats 4000000 in
theorem do_star (v : V) (hl : 2 ≤ v.cf.data) : FnC Tryz.prog 154 [.agg (encV (withD v [5, 5])), .val (.int .i64 41)] (encVE (withD v [25], 0)) := by
 have c1 := does_k 41 (by omega)
 have c2 := ref_names_c
 have c3 := takes41
 have c4 := done55 (withD v [5, 5])
 have hp : (nmsV.map encN)[((41 : Int)).toNat]? = some (encN [42]) := get_map nm41
 have nt : (!true) = false := rfl
 have d1 : decide ((41 : Int) ≤ 38) = false := decide_eq_false (by omega)
 have e0 : ((((withD v [5, 5]).d.map encI).length : Nat) : Int) = 2 := rfl
 have d2 : decide (((((withD v [5, 5]).d.map encI).length : Nat) : Int) < 2) = false := decide_eq_false (by omega)
 have d3 : decide (v.cf.data < 1) = false := decide_eq_false (by omega)
 have z1 : ((0 : Int) != 0) = false := by simp
 have he : (withD v [5, 5]).d.map encI = [] ++ (withD v [5, 5]).d.map encI := rfl
 generalize nmsV.map encN = nn at *
 unfold encVE
 refine goF Tryz.func154 (closedL_cons (closedV _) (closedL_cons (.val _) closedL_nil)) (fun w0 st0 => ?_)
 dsimp only [frOf]
 (repeat' (first | refine goA ?_ | refine cX c1 ?_ | refine cX c2 ?_ | refine cX c3 ?_ | refine cX c4 ?_ | refine ARun.indexAddr rfl rfl (by omega) (by with_reducible exact hp) rfl rfl rfl rfl rfl (guardF_spec rfl) ?_ | refine ARun.sliceTo rfl he rfl lensT rfl rfl rfl rfl rfl (guardF_spec rfl) ?_ | refine ARun.sliceFrom rfl he rfl lensT rfl rfl rfl rfl rfl (guardF_spec rfl) ?_ | refine appF rfl ?_ | refine appO rfl ?_ | refine goB ?_ | fail))
 exact awp_ret ⟨_, ResL.cons (ResA.agg rfl rfl rfl rfl rfl rfl rfl (by repeat' (first | exact RL.nil _ | refine RL.cons (by first | exact Reif.val _ | exact Reif.owned rfl rfl rfl (own_closed_map (l := [25]) encI_closed) | exact .closed _ (by first | exact closed_bs _ | exact closed_s _ | exact Dict.closed_ws _ | exact closedFr _ | exact closedRq _ | exact closedHn _ | exact closed_map encP_closed)) ?_))) (ResL.cons (ResA.tmp (.val _)) .nil), rfl⟩
end Go.Proofs.YthlbcakjngcjbaaGreat
namespace Go.Proofs.YthlbcakjngcjbaaGreat
open Go Go.RowKit
open Go.Proofs.YthlbcakjngcjbaaGreat.Dict (St Bs bs_eq Wd encW encWs closed_ws addD flagD cutD encWE findD encFd NameIn setFl encW_closed)
open Go.Proofs.YthlbcakjngcjbaaGreat.Mem (Mm encM encBs closed_bs encP encP_closed closed_m storeD fetchD commaD alignD enc3m enc2m writeD)
open Go.Proofs.YthlbcakjngcjbaaGreat.Stk (encS closed_s encI_closed)
set_option maxRecDepth 100000
theorem machL_len (q : Nat) : (machL q).length = 4 + q := by
 unfold machL
 rw [List.length_append, List.length_replicate]
 rfl
@[local simp] theorem machL_lenS (q : Nat) : (machL q).length = q + 1 + 1 + 1 + 1 := by
 rw [machL_len]
 omega
theorem machL_map (q : Nat) : ([[AV.val (.int .i64 260)], [AV.val (.int .i64 0)], [AV.val (.int .i64 0)], [AV.val (.int .i64 q)]] ++ List.replicate q [AV.val (.int .i64 0)]) = (machL q).map encI := by
 unfold machL
 rw [List.map_append, List.map_replicate]
 rfl
theorem relR_same {l : List (List AV)} : RelR Wk l l := by
 induction l with
 | nil => exact RelR.nil _
 | cons x l ih =>
  refine RelR.cons ?_ ih
  clear ih
  induction x with
  | nil => exact RelL.nil _
  | cons y x ih => exact RelL.cons (.same _) ih
theorem relR_mach (q : Nat) : RelR Wk ([[AV.val (.int .i64 260)], [AV.val (.int .i64 0)], [AV.val (.int .i64 0)], [AV.val (.int .i64 q)]] ++ List.replicate q [AV.val (.int .i64 0)]) ((machL q).map encI) := by
 rw [machL_map q]
 exact relR_same
attribute [local irreducible] Decidable.decide awp ARun regK toK machL
set_option maxHeartbeats 8000000 in
theorem machine_c (f : Fo) (name : Bs) (n : Int) (h : Gd f.v 300) (hn : name.length ≤ 1000000) : FnC Tryz.prog 29 [.agg (encFo f), St name, .val (.int .i64 n)] (encFE (machineD f name n)) := by
 have c0 := made_c f
 unfold machineD
 by_cases hx : f.c.xt = 0
 case neg =>
  have c1 := created_c f name false [260, 0, 0, n] (by show 4 ≤ 10000; omega) (h.le (by show 4 + 10 ≤ 300; omega)) hn
  rw [show createdD f name false [260, 0, 0, n] = (f, -29) by unfold createdD; rw [if_pos hx]] at c1
  rw [if_pos hx]
  rw [closeC_one hx] at c0
  have nt : (!true) = false := rfl
  unfold encFE at c1 ⊢
  refine goF Tryz.func29 (closedL_cons (.agg (encFo_closed f)) (closedL_cons (.val _) (closedL_cons (.val _) closedL_nil))) (fun w0 st0 => ?_)
  dsimp only [frOf]
  (repeat' (first | refine goA ?_ | refine cX c0 ?_ | refine callW (c1) rfl wkT rfl rfl ?_ | refine goB ?_ | fail))
  exact awp_ret ⟨_, ResL.cons (ResA.agg rfl rfl rfl rfl rfl rfl rfl (RL.allClosed (encFo_closed _))) (ResL.cons (ResA.tmp (.val _)) .nil), rfl⟩
 rw [closeC_zero hx] at c0
 rw [if_neg (fun e => e hx)]
 have nt : (!false) = true := rfl
 by_cases h1 : n < 1
 ·rw [if_pos (Or.inl h1)]
  have d1 : decide (n < 1) = true := decide_eq_true h1
  unfold encFE
  refine goF Tryz.func29 (closedL_cons (.agg (encFo_closed f)) (closedL_cons (.val _) (closedL_cons (.val _) closedL_nil))) (fun w0 st0 => ?_)
  dsimp only [frOf]
  (repeat' (first | refine goA ?_ | refine cX c0 ?_ | refine goB ?_ | fail))
  exact awp_ret ⟨_, ResL.cons (ResA.agg rfl rfl rfl rfl rfl rfl rfl (RL.allClosed (encFo_closed _))) (ResL.cons (ResA.tmp (.val _)) .nil), rfl⟩
 have d1 : decide (n < 1) = false := decide_eq_false h1
 by_cases h2 : 256 < n
 ·rw [if_pos (Or.inr h2)]
  have d2 : decide (256 < n) = true := decide_eq_true h2
  unfold encFE
  refine goF Tryz.func29 (closedL_cons (.agg (encFo_closed f)) (closedL_cons (.val _) (closedL_cons (.val _) closedL_nil))) (fun w0 st0 => ?_)
  dsimp only [frOf]
  (repeat' (first | refine goA ?_ | refine cX c0 ?_ | refine goB ?_ | fail))
  exact awp_ret ⟨_, ResL.cons (ResA.agg rfl rfl rfl rfl rfl rfl rfl (RL.allClosed (encFo_closed _))) (ResL.cons (ResA.tmp (.val _)) .nil), rfl⟩
 rw [if_neg (by omega)]
 have d2 : decide (256 < n) = false := decide_eq_false h2
 obtain ⟨q, rfl⟩ : ∃ q : Nat, n = (q : Int) := ⟨n.toNat, by omega⟩
 have hq : 1 ≤ q ∧ q ≤ 256 := by omega
 have hml := machL_len q
 have c1 := created_c f name false (machL q) (by rw [hml]; omega) (h.le (by rw [hml]; omega)) hn
 generalize createdD f name false (machL q) = r at *
 unfold encFE at c1 ⊢
 refine goF Tryz.func29 (closedL_cons (.agg (encFo_closed f)) (closedL_cons (.val _) (closedL_cons (.val _) closedL_nil))) (fun w0 st0 => ?_)
 dsimp only [frOf]
 (repeat' (first | refine goN ?_ | refine awp_region_ne 6 rfl (fun _ => hmix) ?_ | refine ARun.buildSliceO rfl rfl rfl rfl rfl rfl rfl (buildSF_spec rfl) rfl (guardF_spec rfl) ?_ | refine ARun.o rfl ?_ | refine cX c0 ?_ | refine ARun.append_ownZ rfl rfl rfl rfl rfl (by omega) rfl rfl rfl rfl rfl rfl rfl rfl rfl rfl lensT lensT rfl (guardF_spec rfl) ?_ | refine goB ?_ | ((fail_if_success refine ARun.plain rfl ?_); refine ARun.fork rfl rfl rfl (fun h => ?_) (fun h => ?_)) | refine awp_cond rfl (fun h => ?_) (fun h => ?_)))
 refine awp_wkH 22 ((machL q).map encI) rfl rfl (relR_mach q) ?_
 (repeat' (first | refine goA ?_ | refine callGX [(22, _)] (c1) (BsOk.cons rfl (by first | exact own_closed_map encI_closed | exact own_closed_app encI_closed (encI_closed _) | exact clo_lit) (BsOk.nil _)) rfl fzT rfl rfl ?_ | refine goB ?_ | fail))
 exact awp_ret ⟨_, ResL.cons (ResA.agg rfl rfl rfl rfl rfl rfl rfl (RL.allClosed (encFo_closed _))) (ResL.cons (ResA.tmp (.val _)) .nil), rfl⟩
theorem mach_clo (q : Nat) : ∀ el x, el ∈ ([[AV.val (.int .i64 260)], [AV.val (.int .i64 0)], [AV.val (.int .i64 0)], [AV.val (.int .i64 q)]] ++ List.replicate q [AV.val (.int .i64 0)]) → x ∈ el → Closed x := by
 rw [machL_map q]
 exact own_closed_map encI_closed
set_option maxHeartbeats 8000000 in
theorem ref_machine_c (f : Fo) (name : Bs) (n : Int) (h : Gd f.v 300) (hn : name.length ≤ 1000000) : FnC Tryz.prog 30 [.agg (encFo f), St name, .val (.int .i64 n)] (encFE (machineD f name n)) := by
 unfold machineD
 by_cases hx : f.c.xt = 0
 case neg =>
  have d := closeC_one hx
  rw [if_pos hx]
  unfold encFE
  refine goF Tryz.func30 (closedL_cons (.agg (encFo_closed f)) (closedL_cons (.val _) (closedL_cons (.val _) closedL_nil))) (fun w0 st0 => ?_)
  dsimp only [frOf]
  (repeat' (first | refine goA ?_ | refine goB ?_ | fail))
  exact awp_ret ⟨_, ResL.cons (ResA.agg rfl rfl rfl rfl rfl rfl rfl (RL.allClosed (encFo_closed _))) (ResL.cons (ResA.tmp (.val _)) .nil), rfl⟩
 have d := closeC_zero hx
 rw [if_neg (fun e => e hx)]
 by_cases h1 : n < 1
 ·rw [if_pos (Or.inl h1)]
  have d1 : decide (n < 1) = true := decide_eq_true h1
  unfold encFE
  refine goF Tryz.func30 (closedL_cons (.agg (encFo_closed f)) (closedL_cons (.val _) (closedL_cons (.val _) closedL_nil))) (fun w0 st0 => ?_)
  dsimp only [frOf]
  (repeat' (first | refine goA ?_ | refine goB ?_ | fail))
  exact awp_ret ⟨_, ResL.cons (ResA.agg rfl rfl rfl rfl rfl rfl rfl (RL.allClosed (encFo_closed _))) (ResL.cons (ResA.tmp (.val _)) .nil), rfl⟩
 have d1 : decide (n < 1) = false := decide_eq_false h1
 by_cases h2 : 256 < n
 ·rw [if_pos (Or.inr h2)]
  have d2 : decide (256 < n) = true := decide_eq_true h2
  unfold encFE
  refine goF Tryz.func30 (closedL_cons (.agg (encFo_closed f)) (closedL_cons (.val _) (closedL_cons (.val _) closedL_nil))) (fun w0 st0 => ?_)
  dsimp only [frOf]
  (repeat' (first | refine goA ?_ | refine goB ?_ | fail))
  exact awp_ret ⟨_, ResL.cons (ResA.agg rfl rfl rfl rfl rfl rfl rfl (RL.allClosed (encFo_closed _))) (ResL.cons (ResA.tmp (.val _)) .nil), rfl⟩
 rw [if_neg (by omega)]
 have d2 : decide (256 < n) = false := decide_eq_false h2
 obtain ⟨q, rfl⟩ : ∃ q : Nat, n = (q : Int) := ⟨n.toNat, by omega⟩
 have hq : 1 ≤ q ∧ q ≤ 256 := by omega
 have hml := machL_len q
 have c1 := ref_created_c f name false (machL q) (by rw [hml]; omega) (h.le (by rw [hml]; omega)) hn
 generalize createdD f name false (machL q) = r at *
 unfold encS at c1
 rw [← machL_map q] at c1
 unfold encFE at c1 ⊢
 refine goF Tryz.func30 (closedL_cons (.agg (encFo_closed f)) (closedL_cons (.val _) (closedL_cons (.val _) closedL_nil))) (fun w0 st0 => ?_)
 dsimp only [frOf]
 (repeat' (first | refine ARun.buildSliceO rfl rfl rfl rfl rfl rfl rfl (buildSF_spec rfl) rfl (guardF_spec rfl) ?_ | refine goA ?_ | refine ARun.append_ownZ rfl rfl rfl rfl rfl (by omega) rfl rfl rfl rfl rfl rfl rfl rfl rfl rfl lensT lensT rfl (guardF_spec rfl) ?_ | refine callGX [(23, _)] (c1) (BsOk.cons rfl (mach_clo q) (BsOk.nil _)) rfl (by exact FzL.cons (Fz.same _) (FzL.cons (Fz.same _) (FzL.cons (Fz.same _) (FzL.cons (Fz.own1 (.head _) rfl rfl) (FzL.nil _))))) rfl rfl ?_ | refine goB ?_ | fail))
 exact awp_ret ⟨_, ResL.cons (ResA.agg rfl rfl rfl rfl rfl rfl rfl (RL.allClosed (encFo_closed _))) (ResL.cons (ResA.tmp (.val _)) .nil), rfl⟩
end Go.Proofs.YthlbcakjngcjbaaGreat
namespace Go.Proofs.YthlbcakjngcjbaaGreat
open Go Go.RowKit
open Go.Proofs.YthlbcakjngcjbaaGreat.Dict (St Bs Wd addD flagD cutD findD NameIn namedD)
open Go.Proofs.YthlbcakjngcjbaaGreat.Mem (Mm storeD fetchD commaD alignD writeD layD padN thereD)
set_option maxRecDepth 100000
theorem align_fl {m : Mm} {h : Nat} : (alignD m ((8 * h : Nat) : Int)) = (m, ((8 * h : Nat) : Int), 0) ∨ (m.b.length : Int) < ((8 * h : Nat) : Int) := by
 by_cases hh : (m.b.length : Int) < ((8 * h : Nat) : Int)
 ·exact .inr hh
 left
 have hp : padN ((8 * h : Nat) : Int) = 0 := by unfold padN; omega
 unfold alignD
 rw [hp]
 show layD m _ [] = _
 unfold layD
 rw [if_neg (by show ¬ (m.b.length : Int) - ((8 * h : Nat) : Int) < ((0 : Nat) : Int); omega)]
 have hw : (writeD m ((8 * h : Nat) : Int) []).1 = m := by
  unfold writeD
  split
  ·rfl
  ·rw [if_pos rfl]
 rw [hw]
 show (m, ((8 * h : Nat) : Int) + ((0 : Nat) : Int), (0 : Int)) = _
 rw [show ((8 * h : Nat) : Int) + ((0 : Nat) : Int) = ((8 * h : Nat) : Int) by omega]
theorem add_yes {l : List Wd} {name : Bs} {xt fl w : Int} (h1 : namedD name = 0) (h2 : 0 ≤ fl ∧ fl ≤ 7) (h3 : (l.length : Int) < w) (h4 : l.length < 1024) : addD l name xt fl w = (l ++ [⟨name, xt, fl⟩], 0) := by
 unfold addD
 rw [if_neg (fun e => e h1), if_neg (fun e => e h2), if_neg (by omega)]
theorem word_fl {v : V} {f : Nat → Int} {h : Nat} (hv : Fl v f h) (name : Bs) (fl : Int) (l : List Int) (h1 : namedD name = 0) (h2 : 0 ≤ fl ∧ fl ≤ 7) (h3 : (v.dict.length : Int) < v.cf.words) (h4 : v.dict.length < 1024) (hh : h + l.length ≤ 256) :
  ∃ m, wordR v name fl l = (upV v m ((8 * (h + l.length) : Nat) : Int) (v.dict ++ [⟨name, ((8 * h : Nat) : Int), fl⟩]) v.last v.hand, ((8 * h : Nat) : Int), 0) ∧ m.b = cellsC (lay f h l) 256 ∧ m.old.length ≤ v.m.old.length + l.length ∧ (Mem.RightM v.m → Mem.RightM m) := by
 have hl : v.m.b.length = 2048 := by rw [hv.b, cellsC_len]
 have ha : alignD v.m v.here = (v.m, v.here, 0) := by
  rw [hv.here]
  exact align_fl.resolve_right (by rw [hl]; omega)
 unfold wordR
 rw [ha]
 dsimp only
 rw [if_neg (fun e => e rfl), add_yes h1 h2 h3 h4]
 dsimp only
 rw [if_neg (fun e => e rfl)]
 have hf : Fl (withMHD v v.m v.here (v.dict ++ [⟨name, v.here, fl⟩])) f h := ⟨hv.b, hv.here⟩
 have hc := cells_fl l (w := wk0 (withMHD v v.m v.here (v.dict ++ [(⟨name, v.here, fl⟩ : Wd)]))) hf rfl hh
 have hly := cellsK_lays (v := withMHD v v.m v.here (v.dict ++ [⟨name, v.here, fl⟩])) l ⟨by rw [hf.here]; omega, by rw [hf.here, hf.b, cellsC_len]; omega⟩
 have hc1 : Fl (cellsK (withMHD v v.m v.here (v.dict ++ [⟨name, v.here, fl⟩])) l).v (lay f h l) (h + l.length) := hc.1
 have hc2 : (cellsK (withMHD v v.m v.here (v.dict ++ [⟨name, v.here, fl⟩])) l).bad = 0 := hc.2
 rw [if_neg (fun e => e hc2)]
 have heq := hly.eq
 have hol := hly.ol
 have hri : Mem.RightM v.m → Mem.RightM (cellsK (withMHD v v.m v.here (v.dict ++ [⟨name, v.here, fl⟩])) l).v.m := hly.ri
 generalize cellsK (withMHD v v.m v.here (v.dict ++ [⟨name, v.here, fl⟩])) l = k at *
 obtain ⟨kv, kl, kb⟩ := k
 dsimp only at *
 refine ⟨kv.m, ?_, hc1.b, hol, hri⟩
 rw [← hc1.here, ← hv.here]
 have e : kv = upV v kv.m kv.here (v.dict ++ [⟨name, v.here, fl⟩]) v.last v.hand := heq
 rw [← e]
def nSq : Bs := [83, 81]
def dSq : List Wd := dictS 37 ++ [⟨nSq, 1368, 2⟩]
def dSe : List Wd := (flagD dSq 167 (clearH (flAt dSq 167))).1
def fA : Nat → Int := updC (lay f0 171 [256]) 1 (-1)
def fB : Nat → Int := lay fA 172 [216, 360]
def fC : Nat → Int := updC (lay fB 174 [32]) 1 0
theorem dict_n : (dictS 37).length = 167 := by kernel_rfl
def aV (m : Mm) : V := upV v0 m 1376 dSq 0 []
def aC : Cp := ⟨1368, [], 1368, 167, 0, false, 0⟩
theorem nsq_ok : namedD nSq = 0 := by kernel_rfl
theorem begin_a : ∃ m, beginD ⟨v0, cp0⟩ nSq false 9 = (⟨aV m, aC⟩, 0) ∧ m.b = cellsC fA 256 ∧ m.old.length ≤ 10 ∧ Mem.RightM m := by
 obtain ⟨m, h1, h2, h3, h5⟩ := word_fl v0_fl nSq 2 [256] nsq_ok (by omega) (by rw [show v0.dict = dictS 37 from rfl, dict_n]; decide) (by rw [show v0.dict = dictS 37 from rfl, dict_n]; decide) (by decide)
 have hs := store_flat (k := 1) (-1) h2 (by omega)
 have hso := (store_ok m 8 (-1)).2
 refine ⟨(storeD m 8 (-1)).1, ?_, hs.1, ?_, store_right 8 (-1) (h5 (vNew_right fits0).1.2.1)⟩
 ·unfold beginD
  rw [if_neg (by decide), if_neg (by decide), if_neg (by decide), h1, if_neg (fun e => e rfl), if_neg (by decide)]
  rw [show v0.dict = dictS 37 from rfl, dict_n]
  rfl
 ·rw [show v0.m.old.length = 0 from rfl] at h3
  simp only [List.length_cons, List.length_nil] at h3
  omega
theorem flat_fetch {v : V} {f : Nat → Int} {h k : Nat} (hv : Fl v f h) (hk : k < 256) {n : Int} (e : f k = n) (hn : -9223372036854775808 ≤ n ∧ n ≤ 9223372036854775807) : fetchD v.m ((8 * k : Nat) : Int) = (n, 0) := by
 subst e
 exact fetch_flat hv.b hk hn
theorem find_sq : (findD dSe [115, 113]).2.2 = true ∧ (findD dSe [115, 113]).1.xt = 1368 := ⟨by kernel_rfl, by kernel_rfl⟩
end Go.Proofs.YthlbcakjngcjbaaGreat
namespace Go.Proofs.YthlbcakjngcjbaaGreat
open Go Go.RowKit
open Go.Proofs.YthlbcakjngcjbaaGreat.Dict (St Bs Wd addD flagD cutD findD NameIn namedD)
open Go.Proofs.YthlbcakjngcjbaaGreat.Mem (Mm storeD fetchD commaD alignD writeD layD padN thereD)
set_option maxRecDepth 100000
theorem cells_up {v : V} {f : Nat → Int} {h : Nat} (hv : Fl v f h) (l : List Int) (hh : h + l.length ≤ 256) :
  ∃ m, (cellsK v l).v = withMH v m ((8 * (h + l.length) : Nat) : Int) ∧ (cellsK v l).bad = 0 ∧ m.b = cellsC (lay f h l) 256 ∧ m.old.length ≤ v.m.old.length + l.length ∧ (Mem.RightM v.m → Mem.RightM m) := by
 have hc := cells_fl l (w := wk0 v) hv rfl hh
 have hly := cellsK_lays (v := v) l ⟨by rw [hv.here]; omega, by rw [hv.here, hv.b, cellsC_len]; omega⟩
 have hc1 : Fl (cellsK v l).v (lay f h l) (h + l.length) := hc.1
 have heq := hly.eq
 rw [hc1.here] at heq
 exact ⟨_, heq, hc.2, hc1.b, hly.ol, hly.ri⟩
def bV (m : Mm) : V := upV v0 m 1392 dSq 0 []
def cV (m : Mm) : V := upV v0 m 1400 dSe 0 []
theorem cells_b {m : Mm} (hm : m.b = cellsC fA 256) (ho : m.old.length ≤ 10) : ∃ m', outD (cellsK (aV m) [216, 360]) (aV m) = (bV m', 0) ∧ m'.b = cellsC fB 256 ∧ m'.old.length ≤ 12 ∧ (Mem.RightM m → Mem.RightM m') := by
 obtain ⟨m', h1, h2, h3, h4, h5⟩ := cells_up (v := aV m) (f := fA) (h := 172) ⟨hm, rfl⟩ [216, 360] (by decide)
 refine ⟨m', ?_, h3, ?_, h5⟩
 ·rw [show outD (cellsK (aV m) [216, 360]) (aV m) = ((cellsK (aV m) [216, 360]).v, 0) from if_pos h2, h1]
  rfl
 ·have : m'.old.length ≤ m.old.length + 2 := h4
  omega
theorem end_b {m : Mm} (hm : m.b = cellsC fB 256) (ho : m.old.length ≤ 12) : ∃ m', endD' ⟨bV m, aC⟩ = (⟨cV m', cp0⟩, 0) ∧ m'.b = cellsC fC 256 ∧ m'.old.length ≤ 14 := by
 obtain ⟨m', h1, h2, h3, h4, _⟩ := cells_up (v := bV m) (f := fB) (h := 174) ⟨hm, rfl⟩ [32] (by decide)
 have hs := store_flat (k := 1) 0 h3 (by omega)
 have hso := (store_ok m' 8 0).2
 have h4' : m'.old.length ≤ m.old.length + 1 := h4
 refine ⟨(storeD m' 8 0).1, ?_, hs.1, by omega⟩
 unfold endD'
 rw [if_neg (by show ¬ aC.xt = 0; decide), if_neg (by show ¬ 0 < aC.cf.length; decide), if_neg (fun e => by cases e.1), if_neg (fun e => e h2), h1]
 rfl
def rV (m : Mm) (d r : List Int) : V := withD (withR (cV m) r) d
theorem rV_fl {m : Mm} (hm : m.b = cellsC fC 256) (d r : List Int) : Fl (rV m d r) fC 175 := ⟨hm, rfl⟩
theorem rV_b {m : Mm} (hm : m.b = cellsC fC 256) (d r : List Int) : (rV m d r).m.b.length ≤ 1000000 := by
 show m.b.length ≤ 1000000
 rw [hm, cellsC_len]
 omega
theorem kind_fl {v : V} {f : Nat → Int} {h k : Nat} (hv : Fl v f h) (hk : k < 256) {n : Int} (e : f k = n) (hn : (0 ≤ n ∧ n ≤ 129) ∨ (256 ≤ n ∧ n ≤ 260) ∨ (300 ≤ n ∧ n ≤ 336)) : kindD v ((8 * k : Nat) : Int) = (n, 0) := by
 have hf := flat_fetch hv hk e (by omega)
 unfold kindD
 rw [hf, if_neg (fun e => e rfl), if_pos hn]
def rs (m : Mm) : Nat → Rn
 | 0 => ⟨rV m [5] [], 16, 1368, true, 20⟩
 | 1 => ⟨rV m [5] [16], 1376, 0, false, 19⟩
 | 2 => ⟨rV m [5, 5] [16], 1384, 0, false, 18⟩
 | 3 => ⟨rV m [25] [16], 1392, 0, false, 17⟩
 | _ => ⟨rV m [25] [], 16, 0, false, 16⟩
theorem f171 : fC 171 = 256 := by kernel_rfl
theorem f172 : fC 172 = 216 := by kernel_rfl
theorem f173 : fC 173 = 360 := by kernel_rfl
theorem f174 : fC 174 = 32 := by kernel_rfl
theorem f2 : fC 2 = 96 := by kernel_rfl
theorem f27 : fC 27 = 23 := by kernel_rfl
theorem f45 : fC 45 = 41 := by kernel_rfl
theorem f4 : fC 4 = 0 := by kernel_rfl
theorem f12 : fC 12 = 8 := by kernel_rfl
theorem nm0 : nmsV[0]? = some [40, 101, 120, 105, 116, 41] := by kernel_rfl
theorem nm8 : nmsV[8]? = some [40, 104, 97, 108, 116, 41] := by kernel_rfl
attribute [local irreducible] awp ARun regK toK
theorem run_sq {m : Mm} (hm : m.b = cellsC fC 256) : FnC Tryz.prog 41 [.agg (encV (rV m [5] [])), .val (.int .i64 1368), .val (.int .i64 20)] (.tup [.agg (encV (rV m [25] [])), .val (.int .i64 15), .val (.int .i64 0)]) := by
 have k0 : kindD (rV m [5] []) 1368 = (256, 0) := kind_fl (k := 171) (rV_fl hm _ _) (by omega) f171 (by omega)
 have k1 : kindD (rV m [5] [16]) 216 = (23, 0) := kind_fl (k := 27) (rV_fl hm _ _) (by omega) f27 (by omega)
 have k2 : kindD (rV m [5, 5] [16]) 360 = (41, 0) := kind_fl (k := 45) (rV_fl hm _ _) (by omega) f45 (by omega)
 have k3 : kindD (rV m [25] [16]) 32 = (((0 : Nat) : Int), 0) := kind_fl (k := 4) (rV_fl hm _ _) (by omega) f4 (by omega)
 have k4 : kindD (rV m [25] []) 96 = (((8 : Nat) : Int), 0) := kind_fl (k := 12) (rV_fl hm _ _) (by omega) f12 (by omega)
 have g1 : fetchD (rV m [5] [16]).m 1376 = (216, 0) := flat_fetch (k := 172) (rV_fl hm [5] [16]) (by omega) f172 (by omega)
 have g2 : fetchD (rV m [5, 5] [16]).m 1384 = (360, 0) := flat_fetch (k := 173) (rV_fl hm [5, 5] [16]) (by omega) f173 (by omega)
 have g3 : fetchD (rV m [25] [16]).m 1392 = (32, 0) := flat_fetch (k := 174) (rV_fl hm [25] [16]) (by omega) f174 (by omega)
 have g4 : fetchD (rV m [25] []).m 16 = (96, 0) := flat_fetch (k := 2) (rV_fl hm [25] []) (by omega) f2 (by omega)
 have b := rV_b hm
 refine run_c (rV m [5] []) 1368 20 (by omega) 4 (rs m) ⟨rV m [25] [], 24, 0, false, 15⟩ rfl (fun i hi => ?_) ?_
 ·have h4 : i = 0 ∨ i = 1 ∨ i = 2 ∨ i = 3 := by omega
  rcases h4 with rfl | rfl | rfl | rfl
  ·exact step_do (rs m 0) ⟨rV m [5] [16], 1376, 0, false, false, 0⟩ rfl ⟨of_decide_eq_true rfl, of_decide_eq_true rfl⟩ (done_col (rV m [5] []) (rV m [5] [16]) 16 0 false false 1368 (by omega) (b _ _) k0 (of_decide_eq_true rfl) rfl) rfl
  ·exact step_next (rs m 1) ⟨rV m [5, 5] [16], 1384, 0, false, false, 0⟩ 216 rfl ⟨of_decide_eq_true rfl, of_decide_eq_true rfl⟩ ⟨of_decide_eq_true rfl, of_decide_eq_true rfl⟩ (b _ _) g1 (done_prim (rV m [5] [16]) (rV m [5, 5] [16]) 23 (by omega) 1384 0 false false 216 (b _ _) k1 (do_dup (withR (cV m) [16]) 5 (of_decide_eq_true rfl))) rfl
  ·exact step_next (rs m 2) ⟨rV m [25] [16], 1392, 0, false, false, 0⟩ 360 rfl ⟨of_decide_eq_true rfl, of_decide_eq_true rfl⟩ ⟨of_decide_eq_true rfl, of_decide_eq_true rfl⟩ (b _ _) g2 (done_prim (rV m [5, 5] [16]) (rV m [25] [16]) 41 (by omega) 1392 0 false false 360 (b _ _) k2 (do_star (withR (cV m) [16]) (of_decide_eq_true rfl))) rfl
  ·exact step_next (rs m 3) ⟨rV m [25] [], 16, 0, false, false, 0⟩ 32 rfl ⟨of_decide_eq_true rfl, of_decide_eq_true rfl⟩ ⟨of_decide_eq_true rfl, of_decide_eq_true rfl⟩ (b _ _) g3 (done_code (rV m [25] [16]) ⟨rV m [25] [], 16, 0, false, false, 0⟩ 0 _ (by omega) nm0 1400 0 false false 32 (b _ _) k3 (code_exit (rV m [25] [16]) (rV m [25] []) 1400 0 false false 16 (of_decide_eq_true rfl) rfl)) rfl
 ·exact step_next (rs m 4) ⟨rV m [25] [], 24, 0, false, true, 0⟩ 96 rfl ⟨of_decide_eq_true rfl, of_decide_eq_true rfl⟩ ⟨of_decide_eq_true rfl, of_decide_eq_true rfl⟩ (b _ _) g4 (done_code (rV m [25] []) ⟨rV m [25] [], 24, 0, false, true, 0⟩ 8 _ (by omega) nm8 24 0 false false 96 (b _ _) k4 (code_halt (rV m [25] []) 24 0 false false)) rfl
end Go.Proofs.YthlbcakjngcjbaaGreat
namespace Go.Proofs.YthlbcakjngcjbaaGreat
open Go Go.RowKit
open Go.Proofs.YthlbcakjngcjbaaGreat.Dict (St Bs Wd addD flagD cutD findD NameIn namedD)
open Go.Proofs.YthlbcakjngcjbaaGreat.Mem (Mm storeD fetchD commaD alignD writeD layD padN thereD)
set_option maxRecDepth 100000
def okN (d : List Wd) : Bool := d.all fun w => decide (w.name.length ≤ 31) && decide (0 ≤ w.fl) && decide (w.fl ≤ 7) && decide (namedD w.name = 0)
theorem okN_at {d : List Wd} (h : okN d = true) {w : Wd} (hw : w ∈ d) : Dict.OkW w ∧ w.name.length ≤ 31 := by
 have := List.all_eq_true.1 h w hw
 simp only [Bool.and_eq_true, decide_eq_true_eq] at this
 exact ⟨⟨this.2, this.1.1.2, this.1.2⟩, this.1.1.1⟩
theorem okN_in {d : List Wd} (h : okN d = true) : NameIn d := fun w hw => ⟨by have := (okN_at h hw).2; omega, (okN_at h hw).1.2⟩
theorem okN_inw {d : List Wd} (h : okN d = true) : Dict.InW d := fun w hw => by
 have h1 := (okN_at h hw).2
 have h2 := (okN_at h hw).1.2
 exact ⟨by omega, by omega, by omega⟩
theorem gd_up {m : Mm} {f : Nat → Int} {hh last : Int} {d : List Wd} (hm : m.b = cellsC f 256) (ho : m.old.length ≤ 100) (h0 : 0 ≤ hh ∧ hh ≤ 2048) (hd : okN d = true) (hl : d.length ≤ 200) : Gd (upV v0 m hh d last []) 900 := by
 have hb : m.b.length = 2048 := by rw [hm, cellsC_len]
 exact ⟨⟨by show m.b.length ≤ _; omega, by show m.old.length + 900 ≤ _; omega, h0.1, by show hh ≤ m.b.length; omega⟩, by show 16 ≤ m.b.length; omega, by show d.length ≤ _; omega, okN_in hd, Nat.zero_le _⟩
theorem held_up {m : Mm} {f : Nat → Int} {hh last : Int} {d : List Wd} (hm : m.b = cellsC f 256) (ho : m.old.length ≤ 100) (hd : okN d = true) (hl : d.length ≤ 200) : Held (upV v0 m hh d last []) := by
 have hb : m.b.length = 2048 := by rw [hm, cellsC_len]
 exact ⟨by show m.b.length ≤ _; omega, by show m.old.length ≤ _; omega, Nat.zero_le _, Nat.zero_le _, Nat.zero_le _, by show d.length ≤ _; omega, okN_inw hd, Nat.zero_le _, Nat.zero_le _, Nat.zero_le _, Nat.zero_le _⟩
theorem right_up {m : Mm} {f : Nat → Int} {hh last : Int} {d : List Wd} (hm : m.b = cellsC f 256) (hr : Mem.RightM m) (h0 : 1368 ≤ hh ∧ hh ≤ 2048) (hd : okN d = true) (hl : d.length ≤ 200) : RightV (upV v0 m hh d last []) := by
 have hb : m.b.length = 2048 := by rw [hm, cellsC_len]
 obtain ⟨⟨a1, a2, a3, a4, a5⟩, b, ⟨c1, c2, c3, c4⟩, e⟩ := vNew_right fits0
 exact ⟨⟨a1, hr, by show ((m.b.length : Nat) : Int) = 2048; omega, h0.1, h0.2⟩, b, ⟨⟨fun w hw => (okN_at hd hw).1, by show d.length ≤ _; omega⟩, by show (d.length : Int) ≤ 200; omega, c3, c4⟩, e⟩
def dX : List Wd := dictS 37 ++ [⟨[88], 1368, 0⟩]
def dY : List Wd := dX ++ [⟨[89], 1384, 0⟩]
def dM : List Wd := dY ++ [⟨[77], 1408, 0⟩]
def dV' : List Wd := dictS 37 ++ [⟨[86], 1368, 0⟩]
def dI : List Wd := (flagD dX 167 (setI (flAt dX 167))).1
def dF : List Wd := (cutD dM 168).1
def fX : Nat → Int := lay f0 171 [257, 0]
def fY : Nat → Int := lay fX 173 [258, 0, 7]
def fM : Nat → Int := lay fY 176 [260, 0, 0, 2, 0, 0]
theorem len_x : dX.length = 168 := by kernel_rfl
theorem len_y : dY.length = 169 := by kernel_rfl
theorem len_m : dM.length = 170 := by kernel_rfl
theorem len_sq : dSq.length = 168 := by kernel_rfl
theorem len_se : dSe.length = 168 := by kernel_rfl
theorem ok_x : okN dX = true := by kernel_rfl
theorem ok_y : okN dY = true := by kernel_rfl
theorem ok_m : okN dM = true := by kernel_rfl
theorem ok_sq : okN dSq = true := by kernel_rfl
theorem ok_se : okN dSe = true := by kernel_rfl
theorem ok_0 : okN (dictS 37) = true := by kernel_rfl
theorem named1 : namedD [88] = 0 ∧ namedD [89] = 0 ∧ namedD [77] = 0 ∧ namedD [86] = 0 := ⟨by kernel_rfl, by kernel_rfl, by kernel_rfl, by kernel_rfl⟩
theorem create_x : ∃ m, createdD ⟨v0, cp0⟩ [88] true [257, 0] = (⟨upV v0 m 1384 dX 1368 [], cp0⟩, 0) ∧ m.b = cellsC fX 256 ∧ m.old.length ≤ 10 := by
 obtain ⟨m, h1, h2, h3, _⟩ := word_fl v0_fl [88] 0 [257, 0] named1.1 (by omega) (by rw [show v0.dict = dictS 37 from rfl, dict_n]; decide) (by rw [show v0.dict = dictS 37 from rfl, dict_n]; decide) (by decide)
 refine ⟨m, ?_, h2, by have : m.old.length ≤ 0 + 2 := h3; omega⟩
 unfold createdD
 rw [if_neg (by decide), h1, if_neg (fun e => e rfl), if_pos rfl]
 rfl
theorem variable_v : ∃ m, createdD ⟨v0, cp0⟩ [86] true [257, 0, 0] = (⟨upV v0 m 1392 dV' 1368 [], cp0⟩, 0) := by
 obtain ⟨m, h1, h2, h3, _⟩ := word_fl v0_fl [86] 0 [257, 0, 0] named1.2.2.2 (by omega) (by rw [show v0.dict = dictS 37 from rfl, dict_n]; decide) (by rw [show v0.dict = dictS 37 from rfl, dict_n]; decide) (by decide)
 refine ⟨m, ?_⟩
 unfold createdD
 rw [if_neg (by decide), h1, if_neg (fun e => e rfl), if_pos rfl]
 rfl
theorem constant_y {m : Mm} (hm : m.b = cellsC fX 256) (ho : m.old.length ≤ 10) : ∃ m', createdD ⟨upV v0 m 1384 dX 1368 [], cp0⟩ [89] false [258, 0, 7] = (⟨upV v0 m' 1408 dY 1368 [], cp0⟩, 0) ∧ m'.b = cellsC fY 256 ∧ m'.old.length ≤ 20 := by
 obtain ⟨m', h1, h2, h3, _⟩ := word_fl (v := upV v0 m 1384 dX 1368 []) (f := fX) (h := 173) ⟨hm, rfl⟩ [89] 0 [258, 0, 7] named1.2.1 (by omega) (by show (dX.length : Int) < 200; rw [len_x]; decide) (by show dX.length < 1024; rw [len_x]; decide) (by decide)
 refine ⟨m', ?_, h2, by have : m'.old.length ≤ m.old.length + 3 := h3; omega⟩
 unfold createdD
 rw [if_neg (by show ¬ cp0.xt ≠ 0; decide), h1, if_neg (fun e => e rfl), if_neg (by decide)]
 rfl
theorem machine_m {m : Mm} (hm : m.b = cellsC fY 256) (ho : m.old.length ≤ 20) : ∃ m', machineD ⟨upV v0 m 1408 dY 1368 [], cp0⟩ [77] 2 = (⟨upV v0 m' 1456 dM 1368 [], cp0⟩, 0) ∧ m'.b = cellsC fM 256 ∧ m'.old.length ≤ 30 := by
 obtain ⟨m', h1, h2, h3, _⟩ := word_fl (v := upV v0 m 1408 dY 1368 []) (f := fY) (h := 176) ⟨hm, rfl⟩ [77] 0 [260, 0, 0, 2, 0, 0] named1.2.2.1 (by omega) (by show (dY.length : Int) < 200; rw [len_y]; decide) (by show dY.length < 1024; rw [len_y]; decide) (by decide)
 refine ⟨m', ?_, h2, by have : m'.old.length ≤ m.old.length + 6 := h3; omega⟩
 unfold machineD
 rw [if_neg (by show ¬ cp0.xt ≠ 0; decide), if_neg (by decide), show machL 2 = [260, 0, 0, 2, 0, 0] from rfl]
 unfold createdD
 rw [if_neg (by show ¬ cp0.xt ≠ 0; decide), h1, if_neg (fun e => e rfl), if_neg (by decide)]
 rfl
theorem find_y : findD dM [121] = (⟨⟨[89], 1384, 0⟩, 168, true⟩ : Dict.Fd) := by kernel_rfl
theorem forget_y (m : Mm) : forgetD ⟨upV v0 m 1456 dM 1368 [], cp0⟩ [121] = (⟨upV v0 m 1384 dF 0 [], cp0⟩, 0) := by
 unfold forgetD
 rw [if_neg (by show ¬ cp0.xt ≠ 0; decide), show (upV v0 m 1456 dM 1368 []).dict = dM from rfl, find_y, if_neg (by decide), if_neg (by show ¬ ((1384 : Int) < 1368 ∨ (1456 : Int) < 1384); decide)]
 rfl
theorem imm_x (m : Mm) : immD ⟨upV v0 m 1384 dX 1368 [], cp0⟩ = (⟨upV v0 m 1384 dI 1368 [], cp0⟩, 0) := by
 have hx : xtAt dX 167 = 1368 := by kernel_rfl
 unfold immD
 rw [if_neg (by show ¬ cp0.xt ≠ 0; decide), show (upV v0 m 1384 dX 1368 []).dict = dX from rfl, len_x, if_neg (by rw [show (168 - 1 : Nat) = 167 from rfl, hx]; decide)]
 rfl
theorem dI_at : dI[167]? = some ⟨[88], 1368, 1⟩ := by kernel_rfl
theorem len_i : dI.length = 168 := by kernel_rfl
theorem rightF_b {m : Mm} (hm : m.b = cellsC fB 256) (hr : Mem.RightM m) : RightF ⟨bV m, aC⟩ :=
 ⟨right_up hm hr (by omega) ok_sq (by rw [len_sq]; decide), fun e => absurd e (by show ¬ (1368 : Int) = 0; decide), fun _ => ⟨⟨of_decide_eq_true rfl, of_decide_eq_true rfl, by show (1368 : Int) ≤ 2048 - 8; decide⟩, ⟨of_decide_eq_true rfl, of_decide_eq_true rfl, of_decide_eq_true rfl, by show (167 : Int) < dSq.length; rw [len_sq]; decide⟩, ⟨fun c h => (by cases h), Nat.zero_le _⟩, of_decide_eq_true rfl⟩⟩
theorem not_rightF_zero : ¬ RightF ⟨vZero, cp0⟩ := fun h => not_right_zero h.1
end Go.Proofs.YthlbcakjngcjbaaGreat
