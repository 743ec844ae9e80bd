/- uA4, uA5, uA6. -/
import Derived.Test.YtkmlmboclegpcaaW1
import Derived.Test.YtkmlmboclegpcaaW2
import Derived.Test.YtkmlmboclegpcaaW3
import Derived.Test.YtkmlmboclegpcaaW4
import Derived.Test.YtkmlmboclegpcaauW5
import Derived.Test.YtkmlmboclegpcaauW6
set_option linter.unusedVariables false
set_option linter.unusedSimpArgs false
namespace Go.Proofs.Ytkmlmboclegpcaa
open Go Go.RowKit
set_option maxRecDepth 100000
def encTm (t : Tmr) : List AV := [.val (.int .i64 t.id), .val (.int .i64 t.due), .val (.int .i64 t.each), .val (.int .i64 t.rank), .val (.int .i64 t.hand), .val (.int .i64 t.arg)]
theorem encTm_closed (t : Tmr) : ∀ x, x ∈ encTm t → Closed x := closedL_cons (.val _) (closedL_cons (.val _) (closedL_cons (.val _) (closedL_cons (.val _) (closedL_cons (.val _) (closedL_cons (.val _) closedL_nil)))))
theorem encI_closed (n : Int) : ∀ x, x ∈ encI n → Closed x := closedL_cons (.val _) closedL_nil
def encTs (l : List Tmr) : AV := .sl 6 false (l.map encTm)
theorem closed_ts (l : List Tmr) : Closed (encTs l) := closed_map encTm_closed
def encWh (w : Wh) : List AV := .val (.int .i64 w.now) :: w.sl.map encTs
theorem encWh_closed (w : Wh) : ∀ x, x ∈ encWh w → Closed x := closedL_cons (.val _) (fun x hx => by
 obtain ⟨l, _, rfl⟩ := List.mem_map.1 hx
 exact closed_ts l)
theorem encWh_len {w : Wh} (h : w.sl.length = 1024) : (encWh w).length = 1025 := by
 show (w.sl.map encTs).length + 1 = 1025
 rw [List.length_map, h]
def cmpI (a b : Int) : Int := if a < b then -1 else if b < a then 1 else 0
def ordI (a b : Tmr) : Int := if cmpI a.due b.due ≠ 0 then cmpI a.due b.due else cmpI a.id b.id
theorem ordI_lt (a b : Tmr) : decide (ordI a b < 0) = ltT a b := by
 rw [Bool.eq_iff_iff, decide_eq_true_eq, ltT_iff]
 unfold ordI cmpI
 (repeat' split) <;> omega
theorem and_255 (n : Int) (h0 : 0 ≤ n) (h1 : n ≤ 9223372036854775807) : bitsV .and .i64 n 255 = n % 256 := by
 unfold bitsV
 simp only
 obtain ⟨m, rfl⟩ := Int.eq_ofNat_of_zero_le h0
 have e : (BitVec.ofInt IntKind.i64.bits (m : Int) &&& BitVec.ofInt IntKind.i64.bits 255).toNat = m % 256 := by
  rw [BitVec.toNat_and]
  have e1 : (BitVec.ofInt IntKind.i64.bits (m : Int)).toNat = m := by
   rw [BitVec.toNat_ofInt]
   show ((m : Int) % ((2 ^ 64 : Nat) : Int)).toNat = m
   omega
  have e2 : (BitVec.ofInt IntKind.i64.bits (255 : Int)).toNat = 2 ^ 8 - 1 := by decide
  rw [e1, e2, Nat.and_two_pow_sub_one_eq_mod]
 rw [e, IntKind.wrap_i64]
 omega
theorem shr_8 (n : Int) (r : Int) (h : 0 ≤ n) (hr : r = 0 ∨ r = 1 ∨ r = 2 ∨ r = 3) : shrV .i64 n (8 * r) = n / 256 ^ r.toNat := by
 unfold shrV
 rcases hr with rfl | rfl | rfl | rfl
 ·show n.fdiv (2 ^ 0) = n / 256 ^ 0
  rw [Int.fdiv_eq_ediv_of_nonneg _ (by omega)]
  simp
 ·show n.fdiv (2 ^ 8) = n / 256 ^ 1
  rw [Int.fdiv_eq_ediv_of_nonneg _ (by omega)]
  simp
 ·show n.fdiv (2 ^ 16) = n / 256 ^ 2
  rw [Int.fdiv_eq_ediv_of_nonneg _ (by omega)]
  simp
 ·show n.fdiv (2 ^ 24) = n / 256 ^ 3
  rw [Int.fdiv_eq_ediv_of_nonneg _ (by omega)]
  simp
attribute [local irreducible] Decidable.decide awp ARun regK toK
theorem nan_c (a : Int) : FnC Try.prog 74 [.val (.int .i64 a)] (.val (.bool false)) := by
 refine goF Try.func74 (closedL_cons (.val _) closedL_nil) (fun w0 st0 => ?_)
 dsimp only [frOf]
 (repeat' (first | refine goA ?_ | refine goB ?_ | ((fail_if_success refine ARun.plain rfl ?_); refine ARun.fork rfl rfl rfl (fun h => ?_) (fun h => ?_)) | refine awp_cond rfl (fun h => ?_) (fun h => ?_)))
 exact awp_ret ⟨_, ResL.cons (ResA.tmp (.val _)) .nil, congrArg (fun b => AV.val (.bool b)) (bne_int a).symm⟩
theorem cmp_c (a b : Int) : FnC Try.prog 70 [.val (.int .i64 a), .val (.int .i64 b)] (.val (.int .i64 (cmpI a b))) := by
 have c1 := nan_c a
 have c2 := nan_c b
 by_cases h : a < b
 ·have d : decide (a < b) = true := decide_eq_true h
  rw [show cmpI a b = -1 from if_pos h]
  refine goF Try.func70 (closedL_cons (.val _) (closedL_cons (.val _) closedL_nil)) (fun w0 st0 => ?_)
  dsimp only [frOf]
  (repeat' (first | refine goA ?_ | refine cX c1 ?_ | refine cX c2 ?_ | refine goB ?_ | fail))
  exact awp_ret ⟨_, ResL.cons (ResA.tmp (.val _)) .nil, rfl⟩
 have d : decide (a < b) = false := decide_eq_false h
 by_cases h2 : b < a
 ·have d2 : decide (b < a) = true := decide_eq_true h2
  rw [show cmpI a b = 1 by unfold cmpI; rw [if_neg h, if_pos h2]]
  refine goF Try.func70 (closedL_cons (.val _) (closedL_cons (.val _) closedL_nil)) (fun w0 st0 => ?_)
  dsimp only [frOf]
  (repeat' (first | refine goA ?_ | refine cX c1 ?_ | refine cX c2 ?_ | refine goB ?_ | fail))
  exact awp_ret ⟨_, ResL.cons (ResA.tmp (.val _)) .nil, rfl⟩
 ·have d2 : decide (b < a) = false := decide_eq_false h2
  rw [show cmpI a b = 0 by unfold cmpI; rw [if_neg h, if_neg h2]]
  refine goF Try.func70 (closedL_cons (.val _) (closedL_cons (.val _) closedL_nil)) (fun w0 st0 => ?_)
  dsimp only [frOf]
  (repeat' (first | refine goA ?_ | refine cX c1 ?_ | refine cX c2 ?_ | refine goB ?_ | fail))
  exact awp_ret ⟨_, ResL.cons (ResA.tmp (.val _)) .nil, rfl⟩
theorem or_c (a b : Int) : FnC Try.prog 69 [.sl 1 true [encI a, encI b]] (.val (.int .i64 (if a ≠ 0 then a else b))) := by
 have i0 : decide ((0 : Int) < 2) = true := decide_eq_true (by omega)
 have i1 : decide ((0 : Int) + 1 < 2) = true := decide_eq_true (by omega)
 have i2 : decide ((0 : Int) + 1 + 1 < 2) = false := decide_eq_false (by omega)
 have cl : Closed (.sl 1 true [encI a, encI b]) := .sl (own_closed_map (l := [a, b]) encI_closed)
 by_cases h : a = 0
 ·rw [if_neg (fun e => e h)]
  have d : (a != 0) = false := by simp [h]
  by_cases h2 : b = 0
  ·have d2 : (b != 0) = false := by simp [h2]
   refine goF Try.func69 (closedL_cons cl closedL_nil) (fun w0 st0 => ?_)
   dsimp only [frOf]
   (repeat' (first | refine goA ?_ | refine ARun.indexAddr rfl rfl (by omega) rfl rfl rfl rfl rfl rfl (guardF_spec rfl) ?_ | refine awp_loopN 3 ?_ | refine LoopN.step ?_ | refine goB ?_ | fail))
   subst h2
   exact awp_ret ⟨_, ResL.cons (ResA.tmp (.val _)) .nil, rfl⟩
  ·have d2 : (b != 0) = true := by simp [h2]
   refine goF Try.func69 (closedL_cons cl closedL_nil) (fun w0 st0 => ?_)
   dsimp only [frOf]
   (repeat' (first | refine goA ?_ | refine ARun.indexAddr rfl rfl (by omega) rfl rfl rfl rfl rfl rfl (guardF_spec rfl) ?_ | refine awp_loopN 3 ?_ | refine LoopN.step ?_ | refine goB ?_ | fail))
   exact awp_ret ⟨_, ResL.cons (ResA.tmp (.val _)) .nil, rfl⟩
 ·rw [if_pos h]
  have d : (a != 0) = true := by simp [h]
  refine goF Try.func69 (closedL_cons cl closedL_nil) (fun w0 st0 => ?_)
  dsimp only [frOf]
  (repeat' (first | refine goA ?_ | refine ARun.indexAddr rfl rfl (by omega) rfl rfl rfl rfl rfl rfl (guardF_spec rfl) ?_ | refine awp_loopN 3 ?_ | refine LoopN.step ?_ | refine goB ?_ | fail))
  exact awp_ret ⟨_, ResL.cons (ResA.tmp (.val _)) .nil, rfl⟩
theorem order_c (a b : Tmr) : FnC Try.prog 62 [.agg (encTm a), .agg (encTm b)] (.val (.int .i64 (ordI a b))) := by
 have c1 := cmp_c a.due b.due
 have c2 := cmp_c a.id b.id
 have c3 := or_c (cmpI a.due b.due) (cmpI a.id b.id)
 refine goF Try.func62 (closedL_cons (.agg (encTm_closed a)) (closedL_cons (.agg (encTm_closed b)) closedL_nil)) (fun w0 st0 => ?_)
 dsimp only [frOf]
 (repeat' (first | refine goA ?_ | refine cX c1 ?_ | refine cX c2 ?_ | refine cX c3 ?_ | refine goB ?_ | fail))
 exact awp_ret ⟨_, ResL.cons (ResA.tmp (.val _)) .nil, rfl⟩
theorem clip_c (l : List Tmr) : FnC Try.prog 71 [encTs l] (.sl 6 true (l.map encTm)) := by
 refine goF Try.func71 (closedL_cons (closed_ts l) closedL_nil) (fun w0 st0 => ?_)
 dsimp only [frOf]
 (repeat' (first | refine goA ?_ | refine ARun.sliceClip rfl rfl rfl rfl rfl rfl (by first | exact .inr rfl | exact .inl rfl | (right; simp; done)) rfl (guardF_spec rfl) ?_ | refine goB ?_ | fail))
 exact awp_ret ⟨_, ResL.cons (ResA.tmp (.closed _ (closed_map encTm_closed))) .nil, rfl⟩
theorem more_c (l : List Tmr) (t : Tmr) (hl : l.length ≤ 1000000) : FnC Try.prog 67 [encTs l, .agg (encTm t)] (encTs (l ++ [t])) := by
 have c1 := clip_c l
 have e : encTs (l ++ [t]) = .sl 6 false (l.map encTm ++ [encTm t]) := by unfold encTs; rw [List.map_append]; rfl
 rw [e]
 refine goF Try.func67 (closedL_cons (closed_ts l) (closedL_cons (.agg (encTm_closed t)) closedL_nil)) (fun w0 st0 => ?_)
 dsimp only [frOf]
 (repeat' (first | refine goA ?_ | refine cX c1 ?_ | refine appF rfl ?_ | refine goB ?_ | fail))
 exact awp_ret ⟨_, ResL.cons (ResA.tmp (.owned rfl rfl rfl (own_closed_app encTm_closed (encTm_closed t)))) .nil, rfl⟩
theorem digit_c (t r : Int) (h : 0 ≤ t ∧ t ≤ 9223372036854775807) (hr : r = 0 ∨ r = 1 ∨ r = 2 ∨ r = 3) : FnC Try.prog 60 [.val (.int .i64 t), .val (.int .i64 r)] (.val (.int .i64 (digI t r.toNat))) := by
 have e : digI t r.toNat = bitsV .and .i64 (shrV .i64 t (8 * r)) 255 := by
  rw [shr_8 t r h.1 hr]
  rcases hr with rfl | rfl | rfl | rfl
  ·show t % 256 = bitsV .and .i64 (t / 256 ^ 0) 255
   rw [and_255 _ (by simp; omega) (by simp; omega)]
   simp
  ·show t / 256 % 256 = bitsV .and .i64 (t / 256 ^ 1) 255
   rw [and_255 _ (by simp; omega) (by simp; omega)]
   simp
  ·show t / 65536 % 256 = bitsV .and .i64 (t / 256 ^ 2) 255
   rw [and_255 _ (by simp; omega) (by simp; omega)]
   simp
  ·show t / 16777216 % 256 = bitsV .and .i64 (t / 256 ^ 3) 255
   rw [and_255 _ (by simp; omega) (by simp; omega)]
   simp
 rw [e]
 refine goF Try.func60 (closedL_cons (.val _) (closedL_cons (.val _) closedL_nil)) (fun w0 st0 => ?_)
 dsimp only [frOf]
 (repeat' (first | refine goA ?_ | refine goB ?_ | fail))
 exact awp_ret ⟨_, ResL.cons (ResA.tmp (.val _)) .nil, rfl⟩
theorem round_c (n d : Int) (hn : 0 ≤ n) (hd : 0 ≤ d) : FnC Try.prog 66 [.val (.int .i64 n), .val (.int .i64 d)] (.val (.int .i64 (roundD n d : Nat))) := by
 have i0 : decide ((0 : Int) < 3) = true := decide_eq_true (by omega)
 have i1 : decide ((0 : Int) < 3 - 1) = true := decide_eq_true (by omega)
 have i2 : decide ((0 : Int) < 3 - 1 - 1) = true := decide_eq_true (by omega)
 have i3 : decide ((0 : Int) < 3 - 1 - 1 - 1) = false := decide_eq_false (by omega)
 have s3 : ∀ x : Int, 0 ≤ x → shrV .i64 x (8 * 3) = x / 16777216 := fun x hx => by rw [shr_8 x 3 hx (by omega)]; rfl
 have s2 : ∀ x : Int, 0 ≤ x → shrV .i64 x (8 * (3 - 1)) = x / 65536 := fun x hx => by rw [show (3 : Int) - 1 = 2 from rfl, shr_8 x 2 hx (by omega)]; rfl
 have s1 : ∀ x : Int, 0 ≤ x → shrV .i64 x (8 * (3 - 1 - 1)) = x / 256 := fun x hx => by rw [show (3 : Int) - 1 - 1 = 1 from rfl, shr_8 x 1 hx (by omega)]; rfl
 by_cases h3 : d / 16777216 = n / 16777216
 ·have d3 : (shrV .i64 d (8 * 3) != shrV .i64 n (8 * 3)) = false := by rw [s3 d hd, s3 n hn]; simp [h3]
  by_cases h2 : d / 65536 = n / 65536
  ·have d2 : (shrV .i64 d (8 * (3 - 1)) != shrV .i64 n (8 * (3 - 1))) = false := by rw [s2 d hd, s2 n hn]; simp [h2]
   by_cases h1 : d / 256 = n / 256
   ·have d1 : (shrV .i64 d (8 * (3 - 1 - 1)) != shrV .i64 n (8 * (3 - 1 - 1))) = false := by rw [s1 d hd, s1 n hn]; simp [h1]
    rw [show roundD n d = 0 by unfold roundD; rw [if_neg (by simp [h3]), if_neg (by simp [h2]), if_neg (by simp [h1])]]
    clear s1 s2 s3
    refine goF Try.func66 (closedL_cons (.val _) (closedL_cons (.val _) closedL_nil)) (fun w0 st0 => ?_)
    dsimp only [frOf]
    (repeat' (first | refine goA ?_ | refine awp_loopN 4 ?_ | refine LoopN.step ?_ | refine goB ?_ | fail))
    exact awp_ret ⟨_, ResL.cons (ResA.tmp (.val _)) .nil, rfl⟩
   ·have d1 : (shrV .i64 d (8 * (3 - 1 - 1)) != shrV .i64 n (8 * (3 - 1 - 1))) = true := by rw [s1 d hd, s1 n hn]; simp [h1]
    rw [show roundD n d = 1 by unfold roundD; rw [if_neg (by simp [h3]), if_neg (by simp [h2]), if_pos (by simp [h1])]]
    clear s1 s2 s3
    refine goF Try.func66 (closedL_cons (.val _) (closedL_cons (.val _) closedL_nil)) (fun w0 st0 => ?_)
    dsimp only [frOf]
    (repeat' (first | refine goA ?_ | refine awp_loopN 4 ?_ | refine LoopN.step ?_ | refine goB ?_ | fail))
    exact awp_ret ⟨_, ResL.cons (ResA.tmp (.val _)) .nil, rfl⟩
  ·have d2 : (shrV .i64 d (8 * (3 - 1)) != shrV .i64 n (8 * (3 - 1))) = true := by rw [s2 d hd, s2 n hn]; simp [h2]
   rw [show roundD n d = 2 by unfold roundD; rw [if_neg (by simp [h3]), if_pos (by simp [h2])]]
   clear s1 s2 s3
   refine goF Try.func66 (closedL_cons (.val _) (closedL_cons (.val _) closedL_nil)) (fun w0 st0 => ?_)
   dsimp only [frOf]
   (repeat' (first | refine goA ?_ | refine awp_loopN 4 ?_ | refine LoopN.step ?_ | refine goB ?_ | fail))
   exact awp_ret ⟨_, ResL.cons (ResA.tmp (.val _)) .nil, rfl⟩
 ·have d3 : (shrV .i64 d (8 * 3) != shrV .i64 n (8 * 3)) = true := by rw [s3 d hd, s3 n hn]; simp [h3]
  rw [show roundD n d = 3 by unfold roundD; rw [if_pos (by simp [h3])]]
  clear s1 s2 s3
  refine goF Try.func66 (closedL_cons (.val _) (closedL_cons (.val _) closedL_nil)) (fun w0 st0 => ?_)
  dsimp only [frOf]
  (repeat' (first | refine goA ?_ | refine awp_loopN 4 ?_ | refine LoopN.step ?_ | refine goB ?_ | fail))
  exact awp_ret ⟨_, ResL.cons (ResA.tmp (.val _)) .nil, rfl⟩
end Go.Proofs.Ytkmlmboclegpcaa
namespace Go.Proofs.Ytkmlmboclegpcaa
open Go Go.RowKit
set_option maxRecDepth 100000
theorem RL.allClosed {s : AS} {es : List AV} (h : ∀ x, x ∈ es → Closed x) : RL s es es := ⟨rfl, fun i x x' h1 h2 => by
 rw [h1] at h2
 obtain rfl := Option.some.inj h2
 exact .closed _ (h x (List.mem_of_getElem? h1))⟩
theorem zall : zBig28.all Value.oneCell' = true := by kernel_rfl
def zW : List AV := zBig28.map zv
theorem zW_len : zW.length = 1025 := by kernel_rfl
theorem zW_eq : zBig28.map zv = zW := rfl
structure OkW (w : Wh) : Prop where
 len : w.sl.length = 1024
 n0 : 0 ≤ w.now
 n1 : w.now ≤ 4611686018427387904
 sl : ∀ k, (w.at k).length ≤ 1000000
theorem OkW.e {w : Wh} (h : OkW w) : (encWh w).length = 1025 := encWh_len h.len
theorem slot_get {w : Wh} (h : w.sl.length = 1024) {k F : Nat} (hk : k < 1024) (hF : F = k + 1) : (encWh w)[F]? = some (encTs (w.at k)) := by
 subst hF
 show (w.sl.map encTs)[k]? = _
 rw [List.getElem?_map]
 unfold Wh.at
 rw [List.getElem?_eq_getElem (by omega)]
 rfl
theorem slot_set {w : Wh} (h : w.sl.length = 1024) {k F : Nat} (hk : k < 1024) (hF : F = k + 1) (l : List Tmr) : setF (encWh w) F [encTs l] = some (encWh ⟨w.now, w.sl.set k l⟩) := by
 subst hF
 rw [setF_one (by rw [encWh_len h]; omega)]
 unfold encWh
 rw [List.set_cons_succ, List.map_set]
theorem now_set {w : Wh} (h : w.sl.length = 1024) (n : Int) : setF (encWh w) 0 [.val (.int .i64 n)] = some (encWh ⟨n, w.sl⟩) := by
 rw [setF_one (by rw [encWh_len h]; omega)]
 rfl
attribute [local irreducible] Decidable.decide awp ARun regK toK zW zBig28
set_option maxHeartbeats 4000000 in
theorem put_c (w : Wh) (t : Tmr) (h : OkW w) (ht : 0 ≤ t.due ∧ t.due ≤ 9223372036854775807) : FnC Try.prog 53 [.agg (encWh w), .agg (encTm t)] (.agg (encWh (putD w t))) := by
 have hle := h.e
 have hr := round_le w.now t.due
 have c1 := round_c w.now t.due h.n0 ht.1
 have em : min ((roundD w.now t.due : Nat) : Int) 3 = (roundD w.now t.due : Nat) := by omega
 have c2 := digit_c t.due (min ((roundD w.now t.due : Nat) : Int) 3) ht (by omega)
 have hdg : 0 ≤ digI t.due (min ((roundD w.now t.due : Nat) : Int) 3).toNat ∧ digI t.due (min ((roundD w.now t.due : Nat) : Int) 3).toNat < 256 := by
  unfold digI
  split <;> omega
 have hpl : placeD w.now t.due = 256 * roundD w.now t.due + (digI t.due (min ((roundD w.now t.due : Nat) : Int) 3).toNat).toNat := by
  rw [em]
  rfl
 have hF : ∀ F, F = 0 + 1 + (min ((roundD w.now t.due : Nat) : Int) 3).toNat * 256 + (digI t.due (min ((roundD w.now t.due : Nat) : Int) 3).toNat).toNat * 1 → F = placeD w.now t.due + 1 := fun F e => by
  rw [e, hpl, em]
  omega
 have g1 := slot_get h.len (place_lt w.now t.due) (hF _ rfl)
 have g2 := slot_set h.len (place_lt w.now t.due) (hF _ rfl) (w.at (placeD w.now t.due) ++ [t])
 have c3 := more_c (w.at (placeD w.now t.due)) t (h.sl _)
 have hl2 : (encWh (putD w t)).length = 1025 := encWh_len (by show (w.sl.set _ _).length = _; rw [List.length_set]; exact h.len)
 have hcl := encWh_closed (putD w t)
 have eW : encWh ⟨w.now, w.sl.set (placeD w.now t.due) (w.at (placeD w.now t.due) ++ [t])⟩ = encWh (putD w t) := rfl
 rw [eW] at g2
 clear eW
 generalize encWh (putD w t) = W' at *
 clear hF hpl
 refine goF Try.func53 (closedL_cons (.agg (encWh_closed w)) (closedL_cons (.agg (encTm_closed t)) closedL_nil)) (fun w0 st0 => ?_)
 dsimp only [frOf]
 (repeat' (first | refine storeW (t := 28) rfl rfl rfl rfl rfl hl2 zW_len rfl rfl ?_ | refine loadW (t := 28) rfl rfl rfl rfl rfl hl2 rfl rfl ?_ | refine boxW (t := 28) rfl hle rfl rfl rfl ?_ | refine allocW (t := 28) rfl zall zW_eq zW_len rfl rfl rfl ?_ | refine goA ?_ | refine ARun.nilCheckP rfl rfl (guardF_spec rfl) ?_ | refine cX c1 ?_ | refine cX c2 ?_ | refine cX c3 ?_ | refine ARun.min2 rfl rfl rfl (guardF_spec rfl) ?_ | refine ARun.indexArr rfl rfl (by omega) (by omega) rfl rfl rfl rfl (guardF_spec rfl) ?_ | refine loadC rfl rfl rfl rfl rfl g1 rfl rfl ?_ | refine storeC rfl rfl rfl rfl rfl rfl g2 rfl ?_ | refine goB ?_ | fail))
 exact awp_ret ⟨_, ResL.cons (ResA.agg rfl rfl rfl rfl rfl rfl (loadCs_all hl2) (RL.allClosed hcl)) .nil, rfl⟩
end Go.Proofs.Ytkmlmboclegpcaa
namespace Go.Proofs.Ytkmlmboclegpcaa
open Go Go.RowKit
set_option maxRecDepth 100000
theorem rows_closed (l : List Tmr) : ∀ el x, el ∈ l.map encTm → x ∈ el → Closed x := own_closed_map encTm_closed
theorem map_at {l : List Tmr} {k : Nat} {x : Tmr} (h : l[k]? = some x) : (l.map encTm)[k]? = some (encTm x) := by rw [List.getElem?_map, h]; rfl
theorem map_set' {l l' : List Tmr} {k : Nat} {x : Tmr} (h : l.set k x = l') : (l.map encTm).set k (encTm x) = l'.map encTm := by rw [← List.map_set, h]
theorem mid_get (A B : List Tmr) (x : Tmr) {k : Nat} (h : k = A.length) : (A ++ x :: B)[k]? = some x := by
 subst h
 rw [List.getElem?_append_right (Nat.le_refl _), Nat.sub_self]
 rfl
theorem mid_set (A B : List Tmr) (x y : Tmr) {k : Nat} (h : k = A.length) : (A ++ x :: B).set k y = A ++ y :: B := by
 subst h
 rw [List.set_append_right _ _ (Nat.le_refl _), Nat.sub_self]
 rfl
theorem sortT_one (M : List Tmr) : sortT (M.take 1) = M.take 1 := by
 cases M with
 | nil => rfl
 | cons x M => rfl
theorem snoc_or (P : List Tmr) : P = [] ∨ ∃ P' y, P = P' ++ [y] := by
 rcases List.eq_nil_or_concat P with h | ⟨P', y, h⟩
 ·exact .inl h
 ·exact .inr ⟨P', y, by rw [h, List.concat_eq_append]⟩
attribute [local irreducible] Decidable.decide awp ARun regK toK
set_option maxHeartbeats 8000000 in
theorem ins_l (A M R : List Tmr) (n : Nat) (hn : n = A.length + (M.length + R.length)) (hb : n ≤ 1000000) : FnL Try.prog 72 [.own 1000 0 0 n, .val (.int .i64 (A.length : Nat)), .val (.int .i64 ((A.length + M.length : Nat) : Int)), .val (.func (.func 62) #[] #[])] [(6, (A ++ (M ++ R)).map encTm)] (.tup []) [(A ++ (sortT M ++ R)).map encTm] := by
 refine FnL.of_awp (T := tt) (ok := tok) Try.func72 (by kernel_rfl) rfl (by kernel_rfl) (by kernel_rfl) (fun w0 st0 lent c0 => ?_)
 dsimp only [frOf, hpFrom, List.length_cons, List.length_nil]
 (repeat' (first | refine goA ?_ | refine awp_skip ?_ | refine goB ?_ | fail))
 refine awp_loopT (T := Nat × List Tmr × Nat) (fun t => ⟨[(0, .own 1000 0 0 n), (1, .val (.int .i64 (A.length : Nat))), (2, .val (.int .i64 ((A.length + M.length : Nat) : Int))), (3, .val (.func (.func 62) #[] #[])), (8, .val (.int .i64 ((A.length + t.1 : Nat) : Int)))], [(1000, some ⟨0, 6, t.2.1.map encTm⟩)], t.2.2⟩) (fun t => 1 ≤ t.1 ∧ t.2.1 = A ++ (sortT (M.take t.1) ++ (M.drop t.1 ++ R))) (fun t => M.length + 1 - t.1) (1, A ++ (M ++ R), _) ⟨Nat.le_refl _, by rw [sortT_one, ← List.append_assoc (M.take 1), List.take_append_drop]⟩ ⟨⟨rfl, rfl, rfl, rfl, rfl, trivial⟩, ⟨rfl, trivial⟩, Nat.le_refl _⟩ (fun t ht => ?_)
 obtain ⟨j, L, gc⟩ := t
 dsimp only at ht ⊢
 obtain ⟨hj, hL⟩ := ht
 by_cases hlt : j < M.length
 ·have d1 : decide (((A.length + j : Nat) : Int) < ((A.length + M.length : Nat) : Int)) = true := decide_eq_true (by omega)
  obtain ⟨x, hx⟩ : ∃ x, M[j]? = some x := ⟨_, List.getElem?_eq_getElem hlt⟩
  have hd : M.drop j = x :: M.drop (j + 1) := by
   rw [List.drop_eq_getElem_cons hlt]
   rw [List.getElem?_eq_getElem hlt] at hx
   rw [Option.some.inj hx]
  have hS : (sortT (M.take j)).length = j := by rw [sortT_len, List.length_take]; omega
  have hso := sortT_sorted (M.take j)
  have hnx : sortT (M.take (j + 1)) = insT x (sortT (M.take j)) := by rw [take_succ' hx, sortT_snoc]
  generalize sortT (M.take j) = S0 at *
  have hML : (M.drop (j + 1)).length = M.length - (j + 1) := List.length_drop
  (repeat' (first | refine goA ?_ | refine goB ?_ | fail))
  refine awp_loopT (T := List Tmr × List Tmr × List Tmr × Int × Nat) (fun t => ⟨[(0, .own 1000 0 0 n), (1, .val (.int .i64 (A.length : Nat))), (2, .val (.int .i64 ((A.length + M.length : Nat) : Int))), (3, .val (.func (.func 62) #[] #[])), (8, .val (.int .i64 ((A.length + j : Nat) : Int))), (9, .val (.int .i64 t.2.2.2.1))], [(1000, some ⟨0, 6, t.2.2.1.map encTm⟩)], t.2.2.2.2⟩) (fun t => t.1 ++ t.2.1 = S0 ∧ (∀ q, q ∈ t.2.1 → ltT x q = true) ∧ t.2.2.1 = A ++ (t.1 ++ x :: (t.2.1 ++ (M.drop (j + 1) ++ R))) ∧ t.2.2.2.1 = ((A.length + t.1.length : Nat) : Int)) (fun t => t.1.length) (S0, [], L, _, _) ⟨List.append_nil _, (fun q hq => by cases hq), by rw [hL, hd]; simp, by dsimp only; rw [hS]⟩ ⟨⟨rfl, rfl, rfl, rfl, rfl, rfl, trivial⟩, ⟨rfl, trivial⟩, Nat.le_refl _⟩ (fun t ht => ?_)
  obtain ⟨P, Q, L2, z, gc2⟩ := t
  dsimp only at ht ⊢
  obtain ⟨e1, e2, e3, e4⟩ := ht
  have hlen : P.length + Q.length = j := by rw [← hS, ← e1, List.length_append]
  rcases snoc_or P with rfl | ⟨P', y, rfl⟩
  ·have d2 : decide (((A.length : Nat) : Int) < z) = false := decide_eq_false (by rw [e4]; simp)
   (repeat' (first | refine goA ?_ | refine goB ?_ | fail))
   refine ⟨(j + 1, L2, _), ⟨⟨rfl, rfl, rfl, rfl, rfl, trivial⟩, ⟨rfl, trivial⟩, Nat.le_refl _⟩, ⟨by dsimp only; omega, ?_⟩, (by dsimp only; omega)⟩
   dsimp only
   rw [e3, hnx, ← e1, insT_at (p := []) (by rw [e1]; exact hso) (fun y hy => by cases hy) e2]
   simp
  ·have hz : z = ((A.length + (P'.length + 1) : Nat) : Int) := by rw [e4, List.length_append]; rfl
   have d2 : decide (((A.length : Nat) : Int) < z) = true := decide_eq_true (by omega)
   have eL : L2 = (A ++ P') ++ y :: (x :: (Q ++ (M.drop (j + 1) ++ R))) := by rw [e3]; simp
   have eL' : L2 = (A ++ (P' ++ [y])) ++ x :: (Q ++ (M.drop (j + 1) ++ R)) := by rw [e3]; simp
   rw [List.length_append] at hlen
   have hlen' : P'.length + 1 + Q.length = j := hlen
   have gx : (L2.map encTm)[0 + z.toNat]? = some (encTm x) := map_at (by rw [eL']; exact mid_get _ _ _ (by rw [hz]; simp only [List.length_append, List.length_cons, List.length_nil]; omega))
   have gy : (L2.map encTm)[0 + (z - 1).toNat]? = some (encTm y) := map_at (by rw [eL]; exact mid_get _ _ _ (by rw [hz, List.length_append]; omega))
   have hLl : (L2.map encTm).length = n := by rw [List.length_map, e3]; simp only [List.length_append, List.length_cons, List.length_nil, hML]; omega
   have hk : 0 + z.toNat < (L2.map encTm).length := by rw [hLl]; omega
   have c1 := order_c x y
   have d3 := ordI_lt x y
   cases hb : ltT x y with
   | false =>
    rw [hb] at d3
    (repeat' (first | refine goA ?_ | refine cX c1 ?_ | refine ARun.indexAddr_own rfl rfl rfl rfl (by omega) (by omega) rfl rfl rfl rfl rfl (guardF_spec rfl) ?_ | refine ARun.loadAgg rfl rfl rfl (by first | exact gx | exact gy) rfl rfl rfl rfl (guardF_spec rfl) ?_ | refine goB ?_ | fail))
    refine ⟨(j + 1, L2, _), ⟨⟨rfl, rfl, rfl, rfl, rfl, trivial⟩, ⟨rfl, trivial⟩, Nat.le_refl _⟩, ⟨by dsimp only; omega, ?_⟩, (by dsimp only; omega)⟩
    dsimp only
    rw [e3, hnx, ← e1, insT_at (by rw [e1]; exact hso) (fun w hw => by rw [List.getLast?_append, List.getLast?_singleton] at hw; simp at hw; rw [← hw]; exact hb) e2]
    simp
   | true =>
    rw [hb] at d3
    have s1 : (L2.map encTm).set (0 + z.toNat) (encTm y) = ((A ++ P') ++ y :: (y :: (Q ++ (M.drop (j + 1) ++ R)))).map encTm := map_set' (by rw [eL', mid_set _ _ _ _ (by rw [hz]; simp only [List.length_append, List.length_cons, List.length_nil]; omega)]; simp)
    have s2 : (((A ++ P') ++ y :: (y :: (Q ++ (M.drop (j + 1) ++ R)))).map encTm).set (0 + (z - 1).toNat) (encTm x) = ((A ++ P') ++ x :: (y :: (Q ++ (M.drop (j + 1) ++ R)))).map encTm := map_set' (mid_set _ _ _ _ (by rw [hz, List.length_append]; omega))
    have hk' : 0 + (z - 1).toNat < (((A ++ P') ++ y :: (y :: (Q ++ (M.drop (j + 1) ++ R)))).map encTm).length := by rw [List.length_map]; simp only [List.length_append, List.length_cons]; omega
    (repeat' (first | refine goA ?_ | refine cX c1 ?_ | refine ARun.indexAddr_own rfl rfl rfl rfl (by omega) (by omega) rfl rfl rfl rfl rfl (guardF_spec rfl) ?_ | refine ARun.loadAgg rfl rfl rfl (by first | exact gx | exact gy) rfl rfl rfl rfl (guardF_spec rfl) ?_ | refine ARun.storeEl rfl rfl rfl hk (map_len (fun _ => rfl)) rfl rfl rfl rfl rfl s1 (guardF_spec rfl) ?_ | refine ARun.storeEl rfl rfl rfl hk' (map_len (fun _ => rfl)) rfl rfl rfl rfl rfl s2 (guardF_spec rfl) ?_ | refine goB ?_ | fail))
    refine ⟨(P', y :: Q, (A ++ P') ++ x :: (y :: (Q ++ (M.drop (j + 1) ++ R))), _, _), ⟨⟨rfl, rfl, rfl, rfl, rfl, rfl, trivial⟩, ⟨rfl, trivial⟩, Nat.le_refl _⟩, ⟨by dsimp only; rw [← e1]; simp, fun q hq => ?_, by simp, by dsimp only; omega⟩, by dsimp only; rw [List.length_append]; exact Nat.lt_succ_self _⟩
    rcases List.mem_cons.1 hq with rfl | hq
    ·exact hb
    ·exact e2 q hq
 ·have d1 : decide (((A.length + j : Nat) : Int) < ((A.length + M.length : Nat) : Int)) = false := decide_eq_false (by omega)
  have hfin : L = A ++ (sortT M ++ R) := by rw [hL, List.take_of_length_le (by omega), List.drop_of_length_le (by omega), List.nil_append]
  rw [← hfin]
  (repeat' (first | refine goA ?_ | refine awp_skip ?_ | refine goB ?_ | fail))
  exact ⟨_, ResL.nil, rfl, ⟨_, rfl, RlR.closed (rows_closed L)⟩, trivial⟩
end Go.Proofs.Ytkmlmboclegpcaa
