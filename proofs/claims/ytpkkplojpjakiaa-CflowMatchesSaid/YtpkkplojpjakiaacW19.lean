/- cX25, cX26, cX27, cX28, cX29. -/
import Derived.Test.YtpkkplojpjakiaaW1
import Derived.Test.YtpkkplojpjakiaaW2
import Derived.Test.YtpkkplojpjakiaaW3
import Derived.Test.YtpkkplojpjakiaaW4
import Derived.Test.YtpkkplojpjakiaacW5
import Derived.Test.YtpkkplojpjakiaacW6
import Derived.Test.YtpkkplojpjakiaacW7
import Derived.Test.YtpkkplojpjakiaacW8
import Derived.Test.YtpkkplojpjakiaacW9
import Derived.Test.YtpkkplojpjakiaacW10
import Derived.Test.YtpkkplojpjakiaacW11
import Derived.Test.YtpkkplojpjakiaacW12
import Derived.Test.YtpkkplojpjakiaacW13
import Derived.Test.YtpkkplojpjakiaacW14
import Derived.Test.YtpkkplojpjakiaacW15
import Derived.Test.YtpkkplojpjakiaacW16
import Derived.Test.YtpkkplojpjakiaacW17
import Derived.Test.YtpkkplojpjakiaacW18
/- cflow: CflowStays returns true. -/
namespace Go.Proofs.Ytpkkplojpjakiaa
set_option linter.unusedVariables false
set_option linter.unusedSimpArgs false
open Go Go.RowKit
open Go.Proofs.Ytpkkplojpjakiaa.Dict (St Bs bs_eq Wd encW encWs closed_ws)
open Go.Proofs.Ytpkkplojpjakiaa.Mem (Mm encM encBs closed_bs encP encP_closed closed_m)
open Go.Proofs.Ytpkkplojpjakiaa.Stk (encS closed_s)
set_option maxRecDepth 100000
structure Sti where
  v : V
  l : List Cfr
  k : Int
  s : Bs
def encSti (w : Sti) : List AV := [.val (.int .i64 w.v.cf.mem), .val (.int .i64 w.v.cf.data), .val (.int .i64 w.v.cf.ret), .val (.int .i64 w.v.cf.words), .val (.int .i64 w.v.cf.out), encBs w.v.m.b, .sl 2 false (w.v.m.old.map encP), .val (.int .i64 w.v.here), encS w.v.d, encS w.v.r, encLFr w.v.f, encWs w.v.dict, .val (.int .i64 w.v.last), encBs w.v.out, encBs w.v.pb, .val (.bool w.v.po), encLRq w.v.req, .val (.int .i64 w.v.free), .val (.int .i64 w.v.next), .val (.int .i64 w.v.arg), .val (.int .i64 w.v.self), .val (.int .i64 w.v.now), encLHn w.v.hand, encLCf w.l, .val (.int .u8 w.k), St w.s]
theorem encSti_closed (w : Sti) : ∀ x, x ∈ encSti w → Closed x :=
  closedL_cons (.val _) (closedL_cons (.val _) (closedL_cons (.val _) (closedL_cons (.val _) (closedL_cons (.val _) (closedL_cons (closed_bs _) (closedL_cons (closed_map encP_closed) (closedL_cons (.val _) (closedL_cons (closed_s _) (closedL_cons (closed_s _) (closedL_cons (closedFr _) (closedL_cons (closed_ws _) (closedL_cons (.val _) (closedL_cons (closed_bs _) (closedL_cons (closed_bs _) (closedL_cons (.val _) (closedL_cons (closedRq _) (closedL_cons (.val _) (closedL_cons (.val _) (closedL_cons (.val _) (closedL_cons (.val _) (closedL_cons (.val _) (closedL_cons (closedHn _) (closedL_cons (closedLCf _) (closedL_cons (.val _) (closedL_cons (.val _) closedL_nil)))))))))))))))))))))))))
attribute [local irreducible] Decidable.decide awp ARun regK toK
set_option maxHeartbeats 16000000 in
theorem stays13_c (w : Sti) (hi : FlIn w.v.dict) (hk : 0 ≤ w.k ∧ w.k ≤ 255) (hll : w.l.length ≤ 9223372036854775807) : FnC Try.prog 5 [.agg (encSti w)] (.val (.bool true)) := by
  have c0 := shown13_c
  have cm := may_c w.v hi
  have ca := ref_cright_big w.l hll
  by_cases hm : FewV w.v ∧ RightV w.v
  case neg =>
    rw [pD_no hm] at cm
    refine FnC.of_awp (T := tt) (ok := tok) Try.func5 (by kernel_rfl) rfl (by kernel_rfl) (closedL_cons (.agg (encSti_closed w)) closedL_nil) (fun w0 st0 => ?_)
    dsimp only [frOf]
    (repeat' (first | refine awp_seq ?_ | refine awp_block ?_ | refine awp_rg hmix ?_ | refine ARun.o rfl ?_ | refine callX (c0) rfl rfl rfl rfl ?_ | refine callX (cm) rfl rfl rfl rfl ?_ | ((first | refine ARun.f ?_ | refine awp_skip ?_ | refine awp_exit ?_); dsimp only [thenA, blockA, AS.bump, List.length_cons, List.length_nil, reduceIte, Nat.reduceEqDiff]) | refine awp_cT rfl ?_ | refine awp_cF rfl ?_ | ((fail_if_success refine ARun.plain rfl ?_); first | refine ARun.kT rfl rfl rfl ?_ | refine ARun.kF rfl rfl rfl ?_)))
    exact awp_ret ⟨_, ResL.cons (ResA.tmp (.val _)) .nil, rfl⟩
  rw [pD_yes hm] at cm
  by_cases ha : RightC w.l
  case neg =>
    rw [pD_no ha] at ca
    refine FnC.of_awp (T := tt) (ok := tok) Try.func5 (by kernel_rfl) rfl (by kernel_rfl) (closedL_cons (.agg (encSti_closed w)) closedL_nil) (fun w0 st0 => ?_)
    dsimp only [frOf]
    (repeat' (first | refine awp_seq ?_ | refine awp_block ?_ | refine awp_rg hmix ?_ | refine ARun.o rfl ?_ | refine callX (c0) rfl rfl rfl rfl ?_ | refine callX (cm) rfl rfl rfl rfl ?_ | refine callX (ca) rfl rfl rfl rfl ?_ | ((first | refine ARun.f ?_ | refine awp_skip ?_ | refine awp_exit ?_); dsimp only [thenA, blockA, AS.bump, List.length_cons, List.length_nil, reduceIte, Nat.reduceEqDiff]) | refine awp_cT rfl ?_ | refine awp_cF rfl ?_ | ((fail_if_success refine ARun.plain rfl ?_); first | refine ARun.kT rfl rfl rfl ?_ | refine ARun.kF rfl rfl rfl ?_)))
    exact awp_ret ⟨_, ResL.cons (ResA.tmp (.val _)) .nil, rfl⟩
  rw [pD_yes ha] at ca
  have hz : (ByteArray.mk w.s.toArray).size = w.s.length := rfl
  by_cases hs : 200 < w.s.length
  · have d : decide ((200 : Int) < ((ByteArray.mk w.s.toArray).size : Nat)) = true := decide_eq_true (by omega)
    refine FnC.of_awp (T := tt) (ok := tok) Try.func5 (by kernel_rfl) rfl (by kernel_rfl) (closedL_cons (.agg (encSti_closed w)) closedL_nil) (fun w0 st0 => ?_)
    dsimp only [frOf]
    (repeat' (first | refine awp_seq ?_ | refine awp_block ?_ | refine awp_rg hmix ?_ | refine ARun.o rfl ?_ | refine callX (c0) rfl rfl rfl rfl ?_ | refine callX (cm) rfl rfl rfl rfl ?_ | refine callX (ca) rfl rfl rfl rfl ?_ | ((first | refine ARun.f ?_ | refine awp_skip ?_ | refine awp_exit ?_); dsimp only [thenA, blockA, AS.bump, List.length_cons, List.length_nil, reduceIte, Nat.reduceEqDiff]) | refine awp_cT rfl ?_ | refine awp_cF rfl ?_ | ((fail_if_success refine ARun.plain rfl ?_); first | refine ARun.kT rfl rfl rfl ?_ | refine ARun.kF rfl rfl rfl ?_)))
    exact awp_ret ⟨_, ResL.cons (ResA.tmp (.val _)) .nil, rfl⟩
  have d : decide ((200 : Int) < ((ByteArray.mk w.s.toArray).size : Nat)) = false := decide_eq_false (by omega)
  have hv := hm.1.held hi
  have ho : w.v.m.old.length + 1000 ≤ 1000000 := by have := hm.1.f1.2.1; omega
  have hr := hm.2.rng
  have k8 := ref_cnames_c
  have hnm : nmC.length = 13 := rfl
  have hnm2 : (nmC.map encN).length = 13 := by rw [List.length_map]; exact hnm
  have e0 : w.k.tmod (((nmC.map encN).length : Nat) : Int) = w.k % 13 := by rw [hnm2, Int.tmod_eq_emod_of_nonneg hk.1]; rfl
  have hj : (0 : Int) ≤ w.k.tmod (((nmC.map encN).length : Nat) : Int) := by rw [e0]; omega
  obtain ⟨nm, hnmk⟩ : ∃ nm, nmC[(w.k % 13).toNat]? = some nm := ⟨_, List.getElem?_eq_getElem (by rw [hnm]; omega)⟩
  have hp : (nmC.map encN)[(w.k.tmod (((nmC.map encN).length : Nat) : Int)).toNat]? = some (encN nm) := by rw [e0, List.getElem?_map, hnmk]; rfl
  clear hnmk e0
  have b1 : FnC Try.prog 25 [.agg (encV w.v), encLCf w.l, St nm] (encVLE (brN w.v w.l nm)) := bracket_c w.v w.l nm ha.2 ha.lv (may_okk hm _ (by omega))
  have b2 := str_c w.v w.s (may_okk hm _ (by omega)) (by omega)
  have lx := lays_brN (name := nm) hr ha.lv
  have ly := lays_str w.s hr
  have hx := lx.held hv (by omega)
  have hy := ly.held hv (by omega)
  have rx := ref_right_c _ hx
  rw [pD_yes (lx.right hm.2)] at rx
  have ry := ref_right_c _ hy
  rw [pD_yes (ly.right hm.2)] at ry
  have hm1 := right_brN (name := nm) (v := w.v) ha
  have rm := ref_cright_c (brN w.v w.l nm).2.1 (by have := hm1.2; omega)
  rw [pD_yes hm1] at rm
  have sv := ref_same_c _ _ hv hv
  rw [pD_yes rfl] at sv
  have sl := ref_cfsame_c _ _ (by have := ha.2; omega) ha.lv6 ha.lv6
  rw [pD_yes rfl] at sl
  have cd1 : (brN w.v w.l nm).2.2 ≠ 0 → (brN w.v w.l nm).1 = w.v ∧ (brN w.v w.l nm).2.1 = w.l := brN_code
  have cd2 : (outD (strK w.v w.s) w.v).2 ≠ 0 → (outD (strK w.v w.s) w.v).1 = w.v := outD_code
  have ex := lx.back
  have ey := ly.back
  have g1 : decide (w.v.here ≤ (brN w.v w.l nm).1.here) = true := decide_eq_true lx.h0
  have g2 : decide (w.v.here ≤ (outD (strK w.v w.s) w.v).1.here) = true := decide_eq_true ly.h0
  unfold encVLE at b1
  unfold encVE at b2
  clear hx hy lx ly hr ho hm hm1 hz hs hll ha hi hv
  generalize brN w.v w.l nm = p at *
  generalize outD (strK w.v w.s) w.v = q at *
  generalize nmC.map encN = nn at *
  have sx : FnC Try.prog 24 [.agg (encV (withMH p.1 w.v.m w.v.here)), .agg (encV w.v)] (.val (.bool true)) := by rw [ex]; exact sv
  have sy : FnC Try.prog 24 [.agg (encV (withMH q.1 w.v.m w.v.here)), .agg (encV w.v)] (.val (.bool true)) := by rw [ey]; exact sv
  clear ex ey
  have nt : (!true) = false := rfl
  by_cases z1 : p.2.2 = 0
  · have d1 : (p.2.2 != 0) = false := by simp [z1]
    clear cd1
    by_cases z2 : q.2 = 0
    · have d2 : (q.2 != 0) = false := by simp [z2]
      clear cd2
      refine FnC.of_awp (T := tt) (ok := tok) Try.func5 (by kernel_rfl) rfl (by kernel_rfl) (closedL_cons (.agg (encSti_closed w)) closedL_nil) (fun w0 st0 => ?_)
      dsimp only [frOf]
      (repeat' (first | refine awp_seq ?_ | refine awp_block ?_ | refine awp_rg hmix ?_ | refine ARun.o rfl ?_ | refine callX (c0) rfl rfl rfl rfl ?_ | refine callX (cm) rfl rfl rfl rfl ?_ | refine callX (ca) rfl rfl rfl rfl ?_ | refine callX (k8) rfl rfl rfl rfl ?_ | refine ARun.indexAddr rfl rfl (by first | omega | assumption) (by with_reducible assumption) rfl rfl rfl rfl rfl (guardF_spec rfl) ?_ | refine callX (b1) rfl rfl rfl rfl ?_ | refine callX (b2) rfl rfl rfl rfl ?_ | refine callX (rx) rfl rfl rfl rfl ?_ | refine callX (ry) rfl rfl rfl rfl ?_ | refine callX (rm) rfl rfl rfl rfl ?_ | refine callX (sx) rfl rfl rfl rfl ?_ | refine callX (sy) rfl rfl rfl rfl ?_ | ((first | refine ARun.f ?_ | refine awp_skip ?_ | refine awp_exit ?_); dsimp only [thenA, blockA, AS.bump, List.length_cons, List.length_nil, reduceIte, Nat.reduceEqDiff]) | refine awp_cT rfl ?_ | refine awp_cF rfl ?_ | ((fail_if_success refine ARun.plain rfl ?_); first | refine ARun.kT rfl rfl rfl ?_ | refine ARun.kF rfl rfl rfl ?_)))
      (refine awp_ret ⟨_, ResL.cons (ResA.tmp (.val _)) .nil, congrArg (fun b => AV.val (.bool b)) ?_⟩; first | rfl | assumption | (symm; assumption))
    · have d2 : (q.2 != 0) = true := by simp [z2]
      have cc := cd2 z2
      clear cd2 sy
      obtain ⟨y, qb⟩ := q
      dsimp only at cc
      subst cc
      have sy : FnC Try.prog 24 [.agg (encV (withMH w.v w.v.m w.v.here)), .agg (encV w.v)] (.val (.bool true)) := sv
      refine FnC.of_awp (T := tt) (ok := tok) Try.func5 (by kernel_rfl) rfl (by kernel_rfl) (closedL_cons (.agg (encSti_closed w)) closedL_nil) (fun w0 st0 => ?_)
      dsimp only [frOf]
      (repeat' (first | refine awp_seq ?_ | refine awp_block ?_ | refine awp_rg hmix ?_ | refine ARun.o rfl ?_ | refine callX (c0) rfl rfl rfl rfl ?_ | refine callX (cm) rfl rfl rfl rfl ?_ | refine callX (ca) rfl rfl rfl rfl ?_ | refine callX (k8) rfl rfl rfl rfl ?_ | refine ARun.indexAddr rfl rfl (by first | omega | assumption) (by with_reducible assumption) rfl rfl rfl rfl rfl (guardF_spec rfl) ?_ | refine callX (b1) rfl rfl rfl rfl ?_ | refine callX (b2) rfl rfl rfl rfl ?_ | refine callX (rx) rfl rfl rfl rfl ?_ | refine callX (ry) rfl rfl rfl rfl ?_ | refine callX (rm) rfl rfl rfl rfl ?_ | refine callX (sx) rfl rfl rfl rfl ?_ | refine callX (sv) rfl rfl rfl rfl ?_ | ((first | refine ARun.f ?_ | refine awp_skip ?_ | refine awp_exit ?_); dsimp only [thenA, blockA, AS.bump, List.length_cons, List.length_nil, reduceIte, Nat.reduceEqDiff]) | refine awp_cT rfl ?_ | refine awp_cF rfl ?_ | ((fail_if_success refine ARun.plain rfl ?_); first | refine ARun.kT rfl rfl rfl ?_ | refine ARun.kF rfl rfl rfl ?_)))
      (refine awp_ret ⟨_, ResL.cons (ResA.tmp (.val _)) .nil, congrArg (fun b => AV.val (.bool b)) ?_⟩; first | rfl | assumption | (symm; assumption))
  · have d1 : (p.2.2 != 0) = true := by simp [z1]
    have cc := cd1 z1
    clear cd1 sx
    obtain ⟨x, m, pb⟩ := p
    dsimp only at cc
    obtain ⟨cc1, cc2⟩ := cc
    subst cc1 cc2
    by_cases z2 : q.2 = 0
    · have d2 : (q.2 != 0) = false := by simp [z2]
      clear cd2
      refine FnC.of_awp (T := tt) (ok := tok) Try.func5 (by kernel_rfl) rfl (by kernel_rfl) (closedL_cons (.agg (encSti_closed w)) closedL_nil) (fun w0 st0 => ?_)
      dsimp only [frOf]
      (repeat' (first | refine awp_seq ?_ | refine awp_block ?_ | refine awp_rg hmix ?_ | refine ARun.o rfl ?_ | refine callX (c0) rfl rfl rfl rfl ?_ | refine callX (cm) rfl rfl rfl rfl ?_ | refine callX (ca) rfl rfl rfl rfl ?_ | refine callX (k8) rfl rfl rfl rfl ?_ | refine ARun.indexAddr rfl rfl (by first | omega | assumption) (by with_reducible assumption) rfl rfl rfl rfl rfl (guardF_spec rfl) ?_ | refine callX (b1) rfl rfl rfl rfl ?_ | refine callX (b2) rfl rfl rfl rfl ?_ | refine callX (rx) rfl rfl rfl rfl ?_ | refine callX (ry) rfl rfl rfl rfl ?_ | refine callX (rm) rfl rfl rfl rfl ?_ | refine callX (sy) rfl rfl rfl rfl ?_ | refine callX (sv) rfl rfl rfl rfl ?_ | refine callX (sl) rfl rfl rfl rfl ?_ | ((first | refine ARun.f ?_ | refine awp_skip ?_ | refine awp_exit ?_); dsimp only [thenA, blockA, AS.bump, List.length_cons, List.length_nil, reduceIte, Nat.reduceEqDiff]) | refine awp_cT rfl ?_ | refine awp_cF rfl ?_ | ((fail_if_success refine ARun.plain rfl ?_); first | refine ARun.kT rfl rfl rfl ?_ | refine ARun.kF rfl rfl rfl ?_)))
      (refine awp_ret ⟨_, ResL.cons (ResA.tmp (.val _)) .nil, congrArg (fun b => AV.val (.bool b)) ?_⟩; first | rfl | assumption | (symm; assumption))
    · have d2 : (q.2 != 0) = true := by simp [z2]
      have cc := cd2 z2
      clear cd2 sy
      obtain ⟨y, qb⟩ := q
      dsimp only at cc
      subst cc
      refine FnC.of_awp (T := tt) (ok := tok) Try.func5 (by kernel_rfl) rfl (by kernel_rfl) (closedL_cons (.agg (encSti_closed w)) closedL_nil) (fun w0 st0 => ?_)
      dsimp only [frOf]
      (repeat' (first | refine awp_seq ?_ | refine awp_block ?_ | refine awp_rg hmix ?_ | refine ARun.o rfl ?_ | refine callX (c0) rfl rfl rfl rfl ?_ | refine callX (cm) rfl rfl rfl rfl ?_ | refine callX (ca) rfl rfl rfl rfl ?_ | refine callX (k8) rfl rfl rfl rfl ?_ | refine ARun.indexAddr rfl rfl (by first | omega | assumption) (by with_reducible assumption) rfl rfl rfl rfl rfl (guardF_spec rfl) ?_ | refine callX (b1) rfl rfl rfl rfl ?_ | refine callX (b2) rfl rfl rfl rfl ?_ | refine callX (rx) rfl rfl rfl rfl ?_ | refine callX (ry) rfl rfl rfl rfl ?_ | refine callX (rm) rfl rfl rfl rfl ?_ | refine callX (sv) rfl rfl rfl rfl ?_ | refine callX (sl) rfl rfl rfl rfl ?_ | ((first | refine ARun.f ?_ | refine awp_skip ?_ | refine awp_exit ?_); dsimp only [thenA, blockA, AS.bump, List.length_cons, List.length_nil, reduceIte, Nat.reduceEqDiff]) | refine awp_cT rfl ?_ | refine awp_cF rfl ?_ | ((fail_if_success refine ARun.plain rfl ?_); first | refine ARun.kT rfl rfl rfl ?_ | refine ARun.kF rfl rfl rfl ?_)))
      (refine awp_ret ⟨_, ResL.cons (ResA.tmp (.val _)) .nil, congrArg (fun b => AV.val (.bool b)) ?_⟩; first | rfl | assumption | (symm; assumption))
end Go.Proofs.Ytpkkplojpjakiaa
/- cflow: what brackets leave, cell by cell. No program here. -/
namespace Go.Proofs.Ytpkkplojpjakiaa
set_option linter.unusedVariables false
set_option linter.unusedSimpArgs false
open Go Go.RowKit
open Go.Proofs.Ytpkkplojpjakiaa.Dict (St Bs)
set_option maxRecDepth 100000
def Sg (x : Int) : Prop := x = xtD nDo ∨ x = xtD nUn
def Brx (x : Int) : Prop := x = xtD nBr ∨ x = xtD nZb ∨ x = xtD nQdo ∨ x = xtD nLp ∨ x = xtD nPl
def pos : List Bool → Nat
  | [] => 171
  | b :: l => pos l + (if b then 2 else 1)
/-- The stream, the last item first. -/
structure Wf (f : Nat → Int) (L : List Bool) : Prop where
  sg : ∀ A R, L = A ++ false :: R → Sg (f (pos R))
  br : ∀ A R, L = A ++ true :: R → Brx (f (pos R))
def isB (L : List Bool) (k : Nat) : Prop := ∃ A R, L = A ++ true :: R ∧ k = pos R + 1
theorem pos_app (R : List Bool) : ∀ A : List Bool, pos R ≤ pos (A ++ R)
  | [] => Nat.le_refl _
  | b :: A => by
    have := pos_app R A
    show pos R ≤ pos (A ++ R) + _
    omega
theorem pos_lt {A R : List Bool} {b : Bool} : pos R < pos (A ++ b :: R) := by
  have := pos_app (b :: R) A
  have h : pos (b :: R) = pos R + (if b then 2 else 1) := rfl
  split at h <;> omega
theorem pos_lt2 {A R : List Bool} : pos R + 1 < pos (A ++ true :: R) := by
  have := pos_app (true :: R) A
  have h : pos (true :: R) = pos R + 2 := rfl
  omega
theorem isB_lt {L : List Bool} {k : Nat} (h : isB L k) : k < pos L := by
  obtain ⟨A, R, rfl, rfl⟩ := h
  exact pos_lt2
theorem isB_old {L : List Bool} {k : Nat} (b : Bool) (h : isB L k) : isB (b :: L) k := by
  obtain ⟨A, R, rfl, rfl⟩ := h
  exact ⟨b :: A, R, rfl, rfl⟩
theorem isB_new {L : List Bool} {k : Nat} {b : Bool} (h : isB (b :: L) k) : isB L k ∨ (b = true ∧ k = pos L + 1) := by
  obtain ⟨A, R, h1, h2⟩ := h
  cases A with
  | nil =>
    have h3 : b :: L = true :: R := h1
    injection h3 with h4 h5
    subst h4 h5
    exact .inr ⟨rfl, h2⟩
  | cons a A =>
    have h3 : b :: L = a :: (A ++ true :: R) := h1
    injection h3 with h4 h5
    exact .inl ⟨A, R, h5, h2⟩
theorem wf_congr {f g : Nat → Int} {L : List Bool} (h : Wf f L) (hg : ∀ k, k < pos L → g k = f k) : Wf g L :=
  ⟨fun A R e => by rw [hg _ (by rw [e]; exact pos_lt)]; exact h.sg A R e, fun A R e => by rw [hg _ (by rw [e]; exact pos_lt)]; exact h.br A R e⟩
theorem wf_cons {f : Nat → Int} {L : List Bool} {b : Bool} (h : Wf f L) (h1 : b = false → Sg (f (pos L))) (h2 : b = true → Brx (f (pos L))) : Wf f (b :: L) := by
  refine ⟨fun A R e => ?_, fun A R e => ?_⟩
  · cases A with
    | nil =>
      have e' : b :: L = false :: R := e
      injection e' with e1 e2
      subst e2
      exact h1 e1
    | cons a A =>
      have e' : b :: L = a :: (A ++ false :: R) := e
      injection e' with e1 e2
      exact h.sg A R e2
  · cases A with
    | nil =>
      have e' : b :: L = true :: R := e
      injection e' with e1 e2
      subst e2
      exact h2 e1
    | cons a A =>
      have e' : b :: L = a :: (A ++ true :: R) := e
      injection e' with e1 e2
      exact h.br A R e2
/-- The end of a suffix of the same list. -/
theorem suf_pos : ∀ {A R A' R' : List Bool} {b : Bool}, A ++ b :: R = A' ++ true :: R' → pos R ≠ pos R' + 1
  | [], R, [], R', b, e => by
    have e' : b :: R = true :: R' := e
    injection e' with e1 e2
    subst e2
    omega
  | [], R, a :: A', R', b, e => by
    have e' : b :: R = a :: (A' ++ true :: R') := e
    injection e' with e1 e2
    subst e2
    have := pos_lt2 (A := A') (R := R')
    omega
  | a :: A, R, [], R', b, e => by
    have e' : a :: (A ++ b :: R) = true :: R' := e
    injection e' with e1 e2
    subst e2
    have := pos_lt (A := A) (R := R) (b := b)
    omega
  | a :: A, R, a' :: A', R', b, e => by
    have e' : a :: (A ++ b :: R) = a' :: (A' ++ true :: R') := e
    injection e' with e1 e2
    exact suf_pos e2
theorem wf_upd {f : Nat → Int} {L : List Bool} {k : Nat} (x : Int) (h : Wf f L) (hk : isB L k) : Wf (updC f k x) L := by
  obtain ⟨A', R', e', rfl⟩ := hk
  refine ⟨fun A R e => ?_, fun A R e => ?_⟩
  · rw [show updC f (pos R' + 1) x (pos R) = f (pos R) from if_neg (suf_pos (e.symm.trans e'))]
    exact h.sg A R e
  · rw [show updC f (pos R' + 1) x (pos R) = f (pos R) from if_neg (suf_pos (e.symm.trans e'))]
    exact h.br A R e
def isA (L : List Bool) (a : Int) : Prop := ∃ k : Nat, isB L k ∧ a = ((8 * k : Nat) : Int)
def tgt (h : Nat) (a : Int) : Prop := ∃ t : Nat, 171 ≤ t ∧ t ≤ h ∧ a = ((8 * t : Nat) : Int)
theorem tgt_mono {h h1 : Nat} {a : Int} (hh : h ≤ h1) (k : tgt h a) : tgt h1 a := by
  obtain ⟨t, a1, a2, a3⟩ := k
  exact ⟨t, a1, by omega, a3⟩
def Open (l : List Cfr) (a : Int) : Prop := ∃ c, c ∈ l ∧ ((c.kind = 1 ∧ c.at' = a) ∨ a ∈ c.lv)
structure OkB (L : List Bool) (h : Nat) (c : Cfr) : Prop where
  k1 : c.kind = 1 → isA L c.at'
  k2 : c.kind ≠ 1 → tgt h c.at'
  lv : ∀ a, a ∈ c.lv → isA L a
structure Laid (f : Nat → Int) (h : Nat) (L : List Bool) (f1 : Nat → Int) (h1 : Nat) (L1 : List Bool) (y : Option Int) : Prop where
  wf : Wf f1 L1
  ps : pos L1 = h1
  le : h ≤ h1
  same : ∀ k, k < h → f1 k = f k
  old : ∀ k, isB L k → isB L1 k
  new : ∀ k, isB L1 k → isB L k ∨ ∃ y', y = some y' ∧ k + 1 = h1 ∧ f1 k = y'
  yes : ∀ y', y = some y' → isB L1 (h1 - 1)
theorem laid0 {f : Nat → Int} {h : Nat} {L : List Bool} (hw : Wf f L) (hp : pos L = h) : Laid f h L (lay f h []) (h + 0) L none :=
  ⟨hw, hp, Nat.le_refl _, fun _ _ => rfl, fun _ h => h, fun _ h => .inl h, fun _ h => by cases h⟩
theorem laid1 {f : Nat → Int} {h : Nat} {L : List Bool} {x : Int} (hw : Wf f L) (hp : pos L = h) (hx : Sg x) : Laid f h L (lay f h [x]) (h + 1) (false :: L) none := by
  have hs : ∀ k, k < h → updC f h x k = f k := fun k hk => if_neg (by omega)
  refine ⟨wf_cons (wf_congr hw (fun k hk => hs k (by omega))) (fun _ => ?_) (fun e => by cases e), ?_, Nat.le_succ _, hs, fun _ h => isB_old _ h, fun k hk => ?_, fun _ h => by cases h⟩
  · rw [hp]
    show Sg (updC f h x h)
    rw [show updC f h x h = x from if_pos rfl]
    exact hx
  · show pos L + 1 = h + 1
    omega
  · rcases isB_new hk with h | h
    · exact .inl h
    · cases h.1
theorem laid2 {f : Nat → Int} {h : Nat} {L : List Bool} {x y : Int} (hw : Wf f L) (hp : pos L = h) (hx : Brx x) : Laid f h L (lay f h [x, y]) (h + 2) (true :: L) (some y) := by
  have hs : ∀ k, k < h → updC (updC f h x) (h + 1) y k = f k := fun k hk => by
    unfold updC
    rw [if_neg (by omega), if_neg (by omega)]
  refine ⟨wf_cons (wf_congr hw (fun k hk => hs k (by omega))) (fun e => by cases e) (fun _ => ?_), ?_, by omega, hs, fun _ h => isB_old _ h, fun k hk => ?_, fun _ _ => ⟨[], L, rfl, by omega⟩⟩
  · rw [hp]
    show Brx (updC (updC f h x) (h + 1) y h)
    unfold updC
    rw [if_neg (by omega), if_pos rfl]
    exact hx
  · show pos L + 2 = h + 2
    omega
  · rcases isB_new hk with h3 | h3
    · exact .inl h3
    · exact .inr ⟨y, rfl, by omega, by
        have e : k = h + 1 := by omega
        subst e
        exact if_pos rfl⟩
theorem laid3 {f : Nat → Int} {h : Nat} {L : List Bool} {u x y : Int} (hw : Wf f L) (hp : pos L = h) (hu : Sg u) (hx : Brx x) : Laid f h L (lay f h [u, x, y]) (h + 3) (true :: false :: L) (some y) := by
  have h1 := laid1 (x := u) hw hp hu
  have h2 := laid2 (x := x) (y := y) h1.wf h1.ps hx
  refine ⟨h2.wf, h2.ps, by omega, fun k hk => ?_, fun k hk => h2.old k (h1.old k hk), fun k hk => ?_, h2.yes⟩
  · exact (h2.same k (by omega)).trans (h1.same k hk)
  · rcases h2.new k hk with h3 | h3
    · rcases h1.new k h3 with h4 | ⟨_, h4, _⟩
      · exact .inl h4
      · cases h4
    · exact .inr h3
theorem ends_at : ∀ (l : List Int) {f : Nat → Int} {x : Int} {k : Nat}, EndsOk l → endsC f x l k = if ((8 * k : Nat) : Int) ∈ l then x else f k
  | [], f, x, k, _ => by simp [endsC]
  | a :: l, f, x, k, he => by
    rw [endsC, ends_at l (fun b hb => he b (by simp [hb]))]
    obtain ⟨j, hj, rfl⟩ := he a (by simp)
    by_cases h1 : ((8 * k : Nat) : Int) ∈ l
    · rw [if_pos h1, if_pos (List.mem_cons.2 (.inr h1))]
    · rw [if_neg h1]
      unfold updC
      by_cases h2 : k = j
      · subst h2
        rw [if_pos (by omega), if_pos (List.mem_cons.2 (.inl rfl))]
      · rw [if_neg (by omega), if_neg (by simp only [List.mem_cons, not_or]; exact ⟨by omega, h1⟩)]
theorem wf_ends : ∀ (l : List Int) {f : Nat → Int} {x : Int} {L : List Bool}, Wf f L → (∀ a, a ∈ l → isA L a) → Wf (endsC f x l) L
  | [], f, x, L, h, _ => h
  | a :: l, f, x, L, h, he => by
    obtain ⟨k, hk, rfl⟩ := he a (by simp)
    rw [endsC]
    refine wf_ends l (wf_upd x h ?_) (fun b hb => he b (by simp [hb]))
    rw [show (((8 * k : Nat) : Int) / 8).toNat = k by omega]
    exact hk
structure Inv (v : V) (l : List Cfr) (f : Nat → Int) (h : Nat) (L : List Bool) : Prop where
  fl : Fl v f h
  hh : h ≤ 256
  h0 : 171 ≤ h
  wf : Wf f L
  ps : pos L = h
  ri : RightC l
  ok : ∀ c, c ∈ l → OkB L h c
  b : ∀ k, isB L k → tgt h (f k) ∨ Open l ((8 * k : Nat) : Int)
theorem isA_mono {f f1 : Nat → Int} {h h1 : Nat} {L L1 : List Bool} {y : Option Int} (hl : Laid f h L f1 h1 L1 y) {a : Int} (k : isA L a) : isA L1 a := by
  obtain ⟨t, a1, a2⟩ := k
  exact ⟨t, hl.old _ a1, a2⟩
theorem okB_mono {f f1 : Nat → Int} {h h1 : Nat} {L L1 : List Bool} {y : Option Int} (hl : Laid f h L f1 h1 L1 y) {c : Cfr} (k : OkB L h c) : OkB L1 h1 c :=
  ⟨fun e => isA_mono hl (k.k1 e), fun e => tgt_mono hl.le (k.k2 e), fun a ha => isA_mono hl (k.lv a ha)⟩
theorem isA_ends {L : List Bool} {l : List Int} (hp : pos L ≤ 256) (h : ∀ a, a ∈ l → isA L a) : EndsOk l := fun a ha => by
  obtain ⟨k, h1, h2⟩ := h a ha
  exact ⟨k, by have := isB_lt h1; omega, h2⟩
theorem inv_fin {v v' : V} {l out : List Cfr} {f f1 : Nat → Int} {h h1 : Nat} {L L1 : List Bool} {y : Option Int} {ends : List Int} (hI : Inv v l f h L) (hl : Laid f h L f1 h1 L1 y) (he : ∀ a, a ∈ ends → isA L a)
    (hf : Fl v' (endsC f1 ((8 * h1 : Nat) : Int) ends) h1) (hh : h1 ≤ 256) (o1 : ∀ a, Open l a → a ∈ ends ∨ Open out a) (o2 : ∀ c, c ∈ out → OkB L1 h1 c) (nw : ∀ y', y = some y' → tgt h1 y' ∨ Open out ((8 * (h1 - 1) : Nat) : Int)) (hr : RightC out) : Inv v' out (endsC f1 ((8 * h1 : Nat) : Int) ends) h1 L1 := by
  have heo := isA_ends (by rw [hI.ps]; exact hI.hh) he
  have h0 := hI.h0
  have hle := hl.le
  refine ⟨hf, hh, by omega, wf_ends ends hl.wf (fun a ha => isA_mono hl (he a ha)), hl.ps, hr, o2, fun k hk => ?_⟩
  rw [ends_at ends heo]
  by_cases hm : ((8 * k : Nat) : Int) ∈ ends
  · rw [if_pos hm]
    exact .inl ⟨h1, by omega, Nat.le_refl _, rfl⟩
  · rw [if_neg hm]
    rcases hl.new k hk with g | ⟨y', g1, g2, g3⟩
    · have hlt := isB_lt g
      rw [hI.ps] at hlt
      rw [hl.same k hlt]
      rcases hI.b k g with g1 | g1
      · exact .inl (tgt_mono hl.le g1)
      · rcases o1 _ g1 with g2 | g2
        · exact absurd g2 hm
        · exact .inr g2
    · rw [g3]
      rcases nw y' g1 with g4 | g4
      · exact .inl g4
      · refine .inr ?_
        rw [show k = h1 - 1 by omega]
        exact g4
theorem open_app {a b : List Cfr} {x : Int} : Open (a ++ b) x ↔ Open a x ∨ Open b x := by
  constructor
  · rintro ⟨c, hc, h⟩
    rcases List.mem_append.1 hc with hc | hc
    · exact .inl ⟨c, hc, h⟩
    · exact .inr ⟨c, hc, h⟩
  · rintro (⟨c, hc, h⟩ | ⟨c, hc, h⟩)
    · exact ⟨c, List.mem_append.2 (.inl hc), h⟩
    · exact ⟨c, List.mem_append.2 (.inr hc), h⟩
theorem open_one {c : Cfr} {x : Int} : Open [c] x ↔ (c.kind = 1 ∧ c.at' = x) ∨ x ∈ c.lv := by
  constructor
  · rintro ⟨d, hd, h⟩
    rw [List.mem_singleton.1 hd] at h
    exact h
  · intro h
    exact ⟨c, by simp, h⟩
end Go.Proofs.Ytpkkplojpjakiaa
/- cflow: each bracket keeps what LEADS asks. No program here. -/
namespace Go.Proofs.Ytpkkplojpjakiaa
set_option linter.unusedVariables false
set_option linter.unusedSimpArgs false
open Go Go.RowKit
open Go.Proofs.Ytpkkplojpjakiaa.Dict (St Bs)
set_option maxRecDepth 100000
theorem list_last {l : List Cfr} (h : 0 < l.length) : l = l.take (l.length - 1) ++ [lastC l] := by
  rcases List.eq_nil_or_concat l with e | ⟨L, c, e⟩
  · subst e; cases h
  · rw [List.concat_eq_append] at e
    subst e
    rw [lastC_snoc]
    simp
/-- What closing the last bracket leaves open. -/
theorem open_last {l : List Cfr} (h : 0 < l.length) {a : Int} (k : Open l a) : Open (l.take (l.length - 1)) a ∨ ((lastC l).kind = 1 ∧ (lastC l).at' = a) ∨ a ∈ (lastC l).lv := by
  rw [list_last h] at k
  rcases open_app.1 k with k | k
  · exact .inl k
  · exact .inr (open_one.1 k)
theorem okB_take {L : List Bool} {h : Nat} {l : List Cfr} (n : Nat) (H : ∀ c, c ∈ l → OkB L h c) : ∀ c, c ∈ l.take n → OkB L h c := fun c hc => H c (List.mem_of_mem_take hc)
theorem okB_app {L : List Bool} {h : Nat} {a b : List Cfr} (h1 : ∀ c, c ∈ a → OkB L h c) (h2 : ∀ c, c ∈ b → OkB L h c) : ∀ c, c ∈ a ++ b → OkB L h c := fun c hc => by
  rcases List.mem_append.1 hc with hc | hc
  · exact h1 c hc
  · exact h2 c hc
theorem okB_one {L : List Bool} {h : Nat} {c : Cfr} (k : OkB L h c) : ∀ d, d ∈ [c] → OkB L h d := fun d hd => by rw [List.mem_singleton.1 hd]; exact k
theorem okB_mono' {f f1 : Nat → Int} {h h1 : Nat} {L L1 : List Bool} {y : Option Int} (hl : Laid f h L f1 h1 L1 y) {l : List Cfr} (k : ∀ c, c ∈ l → OkB L h c) : ∀ c, c ∈ l → OkB L1 h1 c := fun c hc => okB_mono hl (k c hc)
theorem okB_1 {L : List Bool} {h : Nat} {a : Int} (k : isA L a) : OkB L h ⟨1, a, []⟩ := ⟨fun _ => k, fun e => absurd rfl e, fun a h => by cases h⟩
theorem okB_23 {L : List Bool} {h : Nat} {k a : Int} {s : List Int} (hk : k ≠ 1) (ht : tgt h a) (hs : ∀ x, x ∈ s → isA L x) : OkB L h ⟨k, a, s⟩ := ⟨fun e => absurd e hk, fun _ => ht, hs⟩
theorem ok_leaves {c : Cfr} (h : OkC c) (hk : c.kind ≠ 3) : c.lv = [] := by
  rcases h.2.2 with e | e
  · exact absurd e hk
  · exact List.length_eq_zero_iff.1 e
theorem brI_parts {i : Nat} {v : V} {l : List Cfr} (h : (brI i v l).2.2 = 0) : FitC i l ∧ brI i v l = ((refK (planD i v l) v).v, (planD i v l).2.2, 0) ∧ (refK (planD i v l) v).bad = 0 := by
  by_cases hf : FitC i l
  · rw [brI_yes hf] at h ⊢
    unfold refBrD at h ⊢
    by_cases hb : (refK (planD i v l) v).bad = 0
    · rw [if_pos hb]
      exact ⟨hf, rfl, hb⟩
    · rw [if_neg hb] at h
      exact absurd h hb
  · rw [brI_no hf] at h
    exact absurd h (by show ¬ ((-22 : Int) = 0); decide)
/-- The step, of what each bracket's plan says. -/
theorem inv_plan {i : Nat} (hi : i < 13) {v : V} {l : List Cfr} {f f1 : Nat → Int} {h : Nat} {L L1 : List Bool} {y : Option Int} (hI : Inv v l f h L) (hb : (brI i v l).2.2 = 0)
    (hl : Laid f h L (lay f h (planD i v l).1) (h + (planD i v l).1.length) L1 y) (he : FitC i l → ∀ a, a ∈ (planD i v l).2.1 → isA L a)
    (o1 : FitC i l → ∀ a, Open l a → a ∈ (planD i v l).2.1 ∨ Open (planD i v l).2.2 a) (o2 : FitC i l → ∀ c, c ∈ (planD i v l).2.2 → OkB L1 (h + (planD i v l).1.length) c)
    (nw : FitC i l → ∀ y', y = some y' → tgt (h + (planD i v l).1.length) y' ∨ Open (planD i v l).2.2 ((8 * (h + (planD i v l).1.length - 1) : Nat) : Int)) :
    ∃ f' h' L', Inv (brI i v l).1 (brI i v l).2.1 f' h' L' ∧ h ≤ h' := by
  obtain ⟨hf, e, hbad⟩ := brI_parts hb
  have hh : h + (planD i v l).1.length ≤ 256 := by
    rcases Nat.lt_or_ge 256 (h + (planD i v l).1.length) with h1 | h1
    · rw [brI_full hf hI.fl hI.hh h1] at hb
      exact absurd hb (by show ¬ ((-8 : Int) = 0); decide)
    · exact h1
  have hfl := ref_fl (pl := planD i v l) hI.fl hh (isA_ends (by rw [hI.ps]; exact hI.hh) (he hf))
  have := inv_fin hI hl (he hf) hfl.1 hh (o1 hf) (o2 hf) (nw hf) (right_plan hi hI.ri hf)
  rw [e]
  exact ⟨_, _, _, this, hl.le⟩
theorem tgt_here {h : Nat} {n m : Nat} (h0 : 171 ≤ h) (hm : n ≤ m) : tgt (h + m) ((8 * (h + n) : Nat) : Int) := ⟨h + n, by omega, by omega, rfl⟩
theorem sg_do : Sg (xtD nDo) := .inl rfl
theorem sg_un : Sg (xtD nUn) := .inr rfl
theorem br_br : Brx (xtD nBr) := .inl rfl
theorem br_zb : Brx (xtD nZb) := .inr (.inl rfl)
theorem br_qdo : Brx (xtD nQdo) := .inr (.inr (.inl rfl))
theorem br_lp : Brx (xtD nLp) := .inr (.inr (.inr (.inl rfl)))
theorem br_pl : Brx (xtD nPl) := .inr (.inr (.inr (.inr rfl)))
theorem isA_new {f f1 : Nat → Int} {h h1 : Nat} {L L1 : List Bool} {y : Int} (hl : Laid f h L f1 h1 L1 (some y)) : isA L1 ((8 * (h1 - 1) : Nat) : Int) := ⟨_, hl.yes y rfl, rfl⟩
theorem last_ok {L : List Bool} {h : Nat} {l : List Cfr} (hp : 0 < l.length) (H : ∀ c, c ∈ l → OkB L h c) : OkB L h (lastC l) := H _ (lastC_mem (List.length_pos_iff.1 hp))
theorem last_okC {l : List Cfr} (hp : 0 < l.length) (H : RightC l) : OkC (lastC l) := H.1 _ (lastC_mem (List.length_pos_iff.1 hp))
theorem lastK_pos {l : List Cfr} {k : Int} (hk : k ≠ 0) (h : lastK l 0 = k) : 0 < l.length := lastK_len (by rw [h]; exact hk)
/-- A bracket that is closed: its cells are ends, or it has none. -/
theorem close_o1 {l more : List Cfr} {ends : List Int} {k : Int} (hr : RightC l) (hp : 0 < l.length) (hk : (lastC l).kind = k) (h1 : k = 1 → (lastC l).at' ∈ ends) (h3 : k = 3 → (lastC l).lv ⊆ ends) : ∀ a, Open l a → a ∈ ends ∨ Open (l.take (l.length - 1) ++ more) a := fun a ha => by
  rcases open_last hp ha with h | ⟨h, e⟩ | h
  · exact .inr (open_app.2 (.inl h))
  · rw [← e]
    exact .inl (h1 (hk.symm.trans h))
  · by_cases e : k = 3
    · exact .inl (h3 e h)
    · rw [ok_leaves (last_okC hp hr) (by rw [hk]; exact e)] at h
      cases h
theorem keep_o1 {l more : List Cfr} {ends : List Int} : ∀ a, Open l a → a ∈ ends ∨ Open (l.take (l.length - 0) ++ more) a := fun a ha => by
  rw [take_all]
  exact .inr (open_app.2 (.inl ha))
theorem inv_br0 {v : V} {l : List Cfr} {f : Nat → Int} {h : Nat} {L : List Bool} (hI : Inv v l f h L) (hb : (brI 0 v l).2.2 = 0) : ∃ f' h' L', Inv (brI 0 v l).1 (brI 0 v l).2.1 f' h' L' ∧ h ≤ h' := by
  have hl := laid2 (y := 0) hI.wf hI.ps br_zb
  have e1 : v.here + 8 = ((8 * (h + 2 - 1) : Nat) : Int) := by rw [hI.fl.here]; omega
  refine inv_plan (by omega) (f1 := f) hI hb hl (fun _ a h => by cases h) (fun _ => keep_o1) (fun _ => okB_app (okB_take _ (okB_mono' hl hI.ok)) (okB_one (okB_1 ?_))) (fun _ y' _ => .inr (open_app.2 (.inr (open_one.2 (.inl ⟨rfl, e1⟩)))))
  rw [e1]
  exact isA_new hl
theorem inv_br1 {v : V} {l : List Cfr} {f : Nat → Int} {h : Nat} {L : List Bool} (hI : Inv v l f h L) (hb : (brI 1 v l).2.2 = 0) : ∃ f' h' L', Inv (brI 1 v l).1 (brI 1 v l).2.1 f' h' L' ∧ h ≤ h' := by
  have hl := laid2 (y := 0) hI.wf hI.ps br_br
  have e1 : v.here + 8 = ((8 * (h + 2 - 1) : Nat) : Int) := by rw [hI.fl.here]; omega
  refine inv_plan (by omega) (f1 := f) hI hb hl (fun hf a ha => ?_) (fun hf => ?_) (fun _ => okB_app (okB_take _ (okB_mono' hl hI.ok)) (okB_one (okB_1 ?_))) (fun _ y' _ => .inr (open_app.2 (.inr (open_one.2 (.inl ⟨rfl, e1⟩)))))
  · have hp := lastK_pos (by decide) (show lastK l 0 = 1 from hf)
    rw [List.mem_singleton.1 ha]
    exact (last_ok hp hI.ok).k1 ((lastK_lastC l).symm.trans hf)
  · have hp := lastK_pos (by decide) (show lastK l 0 = 1 from hf)
    exact close_o1 hI.ri hp ((lastK_lastC l).symm.trans hf) (fun _ => by show _ ∈ [_]; simp) (fun e => by cases e)
  · rw [e1]
    exact isA_new hl
theorem inv_br2 {v : V} {l : List Cfr} {f : Nat → Int} {h : Nat} {L : List Bool} (hI : Inv v l f h L) (hb : (brI 2 v l).2.2 = 0) : ∃ f' h' L', Inv (brI 2 v l).1 (brI 2 v l).2.1 f' h' L' ∧ h ≤ h' := by
  have hl := laid0 hI.wf hI.ps
  refine inv_plan (by omega) (f1 := f) hI hb hl (fun hf a ha => ?_) (fun hf => ?_) (fun _ => okB_app (okB_take _ (okB_mono' hl hI.ok)) (fun c hc => by cases hc)) (fun _ y' h => by cases h)
  · have hp := lastK_pos (by decide) (show lastK l 0 = 1 from hf)
    rw [List.mem_singleton.1 ha]
    exact (last_ok hp hI.ok).k1 ((lastK_lastC l).symm.trans hf)
  · have hp := lastK_pos (by decide) (show lastK l 0 = 1 from hf)
    exact close_o1 hI.ri hp ((lastK_lastC l).symm.trans hf) (fun _ => by show _ ∈ [_]; simp) (fun e => by cases e)
theorem inv_br3 {v : V} {l : List Cfr} {f : Nat → Int} {h : Nat} {L : List Bool} (hI : Inv v l f h L) (hb : (brI 3 v l).2.2 = 0) : ∃ f' h' L', Inv (brI 3 v l).1 (brI 3 v l).2.1 f' h' L' ∧ h ≤ h' := by
  have hl := laid0 hI.wf hI.ps
  refine inv_plan (by omega) (f1 := f) hI hb hl (fun hf a ha => by cases ha) (fun hf => keep_o1) (fun _ => okB_app (okB_take _ (okB_mono' hl hI.ok)) (okB_one (okB_23 (by decide) ?_ (fun x h => by cases h)))) (fun _ y' h => by cases h)
  rw [hI.fl.here]
  exact tgt_here (n := 0) hI.h0 (Nat.le_refl _)
theorem inv_br4 {v : V} {l : List Cfr} {f : Nat → Int} {h : Nat} {L : List Bool} (hI : Inv v l f h L) (hb : (brI 4 v l).2.2 = 0) : ∃ f' h' L', Inv (brI 4 v l).1 (brI 4 v l).2.1 f' h' L' ∧ h ≤ h' := by
  have hl := laid2 (y := 0) hI.wf hI.ps br_zb
  have e1 : v.here + 8 = ((8 * (h + 2 - 1) : Nat) : Int) := by rw [hI.fl.here]; omega
  refine inv_plan (by omega) (f1 := f) hI hb hl (fun hf a ha => by cases ha) (fun hf a ha => ?_) (fun hf => ?_) (fun _ y' _ => .inr (open_app.2 (.inr ⟨⟨1, v.here + 8, []⟩, by simp, .inl ⟨rfl, e1⟩⟩)))
  · have h2 : lastK l 0 = 2 ∧ l.length < 32 := hf
    have hp := lastK_pos (by decide) h2.1
    refine .inr (open_app.2 ?_)
    rcases open_last hp ha with h | h
    · exact .inl h
    · exact .inr ⟨lastC l, by simp, h⟩
  · have h2 : lastK l 0 = 2 ∧ l.length < 32 := hf
    have hp := lastK_pos (by decide) h2.1
    refine okB_app (okB_take _ (okB_mono' hl hI.ok)) (fun c hc => ?_)
    rcases List.mem_cons.1 hc with rfl | hc
    · refine okB_1 ?_
      rw [e1]
      exact isA_new hl
    · rw [List.mem_singleton.1 hc]
      exact okB_mono hl (last_ok hp hI.ok)
theorem inv_br5 {v : V} {l : List Cfr} {f : Nat → Int} {h : Nat} {L : List Bool} (hI : Inv v l f h L) (hb : (brI 5 v l).2.2 = 0) : ∃ f' h' L', Inv (brI 5 v l).1 (brI 5 v l).2.1 f' h' L' ∧ h ≤ h' := by
  have hl := laid2 (y := (lastC l).at') hI.wf hI.ps br_br
  have dec : FitC 5 l → ∃ M c, l = (M ++ [c]) ++ [lastC l] ∧ (lastC l).kind = 2 ∧ c.kind = 1 ∧ l[l.length - 2]?.getD cf0 = c ∧ l.take (l.length - 2) = M := fun hf => by
    have h2 : lastK l 0 = 2 ∧ lastK l 1 = 1 := hf
    have hp := lastK_pos (by decide) h2.1
    have h3 := lastK_drop (l := l) (by rw [h2.1]; decide)
    have hp2 := lastK_pos (l := l.take (l.length - 1)) (k := 1) (by decide) (by rw [h3.1]; exact h2.2)
    have e := list_last hp
    have e2 := list_last hp2
    have h5 := h3.2 (by rw [h2.2]; decide)
    have h6 : l.take (l.length - 2) = (l.take (l.length - 1)).take ((l.take (l.length - 1)).length - 1) := by
      rw [List.take_take, List.length_take]
      congr 1
      omega
    refine ⟨_, lastC (l.take (l.length - 1)), by rw [← e2]; exact e, (lastK_lastC l).symm.trans h2.1, (lastK_lastC _).symm.trans (h3.1.trans h2.2), h5.symm, h6⟩
  refine inv_plan (by omega) (f1 := f) hI hb hl (fun hf a ha => ?_) (fun hf a ha => ?_) (fun hf => okB_app (okB_take _ (okB_mono' hl hI.ok)) (fun c hc => by cases hc)) (fun hf y' h => ?_)
  · obtain ⟨M, c, e, k1, k2, e2, e3⟩ := dec hf
    rw [List.mem_singleton.1 ha, e2]
    exact (hI.ok c (by rw [e]; simp)).k1 k2
  · obtain ⟨M, c, e, k1, k2, e2, e3⟩ := dec hf
    show a ∈ [(l[l.length - 2]?.getD cf0).at'] ∨ Open (l.take (l.length - 2) ++ []) a
    rw [e2, e3, List.append_nil]
    have hc : OkC c := hI.ri.1 c (by rw [e]; simp)
    have hp : 0 < l.length := lastK_pos (by decide) (show lastK l 0 = 2 ∧ lastK l 1 = 1 from hf).1
    have hd : OkC (lastC l) := last_okC hp hI.ri
    rw [e] at ha
    rcases open_app.1 ha with ha | ha
    · rcases open_app.1 ha with ha | ha
      · exact .inr ha
      · rcases open_one.1 ha with ⟨_, h⟩ | h
        · exact .inl (by rw [← h]; simp)
        · rw [ok_leaves hc (by rw [k2]; decide)] at h
          cases h
    · rcases open_one.1 ha with ⟨h, _⟩ | h
      · rw [k1] at h; cases h
      · rw [ok_leaves hd (by rw [k1]; decide)] at h
        cases h
  · obtain ⟨M, c, e, k1, k2, e2, e3⟩ := dec hf
    obtain rfl := Option.some.inj h
    have hp : 0 < l.length := lastK_pos (by decide) (show lastK l 0 = 2 ∧ lastK l 1 = 1 from hf).1
    exact .inl (tgt_mono hl.le ((last_ok hp hI.ok).k2 (by rw [k1]; decide)))
theorem inv_back {i : Nat} (nm : Bs) (hi : i < 13) {v : V} {l : List Cfr} {f : Nat → Int} {h : Nat} {L : List Bool} (hI : Inv v l f h L) (hb : (brI i v l).2.2 = 0) (hfit : FitC i l → lastK l 0 = 2) (hx : Brx (xtD nm)) (hpl : planD i v l = ([xtD nm, (lastC l).at'], [], l.take (l.length - 1) ++ [])) : ∃ f' h' L', Inv (brI i v l).1 (brI i v l).2.1 f' h' L' ∧ h ≤ h' := by
  have hl := laid2 (y := (lastC l).at') hI.wf hI.ps hx
  refine inv_plan (L1 := true :: L) (y := some (lastC l).at') hi (f1 := f) hI hb (by rw [hpl]; exact hl) (fun hf a ha => by rw [hpl] at ha; cases ha) (fun hf => ?_) (fun hf => by rw [hpl]; exact okB_app (okB_take _ (okB_mono' hl hI.ok)) (fun c hc => by cases hc)) (fun hf y' h => ?_)
  · have hp := lastK_pos (by decide) (hfit hf)
    rw [hpl]
    exact close_o1 hI.ri hp ((lastK_lastC l).symm.trans (hfit hf)) (fun e => by cases e) (fun e => by cases e)
  · have hp := lastK_pos (by decide) (hfit hf)
    obtain rfl := Option.some.inj h
    rw [hpl]
    exact .inl (tgt_mono hl.le ((last_ok hp hI.ok).k2 (by rw [← lastK_lastC, hfit hf]; decide)))
theorem inv_loop {i : Nat} (nm : Bs) (hi : i < 13) {v : V} {l : List Cfr} {f : Nat → Int} {h : Nat} {L : List Bool} (hI : Inv v l f h L) (hb : (brI i v l).2.2 = 0) (hfit : FitC i l → lastK l 0 = 3) (hx : Brx (xtD nm)) (hpl : planD i v l = ([xtD nm, (lastC l).at'], (lastC l).lv, l.take (l.length - 1) ++ [])) : ∃ f' h' L', Inv (brI i v l).1 (brI i v l).2.1 f' h' L' ∧ h ≤ h' := by
  have hl := laid2 (y := (lastC l).at') hI.wf hI.ps hx
  refine inv_plan (L1 := true :: L) (y := some (lastC l).at') hi (f1 := f) hI hb (by rw [hpl]; exact hl) (fun hf a ha => ?_) (fun hf => ?_) (fun hf => by rw [hpl]; exact okB_app (okB_take _ (okB_mono' hl hI.ok)) (fun c hc => by cases hc)) (fun hf y' h => ?_)
  · have hp := lastK_pos (by decide) (hfit hf)
    rw [hpl] at ha
    exact (last_ok hp hI.ok).lv a ha
  · have hp := lastK_pos (by decide) (hfit hf)
    rw [hpl]
    exact close_o1 hI.ri hp ((lastK_lastC l).symm.trans (hfit hf)) (fun e => by cases e) (fun _ a h => h)
  · have hp := lastK_pos (by decide) (hfit hf)
    obtain rfl := Option.some.inj h
    rw [hpl]
    exact .inl (tgt_mono hl.le ((last_ok hp hI.ok).k2 (by rw [← lastK_lastC, hfit hf]; decide)))
theorem inv_br8 {v : V} {l : List Cfr} {f : Nat → Int} {h : Nat} {L : List Bool} (hI : Inv v l f h L) (hb : (brI 8 v l).2.2 = 0) : ∃ f' h' L', Inv (brI 8 v l).1 (brI 8 v l).2.1 f' h' L' ∧ h ≤ h' := by
  have hl := laid1 hI.wf hI.ps sg_do
  have e1 : v.here + 8 = ((8 * (h + 1) : Nat) : Int) := by rw [hI.fl.here]; omega
  refine inv_plan (by omega) (f1 := f) hI hb hl (fun hf a ha => by cases ha) (fun hf => keep_o1) (fun _ => okB_app (okB_take _ (okB_mono' hl hI.ok)) (okB_one (okB_23 (by decide) ?_ (fun x h => by cases h)))) (fun _ y' h => by cases h)
  rw [e1]
  exact tgt_here hI.h0 (Nat.le_refl _)
theorem inv_br9 {v : V} {l : List Cfr} {f : Nat → Int} {h : Nat} {L : List Bool} (hI : Inv v l f h L) (hb : (brI 9 v l).2.2 = 0) : ∃ f' h' L', Inv (brI 9 v l).1 (brI 9 v l).2.1 f' h' L' ∧ h ≤ h' := by
  have hl := laid2 (y := 0) hI.wf hI.ps br_qdo
  have e1 : v.here + 8 = ((8 * (h + 2 - 1) : Nat) : Int) := by rw [hI.fl.here]; omega
  have e2 : v.here + 16 = ((8 * (h + 2) : Nat) : Int) := by rw [hI.fl.here]; omega
  refine inv_plan (by omega) (f1 := f) hI hb hl (fun hf a ha => by cases ha) (fun hf => keep_o1) (fun _ => okB_app (okB_take _ (okB_mono' hl hI.ok)) (okB_one (okB_23 (by decide) ?_ (fun x hx => ?_)))) (fun _ y' _ => .inr (open_app.2 (.inr (open_one.2 (.inr (by show _ ∈ [_]; rw [e1]; simp; rfl))))))
  · rw [e2]
    exact tgt_here hI.h0 (Nat.le_refl _)
  · rw [List.mem_singleton.1 hx, e1]
    exact isA_new hl
theorem inv_br12 {v : V} {l : List Cfr} {f : Nat → Int} {h : Nat} {L : List Bool} (hI : Inv v l f h L) (hb : (brI 12 v l).2.2 = 0) : ∃ f' h' L', Inv (brI 12 v l).1 (brI 12 v l).2.1 f' h' L' ∧ h ≤ h' := by
  have hl := laid3 (y := 0) hI.wf hI.ps sg_un br_br
  have e1 : v.here + 16 = ((8 * (h + 3 - 1) : Nat) : Int) := by rw [hI.fl.here]; omega
  have dec : FitC 12 l → ∃ k c, l[k]? = some c ∧ c.kind = 3 ∧ addLv l (loopAt l).toNat (v.here + 16) = l.set k ⟨3, c.at', c.lv ++ [v.here + 16]⟩ := fun hf => by
    have h1 : 0 ≤ loopAt l ∧ leavesAt l (loopAt l) < 32 := hf
    obtain ⟨k, c, hc, hk, e⟩ := loopFrom_mem (l := l) (n := l.length) h1.1
    have e' : loopAt l = (k : Nat) := e
    refine ⟨k, c, hc, hk, ?_⟩
    rw [e', Int.toNat_natCast]
    unfold addLv
    rw [hc]
    dsimp only
    rw [hk]
  refine inv_plan (by omega) (f1 := f) hI hb hl (fun hf a ha => by cases ha) (fun hf a ha => ?_) (fun hf => ?_) (fun hf y' _ => ?_)
  · obtain ⟨k, c, hc, hk, e⟩ := dec hf
    right
    show Open (addLv l (loopAt l).toNat (v.here + 16)) a
    rw [e]
    obtain ⟨d, hd, hq⟩ := ha
    obtain ⟨j, hj, ej⟩ := List.mem_iff_getElem.1 hd
    by_cases hjk : j = k
    · subst hjk
      have ec : c = d := by
        rw [List.getElem?_eq_getElem hj, ej] at hc
        exact (Option.some.inj hc).symm
      subst ec
      refine ⟨⟨3, c.at', c.lv ++ [v.here + 16]⟩, List.mem_iff_getElem.2 ⟨j, by rw [List.length_set]; exact hj, by simp⟩, ?_⟩
      rcases hq with ⟨h1, h2⟩ | h1
      · rw [hk] at h1; cases h1
      · exact .inr (List.mem_append.2 (.inl h1))
    · refine ⟨d, List.mem_iff_getElem.2 ⟨j, by rw [List.length_set]; exact hj, ?_⟩, hq⟩
      rw [List.getElem_set_ne (fun e => hjk e.symm)]
      exact ej
  · obtain ⟨k, c, hc, hk, e⟩ := dec hf
    show ∀ d, d ∈ addLv l (loopAt l).toNat (v.here + 16) → OkB _ _ d
    rw [e]
    intro d hd
    have hcm := hI.ok c (List.mem_of_getElem? hc)
    rcases List.mem_or_eq_of_mem_set hd with hd | rfl
    · exact okB_mono hl (hI.ok d hd)
    · refine okB_23 (by decide) (tgt_mono hl.le (hcm.k2 (by rw [hk]; decide))) (fun x hx => ?_)
      rcases List.mem_append.1 hx with hx | hx
      · exact isA_mono hl (hcm.lv x hx)
      · rw [List.mem_singleton.1 hx, e1]
        exact isA_new hl
  · obtain ⟨k, c, hc, hk, e⟩ := dec hf
    right
    show Open (addLv l (loopAt l).toNat (v.here + 16)) _
    rw [e]
    have hkl := (List.getElem?_eq_some_iff.1 hc).1
    refine ⟨⟨3, c.at', c.lv ++ [v.here + 16]⟩, List.mem_iff_getElem.2 ⟨k, by rw [List.length_set]; exact hkl, by simp⟩, .inr (List.mem_append.2 (.inr ?_))⟩
    rw [e1]
    exact List.mem_singleton.2 rfl
theorem inv_step {i : Nat} (hi : i < 13) {v : V} {l : List Cfr} {f : Nat → Int} {h : Nat} {L : List Bool} (hI : Inv v l f h L) (hb : (brI i v l).2.2 = 0) : ∃ f' h' L', Inv (brI i v l).1 (brI i v l).2.1 f' h' L' ∧ h ≤ h' := by
  match i, hi with
  | 0, _ => exact inv_br0 hI hb
  | 1, _ => exact inv_br1 hI hb
  | 2, _ => exact inv_br2 hI hb
  | 3, _ => exact inv_br3 hI hb
  | 4, _ => exact inv_br4 hI hb
  | 5, _ => exact inv_br5 hI hb
  | 6, _ => exact inv_back nZb (by omega) hI hb (fun h => h) br_zb rfl
  | 7, _ => exact inv_back nBr (by omega) hI hb (fun h => h) br_br rfl
  | 8, _ => exact inv_br8 hI hb
  | 9, _ => exact inv_br9 hI hb
  | 10, _ => exact inv_loop nLp (by omega) hI hb (fun h => h) br_lp rfl
  | 11, _ => exact inv_loop nPl (by omega) hI hb (fun h => h) br_pl rfl
  | 12, _ => exact inv_br12 hI hb
/-- An end closes the last bracket, or there is no room. -/
theorem end_step {i : Nat} {v : V} {l : List Cfr} {f : Nat → Int} {h : Nat} {L : List Bool} (hI : Inv v l f h L) (hi : (i = 2 ∧ lastK l 0 = 1) ∨ (i = 7 ∧ lastK l 0 = 2) ∨ (i = 10 ∧ lastK l 0 = 3)) : (brI i v l = (v, l, -8)) ∨ ((brI i v l).2.2 = 0 ∧ (brI i v l).2.1.length = l.length - 1) := by
  have hp : 0 < l.length := lastK_len (by rcases hi with h | h | h <;> rw [h.2] <;> decide)
  have hf : FitC i l := by rcases hi with ⟨rfl, h⟩ | ⟨rfl, h⟩ | ⟨rfl, h⟩ <;> exact h
  have he : ∀ a, a ∈ (planD i v l).2.1 → isA L a := by
    rcases hi with ⟨rfl, h⟩ | ⟨rfl, h⟩ | ⟨rfl, h⟩
    · intro a ha
      rw [List.mem_singleton.1 ha]
      exact (last_ok hp hI.ok).k1 ((lastK_lastC l).symm.trans h)
    · intro a ha; cases ha
    · exact (last_ok hp hI.ok).lv
  by_cases hh : h + (planD i v l).1.length ≤ 256
  · obtain ⟨v', e, _⟩ := brI_fl hf hI.fl hh (isA_ends (by rw [hI.ps]; exact hI.hh) he)
    right
    rw [e]
    refine ⟨rfl, ?_⟩
    show (planD i v l).2.2.length = _
    have : (planD i v l).2.2 = l.take (l.length - 1) ++ [] := by rcases hi with ⟨rfl, h⟩ | ⟨rfl, h⟩ | ⟨rfl, h⟩ <;> rfl
    rw [this, List.append_nil, List.length_take]
    omega
  · exact .inl (brI_full hf hI.fl hI.hh (by omega))
end Go.Proofs.Ytpkkplojpjakiaa
/- cflow: CflowLeads returns true. -/
namespace Go.Proofs.Ytpkkplojpjakiaa
set_option linter.unusedVariables false
set_option linter.unusedSimpArgs false
open Go Go.RowKit
open Go.Proofs.Ytpkkplojpjakiaa.Dict (St Bs bs_eq Wd encW encWs closed_ws)
open Go.Proofs.Ytpkkplojpjakiaa.Mem (Mm encM encBs closed_bs encP encP_closed closed_m fetchD)
open Go.Proofs.Ytpkkplojpjakiaa.Stk (encS closed_s)
set_option maxRecDepth 100000
theorem brN_at {j : Nat} {nm : Bs} (h : nmC[j]? = some nm) (v : V) (l : List Cfr) : brN v l nm = brI j v l := by
  have hj : j < 13 := (List.getElem?_eq_some_iff.1 h).1
  match j, hj with
  | 0, _ => obtain rfl := Option.some.inj h; exact brN_yes (by simp [nmC])
  | 1, _ => obtain rfl := Option.some.inj h; exact brN_yes (by simp [nmC])
  | 2, _ => obtain rfl := Option.some.inj h; exact brN_yes (by simp [nmC])
  | 3, _ => obtain rfl := Option.some.inj h; exact brN_yes (by simp [nmC])
  | 4, _ => obtain rfl := Option.some.inj h; exact brN_yes (by simp [nmC])
  | 5, _ => obtain rfl := Option.some.inj h; exact brN_yes (by simp [nmC])
  | 6, _ => obtain rfl := Option.some.inj h; exact brN_yes (by simp [nmC])
  | 7, _ => obtain rfl := Option.some.inj h; exact brN_yes (by simp [nmC])
  | 8, _ => obtain rfl := Option.some.inj h; exact brN_yes (by simp [nmC])
  | 9, _ => obtain rfl := Option.some.inj h; exact brN_yes (by simp [nmC])
  | 10, _ => obtain rfl := Option.some.inj h; exact brN_yes (by simp [nmC])
  | 11, _ => obtain rfl := Option.some.inj h; exact brN_yes (by simp [nmC])
  | 12, _ => obtain rfl := Option.some.inj h; exact brN_yes (by simp [nmC])
theorem Okk.rng {v : V} {k : Nat} (h : Okk v k) : Rng v := ⟨h.h0, h.h1⟩
theorem Lays.okk {v x : V} {k n : Nat} (h : Lays v x k) (ho : Okk v (n + k)) : Okk x n := by
  have h1 := h.rng ho.rng
  exact ⟨by rw [h.bl]; exact ho.b, by have := h.ol; have := ho.o; omega, h1.h0, h1.h1⟩
structure InvK (v : V) (l : List Cfr) (n : Nat) : Prop where
  inv : ∃ f h L, Inv v l f h L
  ok : Okk v n
theorem no_isB {k : Nat} (h : isB [] k) : False := by
  obtain ⟨A, R, e, _⟩ := h
  exact absurd e (by simp)
theorem wf_nil (f : Nat → Int) : Wf f [] := ⟨fun A R e => absurd e (by simp), fun A R e => absurd e (by simp)⟩
theorem right_nil : RightC [] := ⟨fun c h => (by cases h), by decide⟩
theorem inv_0 : Inv v0 [] f0 171 [] := ⟨v0_fl, by omega, Nat.le_refl _, wf_nil f0, rfl, right_nil, fun c h => (by cases h), fun k h => (no_isB h).elim⟩
theorem invK_0 : InvK v0 [] 20000 := ⟨⟨_, _, _, inv_0⟩, v0_okk _ (by omega)⟩
theorem InvK.right {v : V} {l : List Cfr} {n : Nat} (h : InvK v l n) : RightC l := by
  obtain ⟨f, g, L, h⟩ := h.inv
  exact h.ri
theorem invK_step {j : Nat} (hj : j < 13) {v : V} {l : List Cfr} {n : Nat} (h : InvK v l (n + 63)) (hb : (brI j v l).2.2 = 0) : InvK (brI j v l).1 (brI j v l).2.1 n := by
  have hr := h.right
  obtain ⟨⟨f, g, L, hI⟩, ho⟩ := h
  obtain ⟨f', h', L', h1, _⟩ := inv_step hj hI hb
  exact ⟨⟨f', h', L', h1⟩, (lays_brI ho.rng hr.lv).okk ho⟩
theorem invK_end {v : V} {l : List Cfr} {n : Nat} (h : InvK v l n) (hp : 0 < l.length) : ∃ j, (∃ nm, nmC[j]? = some nm ∧ ((j = 2 ∧ (lastC l).kind = 1) ∨ (j = 7 ∧ (lastC l).kind = 2) ∨ (j = 10 ∧ (lastC l).kind = 3))) ∧ (brI j v l = (v, l, -8) ∨ ((brI j v l).2.2 = 0 ∧ (brI j v l).2.1.length = l.length - 1)) := by
  have hr := h.right
  obtain ⟨⟨f, g, L, hI⟩, ho⟩ := h
  have h1 := (last_okC hp hr).1
  have h2 : (lastC l).kind = 1 ∨ (lastC l).kind = 2 ∨ (lastC l).kind = 3 := by omega
  rcases h2 with h2 | h2 | h2
  · exact ⟨2, ⟨_, rfl, .inl ⟨rfl, h2⟩⟩, end_step hI (.inl ⟨rfl, (lastK_lastC l).trans h2⟩)⟩
  · exact ⟨7, ⟨_, rfl, .inr (.inl ⟨rfl, h2⟩)⟩, end_step hI (.inr (.inl ⟨rfl, (lastK_lastC l).trans h2⟩))⟩
  · exact ⟨10, ⟨_, rfl, .inr (.inr ⟨rfl, h2⟩)⟩, end_step hI (.inr (.inr ⟨rfl, (lastK_lastC l).trans h2⟩))⟩
theorem xt_rng (s : Bs) : -9223372036854775808 ≤ xtD s ∧ xtD s ≤ 9223372036854775807 := by
  have h := idx_rng nmsV s 0
  have hl := len_nms
  rw [List.length_map] at hl
  unfold xtD
  omega
theorem xt_apart : (xtD nBr ≠ xtD nDo ∧ xtD nBr ≠ xtD nUn) ∧ (xtD nZb ≠ xtD nDo ∧ xtD nZb ≠ xtD nUn) ∧ (xtD nQdo ≠ xtD nDo ∧ xtD nQdo ≠ xtD nUn) ∧ (xtD nLp ≠ xtD nDo ∧ xtD nLp ≠ xtD nUn) ∧ (xtD nPl ≠ xtD nDo ∧ xtD nPl ≠ xtD nUn) := by
  have h : (xtD nBr, xtD nZb, xtD nQdo, xtD nLp, xtD nPl, xtD nDo, xtD nUn) = (48, 56, 72, 80, 88, 64, 168) := by kernel_rfl
  simp only [Prod.mk.injEq] at h
  obtain ⟨h1, h2, h3, h4, h5, h6, h7⟩ := h
  rw [h1, h2, h3, h4, h5, h6, h7]
  decide
theorem brx_not {x : Int} (h : Brx x) : x ≠ xtD nDo ∧ x ≠ xtD nUn := by
  obtain ⟨a, b, c, d, e⟩ := xt_apart
  rcases h with rfl | rfl | rfl | rfl | rfl
  · exact a
  · exact b
  · exact c
  · exact d
  · exact e
attribute [local irreducible] Decidable.decide awp ARun regK toK
set_option maxHeartbeats 32000000 in
theorem leads13_c (picks : List UInt8) : FnC Try.prog 6 [encBs picks] (.val (.bool true)) := by
  have c0 := shown13_c
  have ep : (((picks.map encB).length : Nat) : Int) = picks.length := by rw [List.length_map]
  by_cases hs : 40 < picks.length
  · have d : decide ((40 : Int) < ((picks.map encB).length : Nat)) = true := decide_eq_true (by omega)
    refine FnC.of_awp (T := tt) (ok := tok) Try.func6 (by kernel_rfl) rfl (by kernel_rfl) (closedL_cons (closed_bs picks) closedL_nil) (fun w0 st0 => ?_)
    dsimp only [frOf]
    (repeat' (first | refine awp_seq ?_ | refine awp_block ?_ | refine awp_rg hmix ?_ | refine ARun.o rfl ?_ | refine callX (c0) rfl rfl rfl rfl ?_ | ((first | refine ARun.f ?_ | refine awp_skip ?_ | refine awp_exit ?_); dsimp only [thenA, blockA, AS.bump, List.length_cons, List.length_nil, reduceIte, Nat.reduceEqDiff]) | refine awp_cT rfl ?_ | refine awp_cF rfl ?_ | ((fail_if_success refine ARun.plain rfl ?_); first | refine ARun.kT rfl rfl rfl ?_ | refine ARun.kF rfl rfl rfl ?_)))
    exact awp_ret ⟨_, ResL.cons (ResA.tmp (.val _)) .nil, rfl⟩
  have d : decide ((40 : Int) < ((picks.map encB).length : Nat)) = false := decide_eq_false (by omega)
  have cf := fresh_c
  have k8 := ref_cnames_c
  have hnm : nmC.length = 13 := rfl
  have hnm2 : (nmC.map encN).length = 13 := by rw [List.length_map]; exact hnm
  have hnn : ∀ j nm, nmC[j]? = some nm → (nmC.map encN)[j]? = some (encN nm) := fun j nm h => by rw [List.getElem?_map, h]; rfl
  have hI0 := invK_0
  have bc : ∀ (v : V) (l : List Cfr) (j : Nat) (nm : Bs) (n : Nat), nmC[j]? = some nm → InvK v l (n + 1000) → FnC Try.prog 25 [.agg (encV v), encLCf l, St nm] (encVLE (brI j v l)) := fun v l j nm n h1 h2 => by
    have := bracket_c v l nm h2.right.2 h2.right.lv (h2.ok.le (by omega))
    rw [brN_at h1] at this
    exact this
  have xdo := ref_xt_c nDo
  have xun := ref_xt_c nUn
  have xbr := ref_xt_c nBr
  have xzb := ref_xt_c nZb
  have xqd := ref_xt_c nQdo
  have xlp := ref_xt_c nLp
  have xpl := ref_xt_c nPl
  unfold nDo at xdo
  unfold nUn at xun
  unfold nBr at xbr
  unfold nZb at xzb
  unfold nQdo at xqd
  unfold nLp at xlp
  unfold nPl at xpl
  generalize v0 = vv0 at *
  generalize hnne : nmC.map encN = nn at *
  refine FnC.of_awp (T := tt) (ok := tok) Try.func6 (by kernel_rfl) rfl (by kernel_rfl) (closedL_cons (closed_bs picks) closedL_nil) (fun w0 st0 => ?_)
  dsimp only [frOf]
  (repeat' (first | refine awp_seq ?_ | refine awp_block ?_ | refine awp_region_ne 7 rfl (fun _ => hmix) ?_ | refine ARun.o rfl ?_ | refine callX (c0) rfl rfl rfl rfl ?_ | refine callX (cf) rfl rfl rfl rfl ?_ | refine callX (k8) rfl rfl rfl rfl ?_ | ((first | refine ARun.f ?_ | refine awp_skip ?_ | refine awp_exit ?_); dsimp only [thenA, blockA, AS.bump, List.length_cons, List.length_nil, reduceIte, Nat.reduceEqDiff]) | refine awp_cT rfl ?_ | refine awp_cF rfl ?_ | ((fail_if_success refine ARun.plain rfl ?_); first | refine ARun.kT rfl rfl rfl ?_ | refine ARun.kF rfl rfl rfl ?_ | refine ARun.fork rfl rfl rfl (fun h => ?_) (fun h => ?_)) | refine awp_cond rfl (fun h => ?_) (fun h => ?_)))
  clear c0 cf k8 d
  refine awp_wkF 5 (encLCf []) (.nil _ _ _) ?_
  (repeat' (first | refine awp_seq ?_ | refine awp_block ?_ | refine awp_region_ne 100 rfl (fun _ => hmix) ?_ | refine ARun.o rfl ?_ | ((first | refine ARun.f ?_ | refine awp_skip ?_ | refine awp_exit ?_); dsimp only [thenA, blockA, AS.bump, List.length_cons, List.length_nil, reduceIte, Nat.reduceEqDiff]) | refine awp_cT rfl ?_ | refine awp_cF rfl ?_ | ((fail_if_success refine ARun.plain rfl ?_); first | refine ARun.kT rfl rfl rfl ?_ | refine ARun.kF rfl rfl rfl ?_ | refine ARun.fork rfl rfl rfl (fun h => ?_) (fun h => ?_)) | refine awp_cond rfl (fun h => ?_) (fun h => ?_)))
  refine awp_loopT (T := Nat × V × List Cfr × Nat) (fun t => ⟨[(7, .val (.int .i64 (t.1 : Nat))), (0, encBs picks), (6, .sl 1 true nn), (4, .ptr 4 7 0 0), (5, encLCf t.2.2.1), (3, .val (.bool true)), (2, .val (.bool false))], [(4, some ⟨7, 23, [encV t.2.1]⟩)], t.2.2.2⟩) (fun t => t.1 ≤ picks.length ∧ InvK t.2.1 t.2.2.1 (20000 - 63 * t.1)) (fun t => picks.length - t.1) (0, vv0, [], _) ⟨Nat.zero_le _, hI0⟩ ⟨⟨rfl, rfl, rfl, rfl, rfl, rfl, rfl, trivial⟩, ⟨rfl, trivial⟩, Nat.le_refl _⟩ (fun t ht => ?_)
  obtain ⟨i, v, l, gc⟩ := t
  obtain ⟨hi, hI⟩ := ht
  dsimp only at hi hI ⊢
  clear hI0
  by_cases hlt : i < picks.length
  · have hp : picks[i]? = some picks[i] := List.getElem?_eq_getElem hlt
    have hc : decide (((i : Nat) : Int) < (((picks.map encB).length : Nat) : Int)) = true := decide_eq_true (by omega)
    generalize picks[i] = b at hp
    have hb : b.toNat < 256 := b.toNat_lt
    have e0 : ((b.toNat : Nat) : Int).tmod ((nn.length : Nat) : Int) = ((b.toNat % 13 : Nat) : Int) := by rw [hnm2, Int.tmod_eq_emod_of_nonneg (by omega)]; omega
    have hj : (0 : Int) ≤ ((b.toNat : Nat) : Int).tmod ((nn.length : Nat) : Int) := by rw [e0]; omega
    have hj13 : b.toNat % 13 < 13 := by omega
    obtain ⟨nm, hnmk⟩ : ∃ nm, nmC[b.toNat % 13]? = some nm := ⟨_, List.getElem?_eq_getElem (by rw [hnm]; omega)⟩
    have hp2 : nn[(((b.toNat : Nat) : Int).tmod ((nn.length : Nat) : Int)).toNat]? = some (encN nm) := by rw [e0, Int.toNat_natCast]; exact hnn _ _ hnmk
    have c1 := bc v l _ nm (19000 - 63 * i) hnmk (by rw [show 19000 - 63 * i + 1000 = 20000 - 63 * i by omega]; exact hI)
    have hst := invK_step hj13 (n := 20000 - 63 * (i + 1)) (by rw [show 20000 - 63 * (i + 1) + 63 = 20000 - 63 * i by omega]; exact hI)
    clear hnmk bc hnn e0
    generalize brI (b.toNat % 13) v l = p at *
    unfold encVLE at c1
    by_cases hz : p.2.2 = 0
    · have d1 : (p.2.2 == 0) = true := by simp [hz]
      have h2 := hst hz
      (repeat' (first | refine awp_seq ?_ | refine awp_block ?_ | refine awp_rg hmix ?_ | refine ARun.o rfl ?_ | refine ARun.indexAddr rfl rfl (by first | omega | assumption | (dsimp only; omega)) (by first | with_reducible assumption | with_reducible exact get_map hp | rfl) rfl rfl rfl rfl rfl (guardF_spec rfl) ?_ | refine callX (c1) rfl rfl rfl rfl ?_ | ((first | refine ARun.f ?_ | refine awp_skip ?_ | refine awp_exit ?_); dsimp only [thenA, blockA, AS.bump, List.length_cons, List.length_nil, reduceIte, Nat.reduceEqDiff]) | refine awp_cT rfl ?_ | refine awp_cF rfl ?_ | ((fail_if_success refine ARun.plain rfl ?_); first | refine ARun.kT rfl rfl rfl ?_ | refine ARun.kF rfl rfl rfl ?_)))
      exact ⟨(i + 1, p.1, p.2.1, _), ⟨⟨succI i, rfl, rfl, rfl, rfl, rfl, rfl, trivial⟩, ⟨rfl, trivial⟩, Nat.le_refl _⟩, ⟨hlt, h2⟩, (by dsimp only; omega)⟩
    · have d1 : (p.2.2 == 0) = false := by simp [hz]
      (repeat' (first | refine awp_seq ?_ | refine awp_block ?_ | refine awp_rg hmix ?_ | refine ARun.o rfl ?_ | refine ARun.indexAddr rfl rfl (by first | omega | assumption | (dsimp only; omega)) (by first | with_reducible assumption | with_reducible exact get_map hp | rfl) rfl rfl rfl rfl rfl (guardF_spec rfl) ?_ | refine callX (c1) rfl rfl rfl rfl ?_ | ((first | refine ARun.f ?_ | refine awp_skip ?_ | refine awp_exit ?_); dsimp only [thenA, blockA, AS.bump, List.length_cons, List.length_nil, reduceIte, Nat.reduceEqDiff]) | refine awp_cT rfl ?_ | refine awp_cF rfl ?_ | ((fail_if_success refine ARun.plain rfl ?_); first | refine ARun.kT rfl rfl rfl ?_ | refine ARun.kF rfl rfl rfl ?_)))
      exact ⟨(i + 1, v, l, _), ⟨⟨succI i, rfl, rfl, rfl, rfl, rfl, rfl, trivial⟩, ⟨rfl, trivial⟩, Nat.le_refl _⟩, ⟨hlt, hI.1, hI.2.le (by omega)⟩, (by dsimp only; omega)⟩
  have hii : i = picks.length := by omega
  have hc : decide (((i : Nat) : Int) < (((picks.map encB).length : Nat) : Int)) = false := decide_eq_false (by omega)
  have hI2 : InvK v l 15000 := ⟨hI.1, hI.2.le (by omega)⟩
  clear hI hii hlt hi
  (repeat' (first | refine awp_seq ?_ | refine awp_block ?_ | refine awp_rg hmix ?_ | refine ARun.o rfl ?_ | ((first | refine ARun.f ?_ | refine awp_skip ?_ | refine awp_exit ?_); dsimp only [thenA, blockA, AS.bump, List.length_cons, List.length_nil, reduceIte, Nat.reduceEqDiff]) | refine awp_cT rfl ?_ | refine awp_cF rfl ?_ | ((fail_if_success refine ARun.plain rfl ?_); first | refine ARun.kT rfl rfl rfl ?_ | refine ARun.kF rfl rfl rfl ?_)))
  clear hc
  refine awp_loopT (T := Nat × V × List Cfr × Nat) (fun t => ⟨[(11, .val (.int .i64 (t.1 : Nat))), (4, .ptr 4 7 0 0), (5, encLCf t.2.2.1), (3, .val (.bool true)), (2, .val (.bool false))], [(4, some ⟨7, 23, [encV t.2.1]⟩)], t.2.2.2⟩) (fun t => t.1 + t.2.2.1.length ≤ 32 ∧ InvK t.2.1 t.2.2.1 (15000 - 63 * t.1)) (fun t => 40 - t.1) (0, v, l, _) ⟨by have := hI2.right.2; dsimp only; omega, hI2⟩ ⟨⟨rfl, rfl, rfl, rfl, rfl, trivial⟩, ⟨rfl, trivial⟩, Nat.le_refl _⟩ (fun t ht => ?_)
  clear hI2
  obtain ⟨i, v, l, gc⟩ := t
  obtain ⟨hi, hI⟩ := ht
  dsimp only at hi hI ⊢
  have el : (((l.map encCf).length : Nat) : Int) = l.length := by rw [List.length_map]
  have z0 : ((0 : Int) != 0) = false := by simp
  have z1 : ((0 : Int) == -8) = false := by simp
  have z2 : ((-8 : Int) == -8) = true := by simp
  have nt : (!true) = false := rfl
  by_cases hl : 0 < l.length
  · have hc : decide (((i : Nat) : Int) < 40) = true := decide_eq_true (by omega)
    have hc2 : decide ((0 : Int) < (((l.map encCf).length : Nat) : Int)) = true := decide_eq_true (by omega)
    have cr := ref_cright_c l (by omega)
    rw [pD_yes hI.right] at cr
    obtain ⟨j, ⟨nm, hj, hk⟩, hout⟩ := invK_end hI hl
    have hj13 : j < 13 := by omega
    have c1 := bc v l j nm (14000 - 63 * i) hj (by rw [show 14000 - 63 * i + 1000 = 15000 - 63 * i by omega]; exact hI)
    have hst := invK_step hj13 (n := 15000 - 63 * (i + 1)) (by rw [show 15000 - 63 * (i + 1) + 63 = 15000 - 63 * i by omega]; exact hI)
    have hlast : l[l.length - 1]? = some (lastC l) := by
      unfold lastC
      rw [List.getLast?_eq_getElem?, List.getElem?_eq_getElem (by omega)]
      rfl
    have hp : (l.map encCf)[((((l.map encCf).length : Nat) : Int) - 1).toNat]? = some (encCf (lastC l)) := by
      rw [el, show (((l.length : Nat) : Int) - 1).toNat = l.length - 1 by omega, List.getElem?_map, hlast]
      rfl
    generalize lastC l = c at *
    obtain ⟨ck, ca, cl⟩ := c
    dsimp only at hk
    unfold encVLE at c1
    rcases hout with ho | ho
    · rw [ho] at c1
      dsimp only at c1
      rcases hk with ⟨rfl, rfl⟩ | ⟨rfl, rfl⟩ | ⟨rfl, rfl⟩
      · obtain rfl := Option.some.inj hj
        (repeat' (first | refine awp_seq ?_ | refine awp_block ?_ | refine awp_rg hmix ?_ | refine ARun.o rfl ?_ | refine callX (cr) rfl rfl rfl rfl ?_ | refine ARun.indexAddr rfl rfl (by first | omega | assumption | (dsimp only; omega)) (by first | with_reducible assumption | with_reducible exact get_map hp | rfl) rfl rfl rfl rfl rfl (guardF_spec rfl) ?_ | refine callX (c1) rfl rfl rfl rfl ?_ | ((first | refine ARun.f ?_ | refine awp_skip ?_ | refine awp_exit ?_); dsimp only [thenA, blockA, AS.bump, List.length_cons, List.length_nil, reduceIte, Nat.reduceEqDiff]) | refine awp_cT rfl ?_ | refine awp_cF rfl ?_ | ((fail_if_success refine ARun.plain rfl ?_); first | refine ARun.kT rfl rfl rfl ?_ | refine ARun.kF rfl rfl rfl ?_)))
        exact awp_ret ⟨_, ResL.cons (ResA.tmp (.val _)) .nil, rfl⟩
      · obtain rfl := Option.some.inj hj
        (repeat' (first | refine awp_seq ?_ | refine awp_block ?_ | refine awp_rg hmix ?_ | refine ARun.o rfl ?_ | refine callX (cr) rfl rfl rfl rfl ?_ | refine ARun.indexAddr rfl rfl (by first | omega | assumption | (dsimp only; omega)) (by first | with_reducible assumption | with_reducible exact get_map hp | rfl) rfl rfl rfl rfl rfl (guardF_spec rfl) ?_ | refine callX (c1) rfl rfl rfl rfl ?_ | ((first | refine ARun.f ?_ | refine awp_skip ?_ | refine awp_exit ?_); dsimp only [thenA, blockA, AS.bump, List.length_cons, List.length_nil, reduceIte, Nat.reduceEqDiff]) | refine awp_cT rfl ?_ | refine awp_cF rfl ?_ | ((fail_if_success refine ARun.plain rfl ?_); first | refine ARun.kT rfl rfl rfl ?_ | refine ARun.kF rfl rfl rfl ?_)))
        exact awp_ret ⟨_, ResL.cons (ResA.tmp (.val _)) .nil, rfl⟩
      · obtain rfl := Option.some.inj hj
        (repeat' (first | refine awp_seq ?_ | refine awp_block ?_ | refine awp_rg hmix ?_ | refine ARun.o rfl ?_ | refine callX (cr) rfl rfl rfl rfl ?_ | refine ARun.indexAddr rfl rfl (by first | omega | assumption | (dsimp only; omega)) (by first | with_reducible assumption | with_reducible exact get_map hp | rfl) rfl rfl rfl rfl rfl (guardF_spec rfl) ?_ | refine callX (c1) rfl rfl rfl rfl ?_ | ((first | refine ARun.f ?_ | refine awp_skip ?_ | refine awp_exit ?_); dsimp only [thenA, blockA, AS.bump, List.length_cons, List.length_nil, reduceIte, Nat.reduceEqDiff]) | refine awp_cT rfl ?_ | refine awp_cF rfl ?_ | ((fail_if_success refine ARun.plain rfl ?_); first | refine ARun.kT rfl rfl rfl ?_ | refine ARun.kF rfl rfl rfl ?_)))
        exact awp_ret ⟨_, ResL.cons (ResA.tmp (.val _)) .nil, rfl⟩
    · have h2 := hst ho.1
      generalize brI j v l = p at *
      obtain ⟨x, m, e⟩ := p
      dsimp only at ho h2 c1
      obtain ⟨he, hml⟩ := ho
      subst he
      have d3 : ((((m.map encCf).length : Nat) : Int) != (((l.map encCf).length : Nat) : Int) - 1) = false := by rw [el, List.length_map]; simp; omega
      rcases hk with ⟨rfl, rfl⟩ | ⟨rfl, rfl⟩ | ⟨rfl, rfl⟩
      · obtain rfl := Option.some.inj hj
        (repeat' (first | refine awp_seq ?_ | refine awp_block ?_ | refine awp_rg hmix ?_ | refine ARun.o rfl ?_ | refine callX (cr) rfl rfl rfl rfl ?_ | refine ARun.indexAddr rfl rfl (by first | omega | assumption | (dsimp only; omega)) (by first | with_reducible assumption | with_reducible exact get_map hp | rfl) rfl rfl rfl rfl rfl (guardF_spec rfl) ?_ | refine callX (c1) rfl rfl rfl rfl ?_ | ((first | refine ARun.f ?_ | refine awp_skip ?_ | refine awp_exit ?_); dsimp only [thenA, blockA, AS.bump, List.length_cons, List.length_nil, reduceIte, Nat.reduceEqDiff]) | refine awp_cT rfl ?_ | refine awp_cF rfl ?_ | ((fail_if_success refine ARun.plain rfl ?_); first | refine ARun.kT rfl rfl rfl ?_ | refine ARun.kF rfl rfl rfl ?_)))
        exact ⟨(i + 1, x, m, _), ⟨⟨succI i, rfl, rfl, rfl, rfl, trivial⟩, ⟨rfl, trivial⟩, Nat.le_refl _⟩, ⟨(by dsimp only; omega), h2⟩, (by dsimp only; omega)⟩
      · obtain rfl := Option.some.inj hj
        (repeat' (first | refine awp_seq ?_ | refine awp_block ?_ | refine awp_rg hmix ?_ | refine ARun.o rfl ?_ | refine callX (cr) rfl rfl rfl rfl ?_ | refine ARun.indexAddr rfl rfl (by first | omega | assumption | (dsimp only; omega)) (by first | with_reducible assumption | with_reducible exact get_map hp | rfl) rfl rfl rfl rfl rfl (guardF_spec rfl) ?_ | refine callX (c1) rfl rfl rfl rfl ?_ | ((first | refine ARun.f ?_ | refine awp_skip ?_ | refine awp_exit ?_); dsimp only [thenA, blockA, AS.bump, List.length_cons, List.length_nil, reduceIte, Nat.reduceEqDiff]) | refine awp_cT rfl ?_ | refine awp_cF rfl ?_ | ((fail_if_success refine ARun.plain rfl ?_); first | refine ARun.kT rfl rfl rfl ?_ | refine ARun.kF rfl rfl rfl ?_)))
        exact ⟨(i + 1, x, m, _), ⟨⟨succI i, rfl, rfl, rfl, rfl, trivial⟩, ⟨rfl, trivial⟩, Nat.le_refl _⟩, ⟨(by dsimp only; omega), h2⟩, (by dsimp only; omega)⟩
      · obtain rfl := Option.some.inj hj
        (repeat' (first | refine awp_seq ?_ | refine awp_block ?_ | refine awp_rg hmix ?_ | refine ARun.o rfl ?_ | refine callX (cr) rfl rfl rfl rfl ?_ | refine ARun.indexAddr rfl rfl (by first | omega | assumption | (dsimp only; omega)) (by first | with_reducible assumption | with_reducible exact get_map hp | rfl) rfl rfl rfl rfl rfl (guardF_spec rfl) ?_ | refine callX (c1) rfl rfl rfl rfl ?_ | ((first | refine ARun.f ?_ | refine awp_skip ?_ | refine awp_exit ?_); dsimp only [thenA, blockA, AS.bump, List.length_cons, List.length_nil, reduceIte, Nat.reduceEqDiff]) | refine awp_cT rfl ?_ | refine awp_cF rfl ?_ | ((fail_if_success refine ARun.plain rfl ?_); first | refine ARun.kT rfl rfl rfl ?_ | refine ARun.kF rfl rfl rfl ?_)))
        exact ⟨(i + 1, x, m, _), ⟨⟨succI i, rfl, rfl, rfl, rfl, trivial⟩, ⟨rfl, trivial⟩, Nat.le_refl _⟩, ⟨(by dsimp only; omega), h2⟩, (by dsimp only; omega)⟩
  obtain rfl : l = [] := List.length_eq_zero_iff.1 (by omega)
  have hc : decide (((i : Nat) : Int) < 40) = true := decide_eq_true (by simp at hi; omega)
  have hc2 : decide ((0 : Int) < (((([] : List Cfr).map encCf).length : Nat) : Int)) = false := decide_eq_false (by rw [List.map_nil, List.length_nil]; omega)
  obtain ⟨⟨f, h, L, hV⟩, hok⟩ := hI
  clear bc hl el hnn
  (repeat' (first | refine awp_seq ?_ | refine awp_block ?_ | refine awp_rg hmix ?_ | refine ARun.o rfl ?_ | ((first | refine ARun.f ?_ | refine awp_skip ?_ | refine awp_exit ?_); dsimp only [thenA, blockA, AS.bump, List.length_cons, List.length_nil, reduceIte, Nat.reduceEqDiff]) | refine awp_cT rfl ?_ | refine awp_cF rfl ?_ | ((fail_if_success refine ARun.plain rfl ?_); first | refine ARun.kT rfl rfl rfl ?_ | refine ARun.kF rfl rfl rfl ?_)))
  clear hc hc2 hi
  refine awp_loopT (T := List Bool × Nat) (fun t => ⟨[(16, .val (.int .i64 ((8 * pos t.1 : Nat) : Int))), (4, .ptr 4 7 0 0), (5, encLCf []), (3, .val (.bool true)), (2, .val (.bool false))], [(4, some ⟨7, 23, [encV v]⟩)], t.2⟩) (fun t => ∃ A, L = A ++ t.1) (fun t => L.length - t.1.length) ([], _) ⟨L, by rw [List.append_nil]⟩ ⟨⟨rfl, rfl, rfl, rfl, rfl, trivial⟩, ⟨rfl, trivial⟩, Nat.le_refl _⟩ (fun t ht => ?_)
  obtain ⟨R, gc⟩ := t
  obtain ⟨A, hA⟩ := ht
  dsimp only at hA ⊢
  have hhere := hV.fl.here
  have hmb := hV.fl.b
  have hh := hV.hh
  have hml : v.m.b.length ≤ 1000000 := hok.b
  rcases List.eq_nil_or_concat A with e | ⟨A', b, e⟩
  · subst e
    have hR : R = L := hA.symm
    have hpp : pos R = h := by rw [hR]; exact hV.ps
    have hc : decide (((8 * pos R : Nat) : Int) < v.here) = false := decide_eq_false (by rw [hhere]; omega)
    have hc2 : (((8 * pos R : Nat) : Int) == v.here) = true := beq_iff_eq.2 (by rw [hhere]; omega)
    have hc4 : ((((([] : List Cfr).map encCf).length : Nat) : Int) == 0) = true := by simp
    (repeat' (first | refine awp_seq ?_ | refine awp_block ?_ | refine awp_rg hmix ?_ | refine ARun.o rfl ?_ | ((first | refine ARun.f ?_ | refine awp_skip ?_ | refine awp_exit ?_); dsimp only [thenA, blockA, AS.bump, List.length_cons, List.length_nil, reduceIte, Nat.reduceEqDiff]) | refine awp_cT rfl ?_ | refine awp_cF rfl ?_ | ((fail_if_success refine ARun.plain rfl ?_); first | refine ARun.kT rfl rfl rfl ?_ | refine ARun.kF rfl rfl rfl ?_)))
    exact awp_ret ⟨_, ResL.cons (ResA.tmp (.val _)) .nil, congrArg (fun b => AV.val (.bool b)) hc4.symm⟩
  · rw [List.concat_eq_append] at e
    subst e
    rw [List.append_assoc] at hA
    have hA' : L = A' ++ b :: R := hA
    have hlt : pos R < h := by rw [← hV.ps, hA']; exact pos_lt
    have hc : decide (((8 * pos R : Nat) : Int) < v.here) = true := decide_eq_true (by rw [hhere]; omega)
    have hmu : L.length - (b :: R).length < L.length - R.length := by rw [hA', List.length_append, List.length_cons]; omega
    cases b with
    | false =>
      have hx := hV.wf.sg _ _ hA'
      have hrng : -9223372036854775808 ≤ f (pos R) ∧ f (pos R) ≤ 9223372036854775807 := by rcases hx with h | h <;> rw [h] <;> exact xt_rng _
      have c1 := Mem.ref_fetch_c v.m ((8 * pos R : Nat) : Int) hml
      rw [fetch_flat hmb (by omega) hrng] at c1
      generalize f (pos R) = x at *
      by_cases h1 : x = xtD nDo
      · have d1 : (x == xtD nDo) = true := beq_iff_eq.2 h1
        (repeat' (first | refine awp_seq ?_ | refine awp_block ?_ | refine awp_rg hmix ?_ | refine ARun.o rfl ?_ | refine callX (c1) rfl rfl rfl rfl ?_ | refine callX (xdo) rfl rfl rfl rfl ?_ | refine callX (xun) rfl rfl rfl rfl ?_ | ((first | refine ARun.f ?_ | refine awp_skip ?_ | refine awp_exit ?_); dsimp only [thenA, blockA, AS.bump, List.length_cons, List.length_nil, reduceIte, Nat.reduceEqDiff]) | refine awp_cT rfl ?_ | refine awp_cF rfl ?_ | ((fail_if_success refine ARun.plain rfl ?_); first | refine ARun.kT rfl rfl rfl ?_ | refine ARun.kF rfl rfl rfl ?_)))
        exact ⟨(false :: R, _), ⟨⟨by show _ = _; congr 2, rfl, rfl, rfl, rfl, trivial⟩, ⟨rfl, trivial⟩, Nat.le_refl _⟩, ⟨A', hA'⟩, hmu⟩
      · have d1 : (x == xtD nDo) = false := beq_eq_false_iff_ne.2 h1
        have d2 : (x == xtD nUn) = true := beq_iff_eq.2 (hx.resolve_left h1)
        (repeat' (first | refine awp_seq ?_ | refine awp_block ?_ | refine awp_rg hmix ?_ | refine ARun.o rfl ?_ | refine callX (c1) rfl rfl rfl rfl ?_ | refine callX (xdo) rfl rfl rfl rfl ?_ | refine callX (xun) rfl rfl rfl rfl ?_ | ((first | refine ARun.f ?_ | refine awp_skip ?_ | refine awp_exit ?_); dsimp only [thenA, blockA, AS.bump, List.length_cons, List.length_nil, reduceIte, Nat.reduceEqDiff]) | refine awp_cT rfl ?_ | refine awp_cF rfl ?_ | ((fail_if_success refine ARun.plain rfl ?_); first | refine ARun.kT rfl rfl rfl ?_ | refine ARun.kF rfl rfl rfl ?_)))
        exact ⟨(false :: R, _), ⟨⟨by show _ = _; congr 2, rfl, rfl, rfl, rfl, trivial⟩, ⟨rfl, trivial⟩, Nat.le_refl _⟩, ⟨A', hA'⟩, hmu⟩
    | true =>
      have hx := hV.wf.br _ _ hA'
      have hx2 := brx_not hx
      have hlt2 : pos R + 1 < h := by rw [← hV.ps, hA']; exact pos_lt2
      have hy : tgt h (f (pos R + 1)) := by
        rcases hV.b (pos R + 1) ⟨A', R, hA', rfl⟩ with k | ⟨c, k, _⟩
        · exact k
        · cases k
      obtain ⟨tt', t1, t2, t3⟩ := hy
      have hrng : -9223372036854775808 ≤ f (pos R) ∧ f (pos R) ≤ 9223372036854775807 := by rcases hx with h | h | h | h | h <;> rw [h] <;> exact xt_rng _
      have c1 := Mem.ref_fetch_c v.m ((8 * pos R : Nat) : Int) hml
      rw [fetch_flat hmb (by omega) hrng] at c1
      have c2 := Mem.ref_fetch_c v.m (((8 * pos R : Nat) : Int) + 8) hml
      rw [show ((8 * pos R : Nat) : Int) + 8 = ((8 * (pos R + 1) : Nat) : Int) by omega, fetch_flat hmb (by omega) (by rw [t3]; omega), show ((8 * (pos R + 1) : Nat) : Int) = ((8 * pos R : Nat) : Int) + 8 by omega] at c2
      rw [t3] at c2
      have k1 : decide (((8 * tt' : Nat) : Int) < 1368) = false := decide_eq_false (by omega)
      have k2 : decide (v.here < ((8 * tt' : Nat) : Int)) = false := decide_eq_false (by rw [hhere]; omega)
      have k3 : (((8 * tt' : Nat) : Int).tmod 8 != 0) = false := by
        rw [Int.tmod_eq_emod_of_nonneg (by omega)]
        simp
      generalize f (pos R) = x at *
      have a1 : (x == xtD nDo) = false := beq_eq_false_iff_ne.2 hx2.1
      have a2 : (x == xtD nUn) = false := beq_eq_false_iff_ne.2 hx2.2
      have fin : ((8 * pos (true :: R) : Nat) : Int) = ((8 * pos R : Nat) : Int) + 8 + 8 := by show ((8 * (pos R + 2) : Nat) : Int) = _; omega
      have fin2 : AV.val (.int .i64 (((8 * pos R : Nat) : Int) + 8 + 8)) = AV.val (.int .i64 ((8 * pos (true :: R) : Nat) : Int)) := by rw [fin]
      clear fin hA hV t3
      by_cases h1 : x = xtD nBr
      · have d1 : (x == xtD nBr) = true := beq_iff_eq.2 h1
        (repeat' (first | refine awp_seq ?_ | refine awp_block ?_ | refine awp_rg hmix ?_ | refine ARun.o rfl ?_ | refine callX (c1) rfl rfl rfl rfl ?_ | refine callX (c2) rfl rfl rfl rfl ?_ | refine callX (xdo) rfl rfl rfl rfl ?_ | refine callX (xun) rfl rfl rfl rfl ?_ | refine callX (xbr) rfl rfl rfl rfl ?_ | refine callX (xzb) rfl rfl rfl rfl ?_ | refine callX (xqd) rfl rfl rfl rfl ?_ | refine callX (xlp) rfl rfl rfl rfl ?_ | refine callX (xpl) rfl rfl rfl rfl ?_ | ((first | refine ARun.f ?_ | refine awp_skip ?_ | refine awp_exit ?_); dsimp only [thenA, blockA, AS.bump, List.length_cons, List.length_nil, reduceIte, Nat.reduceEqDiff]) | refine awp_cT rfl ?_ | refine awp_cF rfl ?_ | ((fail_if_success refine ARun.plain rfl ?_); first | refine ARun.kT rfl rfl rfl ?_ | refine ARun.kF rfl rfl rfl ?_)))
        exact ⟨(true :: R, _), ⟨⟨fin2, rfl, rfl, rfl, rfl, trivial⟩, ⟨rfl, trivial⟩, Nat.le_refl _⟩, ⟨A', hA'⟩, hmu⟩
      have d1 : (x == xtD nBr) = false := beq_eq_false_iff_ne.2 h1
      by_cases h2 : x = xtD nZb
      · have d2 : (x == xtD nZb) = true := beq_iff_eq.2 h2
        (repeat' (first | refine awp_seq ?_ | refine awp_block ?_ | refine awp_rg hmix ?_ | refine ARun.o rfl ?_ | refine callX (c1) rfl rfl rfl rfl ?_ | refine callX (c2) rfl rfl rfl rfl ?_ | refine callX (xdo) rfl rfl rfl rfl ?_ | refine callX (xun) rfl rfl rfl rfl ?_ | refine callX (xbr) rfl rfl rfl rfl ?_ | refine callX (xzb) rfl rfl rfl rfl ?_ | refine callX (xqd) rfl rfl rfl rfl ?_ | refine callX (xlp) rfl rfl rfl rfl ?_ | refine callX (xpl) rfl rfl rfl rfl ?_ | ((first | refine ARun.f ?_ | refine awp_skip ?_ | refine awp_exit ?_); dsimp only [thenA, blockA, AS.bump, List.length_cons, List.length_nil, reduceIte, Nat.reduceEqDiff]) | refine awp_cT rfl ?_ | refine awp_cF rfl ?_ | ((fail_if_success refine ARun.plain rfl ?_); first | refine ARun.kT rfl rfl rfl ?_ | refine ARun.kF rfl rfl rfl ?_)))
        exact ⟨(true :: R, _), ⟨⟨fin2, rfl, rfl, rfl, rfl, trivial⟩, ⟨rfl, trivial⟩, Nat.le_refl _⟩, ⟨A', hA'⟩, hmu⟩
      have d2 : (x == xtD nZb) = false := beq_eq_false_iff_ne.2 h2
      by_cases h3 : x = xtD nQdo
      · have d3 : (x == xtD nQdo) = true := beq_iff_eq.2 h3
        (repeat' (first | refine awp_seq ?_ | refine awp_block ?_ | refine awp_rg hmix ?_ | refine ARun.o rfl ?_ | refine callX (c1) rfl rfl rfl rfl ?_ | refine callX (c2) rfl rfl rfl rfl ?_ | refine callX (xdo) rfl rfl rfl rfl ?_ | refine callX (xun) rfl rfl rfl rfl ?_ | refine callX (xbr) rfl rfl rfl rfl ?_ | refine callX (xzb) rfl rfl rfl rfl ?_ | refine callX (xqd) rfl rfl rfl rfl ?_ | refine callX (xlp) rfl rfl rfl rfl ?_ | refine callX (xpl) rfl rfl rfl rfl ?_ | ((first | refine ARun.f ?_ | refine awp_skip ?_ | refine awp_exit ?_); dsimp only [thenA, blockA, AS.bump, List.length_cons, List.length_nil, reduceIte, Nat.reduceEqDiff]) | refine awp_cT rfl ?_ | refine awp_cF rfl ?_ | ((fail_if_success refine ARun.plain rfl ?_); first | refine ARun.kT rfl rfl rfl ?_ | refine ARun.kF rfl rfl rfl ?_)))
        exact ⟨(true :: R, _), ⟨⟨fin2, rfl, rfl, rfl, rfl, trivial⟩, ⟨rfl, trivial⟩, Nat.le_refl _⟩, ⟨A', hA'⟩, hmu⟩
      have d3 : (x == xtD nQdo) = false := beq_eq_false_iff_ne.2 h3
      by_cases h4 : x = xtD nLp
      · have d4 : (x == xtD nLp) = true := beq_iff_eq.2 h4
        (repeat' (first | refine awp_seq ?_ | refine awp_block ?_ | refine awp_rg hmix ?_ | refine ARun.o rfl ?_ | refine callX (c1) rfl rfl rfl rfl ?_ | refine callX (c2) rfl rfl rfl rfl ?_ | refine callX (xdo) rfl rfl rfl rfl ?_ | refine callX (xun) rfl rfl rfl rfl ?_ | refine callX (xbr) rfl rfl rfl rfl ?_ | refine callX (xzb) rfl rfl rfl rfl ?_ | refine callX (xqd) rfl rfl rfl rfl ?_ | refine callX (xlp) rfl rfl rfl rfl ?_ | refine callX (xpl) rfl rfl rfl rfl ?_ | ((first | refine ARun.f ?_ | refine awp_skip ?_ | refine awp_exit ?_); dsimp only [thenA, blockA, AS.bump, List.length_cons, List.length_nil, reduceIte, Nat.reduceEqDiff]) | refine awp_cT rfl ?_ | refine awp_cF rfl ?_ | ((fail_if_success refine ARun.plain rfl ?_); first | refine ARun.kT rfl rfl rfl ?_ | refine ARun.kF rfl rfl rfl ?_)))
        exact ⟨(true :: R, _), ⟨⟨fin2, rfl, rfl, rfl, rfl, trivial⟩, ⟨rfl, trivial⟩, Nat.le_refl _⟩, ⟨A', hA'⟩, hmu⟩
      have d4 : (x == xtD nLp) = false := beq_eq_false_iff_ne.2 h4
      have d5 : (x == xtD nPl) = true := by
        rcases hx with h | h | h | h | h
        · exact absurd h h1
        · exact absurd h h2
        · exact absurd h h3
        · exact absurd h h4
        · exact beq_iff_eq.2 h
      have d6 : (!(x == xtD nPl)) = false := by rw [d5]; rfl
      (repeat' (first | refine awp_seq ?_ | refine awp_block ?_ | refine awp_rg hmix ?_ | refine ARun.o rfl ?_ | refine callX (c1) rfl rfl rfl rfl ?_ | refine callX (c2) rfl rfl rfl rfl ?_ | refine callX (xdo) rfl rfl rfl rfl ?_ | refine callX (xun) rfl rfl rfl rfl ?_ | refine callX (xbr) rfl rfl rfl rfl ?_ | refine callX (xzb) rfl rfl rfl rfl ?_ | refine callX (xqd) rfl rfl rfl rfl ?_ | refine callX (xlp) rfl rfl rfl rfl ?_ | refine callX (xpl) rfl rfl rfl rfl ?_ | ((first | refine ARun.f ?_ | refine awp_skip ?_ | refine awp_exit ?_); dsimp only [thenA, blockA, AS.bump, List.length_cons, List.length_nil, reduceIte, Nat.reduceEqDiff]) | refine awp_cT rfl ?_ | refine awp_cF rfl ?_ | ((fail_if_success refine ARun.plain rfl ?_); first | refine ARun.kT rfl rfl rfl ?_ | refine ARun.kF rfl rfl rfl ?_)))
      exact ⟨(true :: R, _), ⟨⟨fin2, rfl, rfl, rfl, rfl, trivial⟩, ⟨rfl, trivial⟩, Nat.le_refl _⟩, ⟨A', hA'⟩, hmu⟩
end Go.Proofs.Ytpkkplojpjakiaa
/- cflow: CflowMatches returns true. -/
namespace Go.Proofs.Ytpkkplojpjakiaa
set_option linter.unusedVariables false
set_option linter.unusedSimpArgs false
open Go Go.RowKit
open Go.Proofs.Ytpkkplojpjakiaa.Dict (St Bs bs_eq Wd encW encWs closed_ws)
open Go.Proofs.Ytpkkplojpjakiaa.Mem (Mm encM encBs closed_bs encP encP_closed closed_m fetchD)
open Go.Proofs.Ytpkkplojpjakiaa.Stk (encS closed_s)
set_option maxRecDepth 100000
def fitB (i : Nat) (l : List Cfr) : Bool :=
  if i = 0 ∨ i = 3 ∨ i = 8 ∨ i = 9 then decide (l.length < 32)
  else if i = 1 ∨ i = 2 then decide (lastK l 0 = 1)
  else if i = 4 then decide (lastK l 0 = 2 ∧ l.length < 32)
  else if i = 5 then decide (lastK l 0 = 2 ∧ lastK l 1 = 1)
  else if i = 6 ∨ i = 7 then decide (lastK l 0 = 2)
  else if i = 10 ∨ i = 11 then decide (lastK l 0 = 3)
  else decide (0 ≤ loopAt l ∧ leavesAt l (loopAt l) < 32)
theorem fitB_ok {i : Nat} {l : List Cfr} (h : fitB i l = true) : FitC i l := by
  unfold fitB at h
  unfold FitC
  repeat' split at h
  all_goals simp_all
def vAt (h : Nat) : V := withMH vZero vZero.m ((8 * h : Nat) : Int)
theorem plan_here {i : Nat} {v w : V} {l : List Cfr} (h : v.here = w.here) : planD i v l = planD i w l := by
  unfold planD
  rw [h]
def stM (s : List Cfr × Nat) (i : Nat) : List Cfr × Nat := ((planD i (vAt s.2) s.1).2.2, s.2 + (planD i (vAt s.2) s.1).1.length)
def okM (s : List Cfr × Nat) (i : Nat) : Bool := fitB i s.1 && decide (s.2 + (planD i (vAt s.2) s.1).1.length ≤ 256) && (planD i (vAt s.2) s.1).2.1.all (fun a => decide (0 ≤ a ∧ a < 2048 ∧ a % 8 = 0)) && s.1.all (fun c => decide (c.lv.length ≤ 60)) && decide (s.1.length ≤ 32)
def rowM (k : Nat) : List Nat := match k with
  | 0 => [0, 2]
  | 1 => [0, 1, 2]
  | 2 => [3, 6]
  | 3 => [3, 7]
  | 4 => [3, 4, 5]
  | 5 => [8, 10]
  | 6 => [9, 11]
  | 7 => [8, 0, 12, 2, 10]
  | _ => [3, 4, 4, 5, 2]
def beg (n : Nat) : List Cfr := List.replicate n ⟨2, 1368, []⟩
def atM (k n i : Nat) : List Cfr × Nat := ((rowM k).take i).foldl stM (beg n, 171)
def goodM (k n : Nat) : Bool := ((List.range (rowM k).length).all fun i => match (rowM k)[i]? with | some j => okM (atM k n i) j | none => true) && decide ((atM k n (rowM k).length).1.length = n ∧ (atM k n (rowM k).length).2 ≤ 183)
theorem good_all : ((List.range 9).all fun k => (List.range 25).all fun n => goodM k n) = true := by kernel_rfl
theorem good_at {k n : Nat} (hk : k < 9) (hn : n < 25) : (∀ i j, (rowM k)[i]? = some j → okM (atM k n i) j = true ∧ atM k n (i + 1) = stM (atM k n i) j) ∧ (atM k n (rowM k).length).1.length = n ∧ (atM k n (rowM k).length).2 ≤ 183 := by
  have h := good_all
  rw [List.all_eq_true] at h
  have h1 := h k (List.mem_range.2 hk)
  rw [List.all_eq_true] at h1
  have h2 := h1 n (List.mem_range.2 hn)
  unfold goodM at h2
  rw [Bool.and_eq_true, List.all_eq_true, decide_eq_true_eq] at h2
  refine ⟨fun i j hj => ⟨?_, ?_⟩, h2.2⟩
  · have h3 := h2.1 i (List.mem_range.2 (List.getElem?_eq_some_iff.1 hj).1)
    rw [hj] at h3
    exact h3
  · unfold atM
    rw [List.take_add_one, hj, List.foldl_append]
    rfl
theorem step_M {v : V} {f : Nat → Int} {s : List Cfr × Nat} {i : Nat} (hv : Fl v f s.2) (h : okM s i = true) : ∃ v' f', brI i v s.1 = (v', (stM s i).1, 0) ∧ Fl v' f' (stM s i).2 := by
  unfold okM at h
  simp only [Bool.and_eq_true, decide_eq_true_eq, List.all_eq_true] at h
  obtain ⟨⟨⟨⟨h1, h2⟩, h3⟩, h4⟩, h5⟩ := h
  have e : planD i v s.1 = planD i (vAt s.2) s.1 := plan_here hv.here
  obtain ⟨v', h6, h7⟩ := brI_fl (fitB_ok h1) hv (by rw [e]; exact h2) (by
    rw [e]
    intro a ha
    have := h3 a ha
    exact ⟨(a / 8).toNat, by omega, by omega⟩)
  rw [e] at h6 h7
  exact ⟨v', _, h6, h7⟩
theorem okM_row {s : List Cfr × Nat} {i : Nat} (h : okM s i = true) : s.1.length ≤ 32 ∧ ∀ c, c ∈ s.1 → c.lv.length ≤ 60 := by
  unfold okM at h
  simp only [Bool.and_eq_true, decide_eq_true_eq, List.all_eq_true] at h
  exact ⟨h.2, h.1.2⟩
theorem beg_step {n : Nat} (h : n < 32) : brI 3 v0 (beg n) = (v0, beg (n + 1), 0) := by
  rw [brI_yes (show FitC 3 (beg n) by show (beg n).length < 32; unfold beg; rw [List.length_replicate]; exact h)]
  show (v0, (beg n).take ((beg n).length - 0) ++ [⟨2, v0.here, []⟩], (0 : Int)) = _
  rw [take_all, show v0.here = 1368 from rfl]
  unfold beg
  rw [List.replicate_succ']
theorem beg_lv (n : Nat) : ∀ c, c ∈ beg n → c.lv.length ≤ 60 := fun c hc => by rw [(List.mem_replicate.1 hc).2]; decide
def nmM (k : Nat) : List Bs := (rowM k).map fun i => nmC[i]?.getD []
theorem nmM_at {k i : Nat} {nm : Bs} (hk : k < 9) (h : (nmM k)[i]? = some nm) : ∃ j, (rowM k)[i]? = some j ∧ nmC[j]? = some nm := by
  unfold nmM at h
  rw [List.getElem?_map] at h
  cases hj : (rowM k)[i]? with
  | none => rw [hj] at h; cases h
  | some j =>
    rw [hj] at h
    have hm : j ∈ rowM k := List.mem_of_getElem? hj
    have h13 : j < 13 := by
      have hall : ((List.range 9).all fun k => (rowM k).all fun j => decide (j < 13)) = true := by kernel_rfl
      rw [List.all_eq_true] at hall
      have h1 := hall k (List.mem_range.2 hk)
      rw [List.all_eq_true] at h1
      exact of_decide_eq_true (h1 j hm)
    refine ⟨j, rfl, ?_⟩
    have h2 : nmC[j]? = some nmC[j] := List.getElem?_eq_getElem h13
    have h4 : nmC[j]?.getD [] = nm := Option.some.inj h
    rw [h2] at h4 ⊢
    exact congrArg some h4
theorem last_M {k j : Nat} (hk : k < 9) (h : (rowM k)[(rowM k).length - 1]? = some j) : ¬ FitC j [] := by
  match k, hk with
  | 0, _ => obtain rfl := Option.some.inj h; exact fit_nil _ (by omega)
  | 1, _ => obtain rfl := Option.some.inj h; exact fit_nil _ (by omega)
  | 2, _ => obtain rfl := Option.some.inj h; exact fit_nil _ (by omega)
  | 3, _ => obtain rfl := Option.some.inj h; exact fit_nil _ (by omega)
  | 4, _ => obtain rfl := Option.some.inj h; exact fit_nil _ (by omega)
  | 5, _ => obtain rfl := Option.some.inj h; exact fit_nil _ (by omega)
  | 6, _ => obtain rfl := Option.some.inj h; exact fit_nil _ (by omega)
  | 7, _ => obtain rfl := Option.some.inj h; exact fit_nil _ (by omega)
  | 8, _ => obtain rfl := Option.some.inj h; exact fit_nil _ (by omega)
attribute [local irreducible] Decidable.decide awp ARun regK toK
set_option maxHeartbeats 32000000 in
theorem matches13_c (k d : Int) (hk : 0 ≤ k ∧ k ≤ 255) (hd : 0 ≤ d ∧ d ≤ 255) : FnC Try.prog 7 [.val (.int .u8 k), .val (.int .u8 d)] (.val (.bool true)) := by
  have c0 := shown13_c
  have cf := fresh_c
  have ek : k.tmod 9 = k % 9 := Int.tmod_eq_emod_of_nonneg hk.1
  obtain ⟨kk, hkk, ekk⟩ : ∃ kk : Nat, kk < 9 ∧ k.tmod 9 = (kk : Nat) := ⟨(k % 9).toNat, by omega, by omega⟩
  have ed : d.tmod 25 = d % 25 := Int.tmod_eq_emod_of_nonneg hd.1
  obtain ⟨n, hn, en⟩ : ∃ n : Nat, n < 25 ∧ d.tmod 25 = (n : Nat) := ⟨(d % 25).toNat, by omega, by omega⟩
  obtain ⟨hgood, hlen, hend⟩ := good_at hkk hn
  have hat := fun i nm => nmM_at (i := i) (nm := nm) hkk
  have hlast := fun j => last_M (j := j) hkk
  have hlm : (nmM kk).length = (rowM kk).length := by unfold nmM; rw [List.length_map]
  have hr0 : 2 ≤ (rowM kk).length := by
    have hall : ((List.range 9).all fun k => decide (2 ≤ (rowM k).length)) = true := by kernel_rfl
    rw [List.all_eq_true] at hall
    exact of_decide_eq_true (hall kk (List.mem_range.2 hkk))
  have hr5 : (rowM kk).length ≤ 5 := by
    have hall : ((List.range 9).all fun k => decide ((rowM k).length ≤ 5)) = true := by kernel_rfl
    rw [List.all_eq_true] at hall
    exact of_decide_eq_true (hall kk (List.mem_range.2 hkk))
  have h0 : Fl v0 f0 171 := v0_fl
  have hb0 := fun n h => beg_step (n := n) h
  have hok0 := v0_okk 20000 (by omega)
  have bc : ∀ (v : V) (l : List Cfr) (j : Nat) (nm : Bs), nmC[j]? = some nm → l.length ≤ 32 → (∀ c, c ∈ l → c.lv.length ≤ 60) → Okk v 1000 → FnC Try.prog 25 [.agg (encV v), encLCf l, St nm] (encVLE (brI j v l)) := fun v l j nm h1 h2 h3 h4 => by
    have := bracket_c v l nm h2 h3 h4
    rw [brN_at h1] at this
    exact this
  have z0 : ((0 : Int) != 0) = false := by simp
  have z1 : ((-22 : Int) != -22) = false := by simp
  have hj : (0 : Int) ≤ k.tmod 9 := by omega
  generalize v0 = vv0 at *
  refine FnC.of_awp (T := tt) (ok := tok) Try.func7 (by kernel_rfl) rfl (by kernel_rfl) (closedL_cons (.val _) (closedL_cons (.val _) closedL_nil)) (fun w0 st0 => ?_)
  dsimp only [frOf]
  (repeat' (first | refine awp_seq ?_ | refine awp_block ?_ | refine awp_region_ne 3 rfl (fun _ => hmix) ?_ | refine ARun.o rfl ?_ | refine callX (c0) rfl rfl rfl rfl ?_ | ((first | refine ARun.f ?_ | refine awp_skip ?_ | refine awp_exit ?_); dsimp only [thenA, blockA, AS.bump, List.length_cons, List.length_nil, reduceIte, Nat.reduceEqDiff]) | refine awp_cT rfl ?_ | refine awp_cF rfl ?_ | ((fail_if_success refine ARun.plain rfl ?_); first | refine ARun.kT rfl rfl rfl ?_ | refine ARun.kF rfl rfl rfl ?_ | refine ARun.fork rfl rfl rfl (fun h => ?_) (fun h => ?_)) | refine awp_cond rfl (fun h => ?_) (fun h => ?_)))
  have hrow : ∀ RW : List (List AV), RW = [[.sl 1 true ((nmM 0).map encN)], [.sl 1 true ((nmM 1).map encN)], [.sl 1 true ((nmM 2).map encN)], [.sl 1 true ((nmM 3).map encN)], [.sl 1 true ((nmM 4).map encN)], [.sl 1 true ((nmM 5).map encN)], [.sl 1 true ((nmM 6).map encN)], [.sl 1 true ((nmM 7).map encN)], [.sl 1 true ((nmM 8).map encN)]] → RW[(k.tmod 9).toNat]? = some [.sl 1 true ((nmM kk).map encN)] := fun RW h => by
    rw [h, ekk, Int.toNat_natCast]
    match kk, hkk with
    | 0, _ => rfl
    | 1, _ => rfl
    | 2, _ => rfl
    | 3, _ => rfl
    | 4, _ => rfl
    | 5, _ => rfl
    | 6, _ => rfl
    | 7, _ => rfl
    | 8, _ => rfl
  (repeat' (first | refine awp_seq ?_ | refine awp_block ?_ | refine awp_region_ne 7 rfl (fun _ => hmix) ?_ | refine ARun.o rfl ?_ | refine callX (cf) rfl rfl rfl rfl ?_ | refine ARun.indexAddr rfl rfl (by first | omega | assumption) (hrow _ rfl) rfl rfl rfl rfl rfl (guardF_spec rfl) ?_ | ((first | refine ARun.f ?_ | refine awp_skip ?_ | refine awp_exit ?_); dsimp only [thenA, blockA, AS.bump, List.length_cons, List.length_nil, reduceIte, Nat.reduceEqDiff]) | refine awp_cT rfl ?_ | refine awp_cF rfl ?_ | ((fail_if_success refine ARun.plain rfl ?_); first | refine ARun.kT rfl rfl rfl ?_ | refine ARun.kF rfl rfl rfl ?_ | refine ARun.fork rfl rfl rfl (fun h => ?_) (fun h => ?_)) | refine awp_cond rfl (fun h => ?_) (fun h => ?_)))
  clear c0 cf hrow
  refine awp_wkF 9 (encLCf (beg 0)) (.nil _ _ _) ?_
  (repeat' (first | refine awp_seq ?_ | refine awp_block ?_ | refine awp_region_ne 100 rfl (fun _ => hmix) ?_ | refine ARun.o rfl ?_ | ((first | refine ARun.f ?_ | refine awp_skip ?_ | refine awp_exit ?_); dsimp only [thenA, blockA, AS.bump, List.length_cons, List.length_nil, reduceIte, Nat.reduceEqDiff]) | refine awp_cT rfl ?_ | refine awp_cF rfl ?_ | ((fail_if_success refine ARun.plain rfl ?_); first | refine ARun.kT rfl rfl rfl ?_ | refine ARun.kF rfl rfl rfl ?_ | refine ARun.fork rfl rfl rfl (fun h => ?_) (fun h => ?_)) | refine awp_cond rfl (fun h => ?_) (fun h => ?_)))
  refine awp_loopT (T := Nat × Nat) (fun t => ⟨[(11, .val (.int .i64 (t.1 : Nat))), (10, .val (.int .i64 (d.tmod 25))), (7, .sl 1 true ((nmM kk).map encN)), (8, .ptr 8 24 0 0), (9, encLCf (beg t.1)), (5, .val (.bool true)), (4, .val (.bool false))], [(8, some ⟨24, 23, [encV vv0]⟩)], t.2⟩) (fun t => t.1 ≤ n) (fun t => n - t.1) (0, _) (Nat.zero_le _) ⟨⟨rfl, rfl, rfl, rfl, rfl, rfl, rfl, trivial⟩, ⟨rfl, trivial⟩, Nat.le_refl _⟩ (fun t ht => ?_)
  obtain ⟨i, gc⟩ := t
  dsimp only at ht ⊢
  by_cases hlt : i < n
  · have hc : decide (((i : Nat) : Int) < d.tmod 25) = true := decide_eq_true (by omega)
    have c1 := bc vv0 (beg i) 3 [66, 69, 71, 73, 78] rfl (by unfold beg; rw [List.length_replicate]; omega) (beg_lv i) (hok0.le (by omega))
    rw [hb0 i (by omega)] at c1
    unfold encVLE at c1
    dsimp only at c1
    (repeat' (first | refine awp_seq ?_ | refine awp_block ?_ | refine awp_rg hmix ?_ | refine ARun.o rfl ?_ | refine callX (c1) rfl rfl rfl rfl ?_ | ((first | refine ARun.f ?_ | refine awp_skip ?_ | refine awp_exit ?_); dsimp only [thenA, blockA, AS.bump, List.length_cons, List.length_nil, reduceIte, Nat.reduceEqDiff]) | refine awp_cT rfl ?_ | refine awp_cF rfl ?_ | ((fail_if_success refine ARun.plain rfl ?_); first | refine ARun.kT rfl rfl rfl ?_ | refine ARun.kF rfl rfl rfl ?_)))
    exact ⟨(i + 1, _), ⟨⟨succI i, rfl, rfl, rfl, rfl, rfl, rfl, trivial⟩, ⟨rfl, trivial⟩, Nat.le_refl _⟩, hlt, (by dsimp only; omega)⟩
  have hii : i = n := by omega
  subst hii
  have hc : decide (((i : Nat) : Int) < d.tmod 25) = false := decide_eq_false (by omega)
  (repeat' (first | refine awp_seq ?_ | refine awp_block ?_ | refine awp_rg hmix ?_ | refine ARun.o rfl ?_ | ((first | refine ARun.f ?_ | refine awp_skip ?_ | refine awp_exit ?_); dsimp only [thenA, blockA, AS.bump, List.length_cons, List.length_nil, reduceIte, Nat.reduceEqDiff]) | refine awp_cT rfl ?_ | refine awp_cF rfl ?_ | ((fail_if_success refine ARun.plain rfl ?_); first | refine ARun.kT rfl rfl rfl ?_ | refine ARun.kF rfl rfl rfl ?_)))
  clear hc hb0 hlt ht
  refine awp_loopT (T := Nat × V × Nat) (fun t => ⟨[(15, .val (.int .i64 (t.1 : Nat))), (10, .val (.int .i64 (d.tmod 25))), (7, .sl 1 true ((nmM kk).map encN)), (8, .ptr 8 24 0 0), (9, encLCf (atM kk i t.1).1), (5, .val (.bool true)), (4, .val (.bool false))], [(8, some ⟨24, 23, [encV t.2.1]⟩)], t.2.2⟩) (fun t => t.1 ≤ (rowM kk).length ∧ (∃ f, Fl t.2.1 f (atM kk i t.1).2) ∧ Okk t.2.1 (10000 - 63 * t.1)) (fun t => (rowM kk).length - t.1) (0, vv0, _) ⟨Nat.zero_le _, ⟨_, h0⟩, hok0.le (by omega)⟩ ⟨⟨rfl, rfl, rfl, rfl, rfl, rfl, rfl, trivial⟩, ⟨rfl, trivial⟩, Nat.le_refl _⟩ (fun t ht => ?_)
  obtain ⟨j, v, gc⟩ := t
  obtain ⟨hj2, ⟨f, hF⟩, hok⟩ := ht
  dsimp only at hj2 hF hok ⊢
  have el : ((((nmM kk).map encN).length : Nat) : Int) = (rowM kk).length := by rw [List.length_map, hlm]
  clear hok0 h0
  by_cases hlt : j < (rowM kk).length
  · have hp : (nmM kk)[j]? = some (nmM kk)[j] := List.getElem?_eq_getElem (by rw [hlm]; exact hlt)
    generalize (nmM kk)[j] = nm at hp
    obtain ⟨r, hr, hnm⟩ := hat j nm hp
    obtain ⟨hokm, hnext⟩ := hgood j r hr
    obtain ⟨v', f', e, hF'⟩ := step_M hF hokm
    have hrow := okM_row hokm
    have c1 := bc v _ r nm hnm hrow.1 hrow.2 (hok.le (by omega))
    have hok' : Okk v' (10000 - 63 * (j + 1)) := by
      have := (lays_brI (i := r) hok.rng hrow.2).okk (n := 10000 - 63 * (j + 1)) (hok.le (by omega))
      rw [e] at this
      exact this
    rw [e] at c1
    rw [← hnext] at c1 hF'
    have hc : decide (((j : Nat) : Int) < (((nmM kk).map encN).length : Nat)) = true := decide_eq_true (by omega)
    unfold encVLE at c1
    dsimp only at c1
    by_cases h1 : 0 < j
    · have d1 : decide ((0 : Int) < ((j : Nat) : Int)) = true := decide_eq_true (by omega)
      by_cases h2 : j = (rowM kk).length - 1
      · have d2 : (((j : Nat) : Int) == (((nmM kk).map encN).length : Nat) - 1) = true := beq_iff_eq.2 (by omega)
        have c2 := bc v' [] r nm hnm (by decide) (fun c h => by cases h) (hok'.le (by omega))
        rw [brI_no (hlast r (by rw [← h2]; exact hr))] at c2
        unfold encVLE at c2
        dsimp only at c2
        clear bc hgood hat hlast
        (repeat' (first | refine awp_seq ?_ | refine awp_block ?_ | refine awp_rg hmix ?_ | refine ARun.o rfl ?_ | refine ARun.indexAddr rfl rfl (by first | omega | assumption | (dsimp only; omega)) (by with_reducible first | assumption | exact get_map hp) rfl rfl rfl rfl rfl (guardF_spec rfl) ?_ | refine callX (c1) rfl rfl rfl rfl ?_ | refine callW (c2) rfl (by (repeat (refine WkL.cons (by first | exact Wk.same _ | exact Wk.nilSl | exact Wk.weak _ _ _ | exact Wk.aggL (by (repeat (refine WkL.cons (by first | exact Wk.same _ | exact Wk.nilSl | exact Wk.weak _ _ _) ?_)); exact WkL.nil)) ?_)); exact WkL.nil) rfl rfl ?_ | ((first | refine ARun.f ?_ | refine awp_skip ?_ | refine awp_exit ?_); dsimp only [thenA, blockA, AS.bump, List.length_cons, List.length_nil, reduceIte, Nat.reduceEqDiff]) | refine awp_cT rfl ?_ | refine awp_cF rfl ?_ | ((fail_if_success refine ARun.plain rfl ?_); first | refine ARun.kT rfl rfl rfl ?_ | refine ARun.kF rfl rfl rfl ?_)))
        exact ⟨(j + 1, v', _), ⟨⟨succI j, rfl, rfl, rfl, rfl, rfl, rfl, trivial⟩, ⟨rfl, trivial⟩, Nat.le_refl _⟩, ⟨hlt, ⟨_, hF'⟩, hok'⟩, (by dsimp only; omega)⟩
      · have d2 : (((j : Nat) : Int) == (((nmM kk).map encN).length : Nat) - 1) = false := beq_eq_false_iff_ne.2 (by omega)
        clear bc hgood hat hlast
        (repeat' (first | refine awp_seq ?_ | refine awp_block ?_ | refine awp_rg hmix ?_ | refine ARun.o rfl ?_ | refine ARun.indexAddr rfl rfl (by first | omega | assumption | (dsimp only; omega)) (by with_reducible first | assumption | exact get_map hp) rfl rfl rfl rfl rfl (guardF_spec rfl) ?_ | refine callX (c1) rfl rfl rfl rfl ?_ | ((first | refine ARun.f ?_ | refine awp_skip ?_ | refine awp_exit ?_); dsimp only [thenA, blockA, AS.bump, List.length_cons, List.length_nil, reduceIte, Nat.reduceEqDiff]) | refine awp_cT rfl ?_ | refine awp_cF rfl ?_ | ((fail_if_success refine ARun.plain rfl ?_); first | refine ARun.kT rfl rfl rfl ?_ | refine ARun.kF rfl rfl rfl ?_)))
        exact ⟨(j + 1, v', _), ⟨⟨succI j, rfl, rfl, rfl, rfl, rfl, rfl, trivial⟩, ⟨rfl, trivial⟩, Nat.le_refl _⟩, ⟨hlt, ⟨_, hF'⟩, hok'⟩, (by dsimp only; omega)⟩
    · have d1 : decide ((0 : Int) < ((j : Nat) : Int)) = false := decide_eq_false (by omega)
      clear bc hgood hat hlast
      (repeat' (first | refine awp_seq ?_ | refine awp_block ?_ | refine awp_rg hmix ?_ | refine ARun.o rfl ?_ | refine ARun.indexAddr rfl rfl (by first | omega | assumption | (dsimp only; omega)) (by with_reducible first | assumption | exact get_map hp) rfl rfl rfl rfl rfl (guardF_spec rfl) ?_ | refine callX (c1) rfl rfl rfl rfl ?_ | ((first | refine ARun.f ?_ | refine awp_skip ?_ | refine awp_exit ?_); dsimp only [thenA, blockA, AS.bump, List.length_cons, List.length_nil, reduceIte, Nat.reduceEqDiff]) | refine awp_cT rfl ?_ | refine awp_cF rfl ?_ | ((fail_if_success refine ARun.plain rfl ?_); first | refine ARun.kT rfl rfl rfl ?_ | refine ARun.kF rfl rfl rfl ?_)))
      exact ⟨(j + 1, v', _), ⟨⟨succI j, rfl, rfl, rfl, rfl, rfl, rfl, trivial⟩, ⟨rfl, trivial⟩, Nat.le_refl _⟩, ⟨hlt, ⟨_, hF'⟩, hok'⟩, (by dsimp only; omega)⟩
  have hjj : j = (rowM kk).length := by omega
  have hc : decide (((j : Nat) : Int) < (((nmM kk).map encN).length : Nat)) = false := decide_eq_false (by omega)
  have hhere := hF.here
  rw [hjj] at hhere
  have g1 : (((((atM kk i j).1.map encCf).length : Nat) : Int) == d.tmod 25) = true := beq_iff_eq.2 (by rw [List.length_map, hjj, hlen, en])
  have g2 : decide (v.here ≤ 1464) = true := decide_eq_true (by rw [hhere]; omega)
  clear bc hgood hat hlast
  (repeat' (first | refine awp_seq ?_ | refine awp_block ?_ | refine awp_rg hmix ?_ | refine ARun.o rfl ?_ | ((first | refine ARun.f ?_ | refine awp_skip ?_ | refine awp_exit ?_); dsimp only [thenA, blockA, AS.bump, List.length_cons, List.length_nil, reduceIte, Nat.reduceEqDiff]) | refine awp_cT rfl ?_ | refine awp_cF rfl ?_ | ((fail_if_success refine ARun.plain rfl ?_); first | refine ARun.kT rfl rfl rfl ?_ | refine ARun.kF rfl rfl rfl ?_)))
  exact awp_ret ⟨_, ResL.cons (ResA.tmp (.val _)) .nil, congrArg (fun b => AV.val (.bool b)) g2.symm⟩
end Go.Proofs.Ytpkkplojpjakiaa
