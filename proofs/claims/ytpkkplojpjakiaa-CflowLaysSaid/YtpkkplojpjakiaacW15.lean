/- cX8, cX9, cX10, cX11, cX12. -/
import Derived.Test.YtpkkplojpjakiaaW1
import Derived.Test.YtpkkplojpjakiaaW2
import Derived.Test.YtpkkplojpjakiaaW3
import Derived.Test.YtpkkplojpjakiaaW4
import Derived.Test.YtpkkplojpjakiaacW5
import Derived.Test.YtpkkplojpjakiaacW6
import Derived.Test.YtpkkplojpjakiaacW7
import Derived.Test.YtpkkplojpjakiaacW8
import Derived.Test.YtpkkplojpjakiaacW9
import Derived.Test.YtpkkplojpjakiaacW10
import Derived.Test.YtpkkplojpjakiaacW11
import Derived.Test.YtpkkplojpjakiaacW12
import Derived.Test.YtpkkplojpjakiaacW13
import Derived.Test.YtpkkplojpjakiaacW14
/- cflow: brackets that are the same. -/
namespace Go.Proofs.Ytpkkplojpjakiaa
set_option linter.unusedVariables false
set_option linter.unusedSimpArgs false
open Go Go.RowKit
open Dict (St Bs bs_eq Wd encW encWs closed_ws)
open Mem (Mm encM encBs closed_bs encP encP_closed closed_m storeD fetchD commaD)
open Stk (encS closed_s)
set_option maxRecDepth 100000
theorem sameI_pD (a b : List Int) : Stk.sameD a b = pD (a = b) := by unfold Stk.sameD; exact dec_pD _
theorem Cfr.ext' {a b : Cfr} (h1 : a.kind = b.kind) (h2 : a.at' = b.at') (h3 : a.lv = b.lv) : a = b := by
  cases a
  cases b
  simp only at h1 h2 h3
  subst h1 h2 h3
  rfl
attribute [local irreducible] Decidable.decide awp ARun regK toK
set_option maxHeartbeats 4000000 in
theorem cf1_c (p q : Cfr) (hl : p.lv.length ≤ 1000000) : FnC Try.prog 32 [.agg (encCf p), .agg (encCf q)] (.val (.bool (pD (p = q)))) := by
  have c1 := eqI_c p.lv q.lv hl
  by_cases h1 : p.kind = q.kind
  case neg =>
    have d1 : (p.kind == q.kind) = false := by simp [h1]
    rw [pD_no (fun h => h1 (by rw [h]))]
    refine FnC.of_awp (T := tt) (ok := tok) Try.func32 (by kernel_rfl) rfl (by kernel_rfl) (closedL_cons (.agg (encCf_closed p)) (closedL_cons (.agg (encCf_closed q)) closedL_nil)) (fun w0 st0 => ?_)
    dsimp only [frOf]
    (repeat' (first | refine awp_seq ?_ | refine awp_block ?_ | refine awp_rg hmix ?_ | refine ARun.o rfl ?_ | refine callX (c1) rfl rfl rfl rfl ?_ | ((first | refine ARun.f ?_ | refine awp_skip ?_ | refine awp_exit ?_); dsimp only [thenA, blockA, AS.bump, List.length_cons, List.length_nil, reduceIte, Nat.reduceEqDiff]) | refine awp_cT rfl ?_ | refine awp_cF rfl ?_ | ((fail_if_success refine ARun.plain rfl ?_); first | refine ARun.kT rfl rfl rfl ?_ | refine ARun.kF rfl rfl rfl ?_)))
    exact awp_ret ⟨_, ResL.cons (ResA.tmp (.val _)) .nil, rfl⟩
  have d1 : (p.kind == q.kind) = true := by simp [h1]
  by_cases h2 : p.at' = q.at'
  case neg =>
    have d2 : (p.at' == q.at') = false := by simp [h2]
    rw [pD_no (fun h => h2 (by rw [h]))]
    refine FnC.of_awp (T := tt) (ok := tok) Try.func32 (by kernel_rfl) rfl (by kernel_rfl) (closedL_cons (.agg (encCf_closed p)) (closedL_cons (.agg (encCf_closed q)) closedL_nil)) (fun w0 st0 => ?_)
    dsimp only [frOf]
    (repeat' (first | refine awp_seq ?_ | refine awp_block ?_ | refine awp_rg hmix ?_ | refine ARun.o rfl ?_ | refine callX (c1) rfl rfl rfl rfl ?_ | ((first | refine ARun.f ?_ | refine awp_skip ?_ | refine awp_exit ?_); dsimp only [thenA, blockA, AS.bump, List.length_cons, List.length_nil, reduceIte, Nat.reduceEqDiff]) | refine awp_cT rfl ?_ | refine awp_cF rfl ?_ | ((fail_if_success refine ARun.plain rfl ?_); first | refine ARun.kT rfl rfl rfl ?_ | refine ARun.kF rfl rfl rfl ?_)))
    exact awp_ret ⟨_, ResL.cons (ResA.tmp (.val _)) .nil, rfl⟩
  have d2 : (p.at' == q.at') = true := by simp [h2]
  by_cases h3 : p.lv = q.lv
  case neg =>
    rw [decide_eq_false h3] at c1
    rw [pD_no (fun h => h3 (by rw [h]))]
    refine FnC.of_awp (T := tt) (ok := tok) Try.func32 (by kernel_rfl) rfl (by kernel_rfl) (closedL_cons (.agg (encCf_closed p)) (closedL_cons (.agg (encCf_closed q)) closedL_nil)) (fun w0 st0 => ?_)
    dsimp only [frOf]
    (repeat' (first | refine awp_seq ?_ | refine awp_block ?_ | refine awp_rg hmix ?_ | refine ARun.o rfl ?_ | refine callX (c1) rfl rfl rfl rfl ?_ | ((first | refine ARun.f ?_ | refine awp_skip ?_ | refine awp_exit ?_); dsimp only [thenA, blockA, AS.bump, List.length_cons, List.length_nil, reduceIte, Nat.reduceEqDiff]) | refine awp_cT rfl ?_ | refine awp_cF rfl ?_ | ((fail_if_success refine ARun.plain rfl ?_); first | refine ARun.kT rfl rfl rfl ?_ | refine ARun.kF rfl rfl rfl ?_)))
    exact awp_ret ⟨_, ResL.cons (ResA.tmp (.val _)) .nil, rfl⟩
  rw [decide_eq_true h3] at c1
  rw [pD_yes (Cfr.ext' h1 h2 h3)]
  refine FnC.of_awp (T := tt) (ok := tok) Try.func32 (by kernel_rfl) rfl (by kernel_rfl) (closedL_cons (.agg (encCf_closed p)) (closedL_cons (.agg (encCf_closed q)) closedL_nil)) (fun w0 st0 => ?_)
  dsimp only [frOf]
  (repeat' (first | refine awp_seq ?_ | refine awp_block ?_ | refine awp_rg hmix ?_ | refine ARun.o rfl ?_ | refine callX (c1) rfl rfl rfl rfl ?_ | ((first | refine ARun.f ?_ | refine awp_skip ?_ | refine awp_exit ?_); dsimp only [thenA, blockA, AS.bump, List.length_cons, List.length_nil, reduceIte, Nat.reduceEqDiff]) | refine awp_cT rfl ?_ | refine awp_cF rfl ?_ | ((fail_if_success refine ARun.plain rfl ?_); first | refine ARun.kT rfl rfl rfl ?_ | refine ARun.kF rfl rfl rfl ?_)))
  exact awp_ret ⟨_, ResL.cons (ResA.tmp (.val _)) .nil, rfl⟩
set_option maxHeartbeats 4000000 in
theorem cfeqfunc_c (a b : List Cfr) (hla : a.length ≤ 1000000) (hv : ∀ c, c ∈ a → c.lv.length ≤ 1000000) : FnC Try.prog 34 [.sl 3 false (a.map encCf), .sl 3 false (b.map encCf), .val (.func (.func 32) #[] #[])] (.val (.bool (pD (a = b)))) := by
  by_cases hl : a.length = b.length
  · have d1 : ((((a.map encCf).length : Nat) : Int) != (((b.map encCf).length : Nat) : Int)) = false := by simp [hl]
    refine FnC.of_awp (T := tt) (ok := tok) Try.func34 (by kernel_rfl) rfl (by kernel_rfl) (closedL_cons (closed_map encCf_closed) (closedL_cons (closed_map encCf_closed) (closedL_cons (.val _) closedL_nil))) (fun w0 st0 => ?_)
    dsimp only [frOf]
    (repeat' (first | refine awp_seq ?_ | refine awp_block ?_ | refine awp_rg hmix ?_ | refine ARun.o rfl ?_ | ((first | refine ARun.f ?_ | refine awp_skip ?_ | refine awp_exit ?_); dsimp only [thenA, blockA, AS.bump, List.length_cons, List.length_nil, reduceIte, Nat.reduceEqDiff]) | refine awp_cT rfl ?_ | refine awp_cF rfl ?_ | ((fail_if_success refine ARun.plain rfl ?_); first | refine ARun.kT rfl rfl rfl ?_ | refine ARun.kF rfl rfl rfl ?_ | refine ARun.fork rfl rfl rfl (fun h => ?_) (fun h => ?_)) | refine awp_cond rfl (fun h => ?_) (fun h => ?_)))
    refine awp_loopT (T := Nat × Nat) (fun t => ⟨[(17, .val (.int .i64 (t.1 : Nat))), (16, .val (.int .i64 (((a.map encCf).length : Nat)))), (15, .sl 3 false (a.map encCf)), (1, .sl 3 false (b.map encCf)), (2, .val (.func (.func 32) #[] #[]))], [], t.2⟩) (fun t => t.1 ≤ a.length ∧ a.take t.1 = b.take t.1) (fun t => a.length - t.1) (0, _) ⟨Nat.zero_le _, rfl⟩ ⟨⟨rfl, rfl, rfl, rfl, rfl, trivial⟩, trivial, Nat.le_refl _⟩ (fun t ht => ?_)
    obtain ⟨k, gc⟩ := t
    obtain ⟨hk, hA⟩ := ht
    dsimp only at hk hA ⊢
    clear d1
    by_cases hlt : k < a.length
    · have hp : a[k]? = some a[k] := List.getElem?_eq_getElem hlt
      have hm : a[k] ∈ a := List.getElem_mem hlt
      have hq : b[k]? = some b[k] := List.getElem?_eq_getElem (by omega)
      have hc : decide (((k : Nat) : Int) < (((a.map encCf).length : Nat) : Int)) = true := by simp; omega
      have e1 := take_succ' hp
      have e2 := take_succ' hq
      have hne : ∀ x y, a[k]? = some x → b[k]? = some y → x ≠ y → pD (a = b) = false := fun x y hx hy hxy => pD_no (fun h => hxy (by rw [h, hy] at hx; exact (Option.some.inj hx).symm))
      generalize a[k] = p at hp e1 hm
      generalize b[k] = q at hq e2
      have c1 := cf1_c p q (hv p hm)
      by_cases h3 : p = q
      · rw [pD_yes h3] at c1
        (repeat' (first | refine awp_seq ?_ | refine awp_block ?_ | refine awp_rg hmix ?_ | refine ARun.o rfl ?_ | refine ARun.indexAddr rfl rfl (by omega) (by first | with_reducible exact get_map hp | with_reducible exact get_map hq) rfl rfl rfl rfl rfl (guardF_spec rfl) ?_ | refine callX (c1) rfl rfl rfl rfl ?_ | ((first | refine ARun.f ?_ | refine awp_skip ?_ | refine awp_exit ?_); dsimp only [thenA, blockA, AS.bump, List.length_cons, List.length_nil, reduceIte, Nat.reduceEqDiff]) | refine awp_cT rfl ?_ | refine awp_cF rfl ?_ | ((fail_if_success refine ARun.plain rfl ?_); first | refine ARun.kT rfl rfl rfl ?_ | refine ARun.kF rfl rfl rfl ?_ | refine ARun.fork rfl rfl rfl (fun h => ?_) (fun h => ?_)) | refine awp_cond rfl (fun h => ?_) (fun h => ?_)))
        refine ⟨(k + 1, _), ⟨⟨succI k, rfl, rfl, rfl, rfl, trivial⟩, trivial, Nat.le_refl _⟩, ⟨hlt, ?_⟩, (by dsimp only; omega)⟩
        dsimp only
        rw [e1, e2, hA, h3]
      · rw [pD_no h3] at c1
        rw [hne _ _ hp hq h3]
        (repeat' (first | refine awp_seq ?_ | refine awp_block ?_ | refine awp_rg hmix ?_ | refine ARun.o rfl ?_ | refine ARun.indexAddr rfl rfl (by omega) (by first | with_reducible exact get_map hp | with_reducible exact get_map hq) rfl rfl rfl rfl rfl (guardF_spec rfl) ?_ | refine callX (c1) rfl rfl rfl rfl ?_ | ((first | refine ARun.f ?_ | refine awp_skip ?_ | refine awp_exit ?_); dsimp only [thenA, blockA, AS.bump, List.length_cons, List.length_nil, reduceIte, Nat.reduceEqDiff]) | refine awp_cT rfl ?_ | refine awp_cF rfl ?_ | ((fail_if_success refine ARun.plain rfl ?_); first | refine ARun.kT rfl rfl rfl ?_ | refine ARun.kF rfl rfl rfl ?_ | refine ARun.fork rfl rfl rfl (fun h => ?_) (fun h => ?_)) | refine awp_cond rfl (fun h => ?_) (fun h => ?_)))
        exact awp_ret ⟨_, ResL.cons (ResA.tmp (.val _)) .nil, rfl⟩
    · have hkk : k = a.length := by omega
      subst hkk
      have hc : decide (((a.length : Nat) : Int) < (((a.map encCf).length : Nat) : Int)) = false := by simp
      rw [List.take_length, hl, List.take_length] at hA
      rw [pD_yes hA]
      (repeat' (first | refine awp_seq ?_ | refine awp_block ?_ | refine awp_rg hmix ?_ | refine ARun.o rfl ?_ | ((first | refine ARun.f ?_ | refine awp_skip ?_ | refine awp_exit ?_); dsimp only [thenA, blockA, AS.bump, List.length_cons, List.length_nil, reduceIte, Nat.reduceEqDiff]) | refine awp_cT rfl ?_ | refine awp_cF rfl ?_ | ((fail_if_success refine ARun.plain rfl ?_); first | refine ARun.kT rfl rfl rfl ?_ | refine ARun.kF rfl rfl rfl ?_ | refine ARun.fork rfl rfl rfl (fun h => ?_) (fun h => ?_)) | refine awp_cond rfl (fun h => ?_) (fun h => ?_)))
      exact awp_ret ⟨_, ResL.cons (ResA.tmp (.val _)) .nil, rfl⟩
  · have d1 : ((((a.map encCf).length : Nat) : Int) != (((b.map encCf).length : Nat) : Int)) = true := by simp; omega
    rw [pD_no (fun h => hl (by rw [h]))]
    refine FnC.of_awp (T := tt) (ok := tok) Try.func34 (by kernel_rfl) rfl (by kernel_rfl) (closedL_cons (closed_map encCf_closed) (closedL_cons (closed_map encCf_closed) (closedL_cons (.val _) closedL_nil))) (fun w0 st0 => ?_)
    dsimp only [frOf]
    (repeat' (first | refine awp_seq ?_ | refine awp_block ?_ | refine awp_rg hmix ?_ | refine ARun.o rfl ?_ | ((first | refine ARun.f ?_ | refine awp_skip ?_ | refine awp_exit ?_); dsimp only [thenA, blockA, AS.bump, List.length_cons, List.length_nil, reduceIte, Nat.reduceEqDiff]) | refine awp_cT rfl ?_ | refine awp_cF rfl ?_ | ((fail_if_success refine ARun.plain rfl ?_); first | refine ARun.kT rfl rfl rfl ?_ | refine ARun.kF rfl rfl rfl ?_ | refine ARun.fork rfl rfl rfl (fun h => ?_) (fun h => ?_)) | refine awp_cond rfl (fun h => ?_) (fun h => ?_)))
    exact awp_ret ⟨_, ResL.cons (ResA.tmp (.val _)) .nil, rfl⟩
theorem cfsame_c (a b : List Cfr) (hla : a.length ≤ 1000000) (hv : ∀ c, c ∈ a → c.lv.length ≤ 1000000) : FnC Try.prog 16 [encLCf a, encLCf b] (.val (.bool (pD (a = b)))) := by
  have c1 := cfeqfunc_c a b hla hv
  refine FnC.of_awp (T := tt) (ok := tok) Try.func16 (by kernel_rfl) rfl (by kernel_rfl) (closedL_cons (closedLCf a) (closedL_cons (closedLCf b) closedL_nil)) (fun w0 st0 => ?_)
  dsimp only [frOf]
  (repeat' (first | refine awp_seq ?_ | refine awp_block ?_ | refine awp_rg hmix ?_ | refine ARun.o rfl ?_ | refine callX (c1) rfl rfl rfl rfl ?_ | ((first | refine ARun.f ?_ | refine awp_skip ?_ | refine awp_exit ?_); dsimp only [thenA, blockA, AS.bump, List.length_cons, List.length_nil, reduceIte, Nat.reduceEqDiff]) | refine awp_cT rfl ?_ | refine awp_cF rfl ?_ | ((fail_if_success refine ARun.plain rfl ?_); first | refine ARun.kT rfl rfl rfl ?_ | refine ARun.kF rfl rfl rfl ?_ | refine ARun.fork rfl rfl rfl (fun h => ?_) (fun h => ?_)) | refine awp_cond rfl (fun h => ?_) (fun h => ?_)))
  exact awp_ret ⟨_, ResL.cons (ResA.tmp (.val _)) .nil, rfl⟩
set_option maxHeartbeats 8000000 in
theorem ref_cfsame_c (a b : List Cfr) (hla : a.length ≤ 1000000) (hv : ∀ c, c ∈ a → c.lv.length ≤ 1000000) (hw : ∀ c, c ∈ b → c.lv.length ≤ 1000000) : FnC Try.prog 17 [encLCf a, encLCf b] (.val (.bool (pD (a = b)))) := by
  by_cases hl : a.length = b.length
  · have d1 : ((((a.map encCf).length : Nat) : Int) != (((b.map encCf).length : Nat) : Int)) = false := by simp [hl]
    refine FnC.of_awp (T := tt) (ok := tok) Try.func17 (by kernel_rfl) rfl (by kernel_rfl) (closedL_cons (closedLCf a) (closedL_cons (closedLCf b) closedL_nil)) (fun w0 st0 => ?_)
    dsimp only [frOf]
    (repeat' (first | refine awp_seq ?_ | refine awp_block ?_ | refine awp_rg hmix ?_ | refine ARun.o rfl ?_ | ((first | refine ARun.f ?_ | refine awp_skip ?_ | refine awp_exit ?_); dsimp only [thenA, blockA, AS.bump, List.length_cons, List.length_nil, reduceIte, Nat.reduceEqDiff]) | refine awp_cT rfl ?_ | refine awp_cF rfl ?_ | ((fail_if_success refine ARun.plain rfl ?_); first | refine ARun.kT rfl rfl rfl ?_ | refine ARun.kF rfl rfl rfl ?_ | refine ARun.fork rfl rfl rfl (fun h => ?_) (fun h => ?_)) | refine awp_cond rfl (fun h => ?_) (fun h => ?_)))
    refine awp_loopT (T := Nat × Nat) (fun t => ⟨[(5, .val (.int .i64 (t.1 : Nat))), (0, encLCf a), (1, encLCf b)], [], t.2⟩) (fun t => t.1 ≤ a.length ∧ a.take t.1 = b.take t.1) (fun t => a.length - t.1) (0, _) ⟨Nat.zero_le _, rfl⟩ ⟨⟨rfl, rfl, rfl, trivial⟩, trivial, Nat.le_refl _⟩ (fun t ht => ?_)
    obtain ⟨k, gc⟩ := t
    obtain ⟨hk, hA⟩ := ht
    dsimp only at hk hA ⊢
    clear d1
    by_cases hlt : k < a.length
    · have hp : a[k]? = some a[k] := List.getElem?_eq_getElem hlt
      have hm : a[k] ∈ a := List.getElem_mem hlt
      have hq : b[k]? = some b[k] := List.getElem?_eq_getElem (by omega)
      have hc : decide (((k : Nat) : Int) < (((a.map encCf).length : Nat) : Int)) = true := by simp; omega
      have e1 := take_succ' hp
      have e2 := take_succ' hq
      have hne : ∀ x y, a[k]? = some x → b[k]? = some y → x ≠ y → pD (a = b) = false := fun x y hx hy hxy => pD_no (fun h => hxy (by rw [h, hy] at hx; exact (Option.some.inj hx).symm))
      generalize a[k] = p at hp e1 hm
      generalize b[k] = q at hq e2
      have c1 := Stk.ref_same_c p.lv q.lv (hv p hm) (hw q (List.mem_of_getElem? hq))
      rw [sameI_pD] at c1
      by_cases h3 : p.lv = q.lv
      case neg =>
        rw [pD_no h3] at c1
        rw [hne _ _ hp hq (fun h => h3 (by rw [h]))]
        (repeat' (first | refine awp_seq ?_ | refine awp_block ?_ | refine awp_rg hmix ?_ | refine ARun.o rfl ?_ | refine ARun.indexAddr rfl rfl (by omega) (by first | with_reducible exact get_map hp | with_reducible exact get_map hq) rfl rfl rfl rfl rfl (guardF_spec rfl) ?_ | refine callX (c1) rfl rfl rfl rfl ?_ | ((first | refine ARun.f ?_ | refine awp_skip ?_ | refine awp_exit ?_); dsimp only [thenA, blockA, AS.bump, List.length_cons, List.length_nil, reduceIte, Nat.reduceEqDiff]) | refine awp_cT rfl ?_ | refine awp_cF rfl ?_ | ((fail_if_success refine ARun.plain rfl ?_); first | refine ARun.kT rfl rfl rfl ?_ | refine ARun.kF rfl rfl rfl ?_)))
        exact awp_ret ⟨_, ResL.cons (ResA.tmp (.val _)) .nil, rfl⟩
      rw [pD_yes h3] at c1
      by_cases h4 : p.kind = q.kind
      case neg =>
        have d4 : (p.kind != q.kind) = true := by simp [h4]
        rw [hne _ _ hp hq (fun h => h4 (by rw [h]))]
        (repeat' (first | refine awp_seq ?_ | refine awp_block ?_ | refine awp_rg hmix ?_ | refine ARun.o rfl ?_ | refine ARun.indexAddr rfl rfl (by omega) (by first | with_reducible exact get_map hp | with_reducible exact get_map hq) rfl rfl rfl rfl rfl (guardF_spec rfl) ?_ | refine callX (c1) rfl rfl rfl rfl ?_ | ((first | refine ARun.f ?_ | refine awp_skip ?_ | refine awp_exit ?_); dsimp only [thenA, blockA, AS.bump, List.length_cons, List.length_nil, reduceIte, Nat.reduceEqDiff]) | refine awp_cT rfl ?_ | refine awp_cF rfl ?_ | ((fail_if_success refine ARun.plain rfl ?_); first | refine ARun.kT rfl rfl rfl ?_ | refine ARun.kF rfl rfl rfl ?_)))
        exact awp_ret ⟨_, ResL.cons (ResA.tmp (.val _)) .nil, rfl⟩
      have d4 : (p.kind != q.kind) = false := by simp [h4]
      by_cases h5 : p.at' = q.at'
      case neg =>
        have d5 : (p.at' != q.at') = true := by simp [h5]
        rw [hne _ _ hp hq (fun h => h5 (by rw [h]))]
        (repeat' (first | refine awp_seq ?_ | refine awp_block ?_ | refine awp_rg hmix ?_ | refine ARun.o rfl ?_ | refine ARun.indexAddr rfl rfl (by omega) (by first | with_reducible exact get_map hp | with_reducible exact get_map hq) rfl rfl rfl rfl rfl (guardF_spec rfl) ?_ | refine callX (c1) rfl rfl rfl rfl ?_ | ((first | refine ARun.f ?_ | refine awp_skip ?_ | refine awp_exit ?_); dsimp only [thenA, blockA, AS.bump, List.length_cons, List.length_nil, reduceIte, Nat.reduceEqDiff]) | refine awp_cT rfl ?_ | refine awp_cF rfl ?_ | ((fail_if_success refine ARun.plain rfl ?_); first | refine ARun.kT rfl rfl rfl ?_ | refine ARun.kF rfl rfl rfl ?_)))
        exact awp_ret ⟨_, ResL.cons (ResA.tmp (.val _)) .nil, rfl⟩
      have d5 : (p.at' != q.at') = false := by simp [h5]
      (repeat' (first | refine awp_seq ?_ | refine awp_block ?_ | refine awp_rg hmix ?_ | refine ARun.o rfl ?_ | refine ARun.indexAddr rfl rfl (by omega) (by first | with_reducible exact get_map hp | with_reducible exact get_map hq) rfl rfl rfl rfl rfl (guardF_spec rfl) ?_ | refine callX (c1) rfl rfl rfl rfl ?_ | ((first | refine ARun.f ?_ | refine awp_skip ?_ | refine awp_exit ?_); dsimp only [thenA, blockA, AS.bump, List.length_cons, List.length_nil, reduceIte, Nat.reduceEqDiff]) | refine awp_cT rfl ?_ | refine awp_cF rfl ?_ | ((fail_if_success refine ARun.plain rfl ?_); first | refine ARun.kT rfl rfl rfl ?_ | refine ARun.kF rfl rfl rfl ?_)))
      refine ⟨(k + 1, _), ⟨⟨succI k, rfl, rfl, trivial⟩, trivial, Nat.le_refl _⟩, ⟨hlt, ?_⟩, (by dsimp only; omega)⟩
      dsimp only
      rw [e1, e2, hA, Cfr.ext' h4 h5 h3]
    · have hkk : k = a.length := by omega
      subst hkk
      have hc : decide (((a.length : Nat) : Int) < (((a.map encCf).length : Nat) : Int)) = false := by simp
      rw [List.take_length, hl, List.take_length] at hA
      rw [pD_yes hA]
      (repeat' (first | refine awp_seq ?_ | refine awp_block ?_ | refine awp_rg hmix ?_ | refine ARun.o rfl ?_ | ((first | refine ARun.f ?_ | refine awp_skip ?_ | refine awp_exit ?_); dsimp only [thenA, blockA, AS.bump, List.length_cons, List.length_nil, reduceIte, Nat.reduceEqDiff]) | refine awp_cT rfl ?_ | refine awp_cF rfl ?_ | ((fail_if_success refine ARun.plain rfl ?_); first | refine ARun.kT rfl rfl rfl ?_ | refine ARun.kF rfl rfl rfl ?_ | refine ARun.fork rfl rfl rfl (fun h => ?_) (fun h => ?_)) | refine awp_cond rfl (fun h => ?_) (fun h => ?_)))
      exact awp_ret ⟨_, ResL.cons (ResA.tmp (.val _)) .nil, rfl⟩
  · have d1 : ((((a.map encCf).length : Nat) : Int) != (((b.map encCf).length : Nat) : Int)) = true := by simp; omega
    rw [pD_no (fun h => hl (by rw [h]))]
    refine FnC.of_awp (T := tt) (ok := tok) Try.func17 (by kernel_rfl) rfl (by kernel_rfl) (closedL_cons (closedLCf a) (closedL_cons (closedLCf b) closedL_nil)) (fun w0 st0 => ?_)
    dsimp only [frOf]
    (repeat' (first | refine awp_seq ?_ | refine awp_block ?_ | refine awp_rg hmix ?_ | refine ARun.o rfl ?_ | ((first | refine ARun.f ?_ | refine awp_skip ?_ | refine awp_exit ?_); dsimp only [thenA, blockA, AS.bump, List.length_cons, List.length_nil, reduceIte, Nat.reduceEqDiff]) | refine awp_cT rfl ?_ | refine awp_cF rfl ?_ | ((fail_if_success refine ARun.plain rfl ?_); first | refine ARun.kT rfl rfl rfl ?_ | refine ARun.kF rfl rfl rfl ?_ | refine ARun.fork rfl rfl rfl (fun h => ?_) (fun h => ?_)) | refine awp_cond rfl (fun h => ?_) (fun h => ?_)))
    exact awp_ret ⟨_, ResL.cons (ResA.tmp (.val _)) .nil, rfl⟩
end Go.Proofs.Ytpkkplojpjakiaa
/- cflow: the brackets by their names. -/
namespace Go.Proofs.Ytpkkplojpjakiaa
set_option linter.unusedVariables false
set_option linter.unusedSimpArgs false
open Go Go.RowKit
open Go.Proofs.Ytpkkplojpjakiaa.Dict (St Bs bs_eq Wd encW encWs closed_ws)
open Go.Proofs.Ytpkkplojpjakiaa.Mem (Mm encM encBs closed_bs encP encP_closed closed_m storeD fetchD commaD alignD enc3m)
open Go.Proofs.Ytpkkplojpjakiaa.Stk (encS closed_s)
set_option maxRecDepth 100000
def fnC : List AV := [.val (.func (.func 76) #[] #[]), .val (.func (.func 77) #[] #[]), .val (.func (.func 78) #[] #[]), .val (.func (.func 79) #[] #[]), .val (.func (.func 80) #[] #[]), .val (.func (.func 81) #[] #[]), .val (.func (.func 82) #[] #[]), .val (.func (.func 83) #[] #[]), .val (.func (.func 84) #[] #[]), .val (.func (.func 85) #[] #[]), .val (.func (.func 86) #[] #[]), .val (.func (.func 87) #[] #[]), .val (.func (.func 88) #[] #[])]
def fullNames : List Bs := [[73, 70], [66, 69, 71, 73, 78], [87, 72, 73, 76, 69], [68, 79], [63, 68, 79]]
noncomputable def fullD (l : List Cfr) (name : Bs) : Bool := pD (name ∈ fullNames ∧ 32 ≤ l.length)
attribute [local irreducible] Decidable.decide awp ARun regK toK
set_option maxHeartbeats 4000000 in
theorem table_c : FnC Try.prog 53 [] (.mp (nmC.map kStr) fnC) := by
  refine FnC.of_awp (T := tt) (ok := tok) Try.func53 (by kernel_rfl) rfl (by kernel_rfl) closedL_nil (fun w0 st0 => ?_)
  dsimp only [frOf]
  (repeat' (first | refine awp_seq ?_ | refine awp_block ?_ | refine awp_rg hmix ?_ | refine ARun.o rfl ?_ | refine ARun.makeMap rfl (guardF_spec rfl) ?_ | refine ARun.insert rfl rfl rfl rfl rfl rfl rfl Try.underlying9 rfl (by kernel_rfl) (guardF_spec rfl) ?_ | ((first | refine ARun.f ?_ | refine awp_skip ?_ | refine awp_exit ?_); dsimp only [thenA, blockA, AS.bump, List.length_cons, List.length_nil, reduceIte, Nat.reduceEqDiff]) | refine awp_cT rfl ?_ | refine awp_cF rfl ?_ | ((fail_if_success refine ARun.plain rfl ?_); first | refine ARun.kT rfl rfl rfl ?_ | refine ARun.kF rfl rfl rfl ?_ | refine ARun.fork rfl rfl rfl (fun h => ?_) (fun h => ?_)) | refine awp_cond rfl (fun h => ?_) (fun h => ?_)))
  refine awp_ret ⟨_, ResL.cons (ResA.tmp (.made (ks := nmC.map kStr) (vs := fnC) rfl rfl ?_)) .nil, rfl⟩
  intro x hx
  simp only [fnC, List.mem_cons, List.not_mem_nil, or_false] at hx
  rcases hx with h | h | h | h | h | h | h | h | h | h | h | h | h <;> (subst h; exact .val _)
set_option maxHeartbeats 4000000 in
theorem full_c (l : List Cfr) (name : Bs) : FnC Try.prog 54 [encLCf l, St name] (.val (.bool (fullD l name))) := by
  have e1 : (((l.map encCf).length : Nat) : Int) = l.length := by rw [List.length_map]
  have no : name ∉ fullNames → fullD l name = false := fun h => pD_no (fun h2 => h h2.1)
  have yes : name ∈ fullNames → fullD l name = decide ((32 : Int) ≤ (((l.map encCf).length : Nat) : Int)) := fun h => by
    rw [dec_pD]
    exact pD_congr ⟨fun h2 => by have := h2.2; omega, fun h2 => ⟨h, by omega⟩⟩
  by_cases h1 : name = [73, 70]
  · have d1 : ((ByteArray.mk name.toArray).toList == (ByteArray.mk #[73, 70]).toList) = true := by rw [bs_eq name [73, 70]]; exact decide_eq_true h1
    rw [yes (by rw [h1]; simp [fullNames])]
    refine FnC.of_awp (T := tt) (ok := tok) Try.func54 (by kernel_rfl) rfl (by kernel_rfl) (closedL_cons (closedLCf l) (closedL_cons (.val _) closedL_nil)) (fun w0 st0 => ?_)
    dsimp only [frOf]
    (repeat' (first | refine awp_seq ?_ | refine awp_block ?_ | refine awp_rg hmix ?_ | refine ARun.o rfl ?_ | ((first | refine ARun.f ?_ | refine awp_skip ?_ | refine awp_exit ?_); dsimp only [thenA, blockA, AS.bump, List.length_cons, List.length_nil, reduceIte, Nat.reduceEqDiff]) | refine awp_cT rfl ?_ | refine awp_cF rfl ?_ | ((fail_if_success refine ARun.plain rfl ?_); first | refine ARun.kT rfl rfl rfl ?_ | refine ARun.kF rfl rfl rfl ?_)))
    exact awp_ret ⟨_, ResL.cons (ResA.tmp (.val _)) .nil, rfl⟩
  have d1 : ((ByteArray.mk name.toArray).toList == (ByteArray.mk #[73, 70]).toList) = false := by rw [bs_eq name [73, 70]]; exact decide_eq_false h1
  by_cases h2 : name = [66, 69, 71, 73, 78]
  · have d2 : ((ByteArray.mk name.toArray).toList == (ByteArray.mk #[66, 69, 71, 73, 78]).toList) = true := by rw [bs_eq name [66, 69, 71, 73, 78]]; exact decide_eq_true h2
    rw [yes (by rw [h2]; simp [fullNames])]
    refine FnC.of_awp (T := tt) (ok := tok) Try.func54 (by kernel_rfl) rfl (by kernel_rfl) (closedL_cons (closedLCf l) (closedL_cons (.val _) closedL_nil)) (fun w0 st0 => ?_)
    dsimp only [frOf]
    (repeat' (first | refine awp_seq ?_ | refine awp_block ?_ | refine awp_rg hmix ?_ | refine ARun.o rfl ?_ | ((first | refine ARun.f ?_ | refine awp_skip ?_ | refine awp_exit ?_); dsimp only [thenA, blockA, AS.bump, List.length_cons, List.length_nil, reduceIte, Nat.reduceEqDiff]) | refine awp_cT rfl ?_ | refine awp_cF rfl ?_ | ((fail_if_success refine ARun.plain rfl ?_); first | refine ARun.kT rfl rfl rfl ?_ | refine ARun.kF rfl rfl rfl ?_)))
    exact awp_ret ⟨_, ResL.cons (ResA.tmp (.val _)) .nil, rfl⟩
  have d2 : ((ByteArray.mk name.toArray).toList == (ByteArray.mk #[66, 69, 71, 73, 78]).toList) = false := by rw [bs_eq name [66, 69, 71, 73, 78]]; exact decide_eq_false h2
  by_cases h3 : name = [87, 72, 73, 76, 69]
  · have d3 : ((ByteArray.mk name.toArray).toList == (ByteArray.mk #[87, 72, 73, 76, 69]).toList) = true := by rw [bs_eq name [87, 72, 73, 76, 69]]; exact decide_eq_true h3
    rw [yes (by rw [h3]; simp [fullNames])]
    refine FnC.of_awp (T := tt) (ok := tok) Try.func54 (by kernel_rfl) rfl (by kernel_rfl) (closedL_cons (closedLCf l) (closedL_cons (.val _) closedL_nil)) (fun w0 st0 => ?_)
    dsimp only [frOf]
    (repeat' (first | refine awp_seq ?_ | refine awp_block ?_ | refine awp_rg hmix ?_ | refine ARun.o rfl ?_ | ((first | refine ARun.f ?_ | refine awp_skip ?_ | refine awp_exit ?_); dsimp only [thenA, blockA, AS.bump, List.length_cons, List.length_nil, reduceIte, Nat.reduceEqDiff]) | refine awp_cT rfl ?_ | refine awp_cF rfl ?_ | ((fail_if_success refine ARun.plain rfl ?_); first | refine ARun.kT rfl rfl rfl ?_ | refine ARun.kF rfl rfl rfl ?_)))
    exact awp_ret ⟨_, ResL.cons (ResA.tmp (.val _)) .nil, rfl⟩
  have d3 : ((ByteArray.mk name.toArray).toList == (ByteArray.mk #[87, 72, 73, 76, 69]).toList) = false := by rw [bs_eq name [87, 72, 73, 76, 69]]; exact decide_eq_false h3
  by_cases h4 : name = [68, 79]
  · have d4 : ((ByteArray.mk name.toArray).toList == (ByteArray.mk #[68, 79]).toList) = true := by rw [bs_eq name [68, 79]]; exact decide_eq_true h4
    rw [yes (by rw [h4]; simp [fullNames])]
    refine FnC.of_awp (T := tt) (ok := tok) Try.func54 (by kernel_rfl) rfl (by kernel_rfl) (closedL_cons (closedLCf l) (closedL_cons (.val _) closedL_nil)) (fun w0 st0 => ?_)
    dsimp only [frOf]
    (repeat' (first | refine awp_seq ?_ | refine awp_block ?_ | refine awp_rg hmix ?_ | refine ARun.o rfl ?_ | ((first | refine ARun.f ?_ | refine awp_skip ?_ | refine awp_exit ?_); dsimp only [thenA, blockA, AS.bump, List.length_cons, List.length_nil, reduceIte, Nat.reduceEqDiff]) | refine awp_cT rfl ?_ | refine awp_cF rfl ?_ | ((fail_if_success refine ARun.plain rfl ?_); first | refine ARun.kT rfl rfl rfl ?_ | refine ARun.kF rfl rfl rfl ?_)))
    exact awp_ret ⟨_, ResL.cons (ResA.tmp (.val _)) .nil, rfl⟩
  have d4 : ((ByteArray.mk name.toArray).toList == (ByteArray.mk #[68, 79]).toList) = false := by rw [bs_eq name [68, 79]]; exact decide_eq_false h4
  by_cases h5 : name = [63, 68, 79]
  · have d5 : ((ByteArray.mk name.toArray).toList == (ByteArray.mk #[63, 68, 79]).toList) = true := by rw [bs_eq name [63, 68, 79]]; exact decide_eq_true h5
    rw [yes (by rw [h5]; simp [fullNames])]
    refine FnC.of_awp (T := tt) (ok := tok) Try.func54 (by kernel_rfl) rfl (by kernel_rfl) (closedL_cons (closedLCf l) (closedL_cons (.val _) closedL_nil)) (fun w0 st0 => ?_)
    dsimp only [frOf]
    (repeat' (first | refine awp_seq ?_ | refine awp_block ?_ | refine awp_rg hmix ?_ | refine ARun.o rfl ?_ | ((first | refine ARun.f ?_ | refine awp_skip ?_ | refine awp_exit ?_); dsimp only [thenA, blockA, AS.bump, List.length_cons, List.length_nil, reduceIte, Nat.reduceEqDiff]) | refine awp_cT rfl ?_ | refine awp_cF rfl ?_ | ((fail_if_success refine ARun.plain rfl ?_); first | refine ARun.kT rfl rfl rfl ?_ | refine ARun.kF rfl rfl rfl ?_)))
    exact awp_ret ⟨_, ResL.cons (ResA.tmp (.val _)) .nil, rfl⟩
  have d5 : ((ByteArray.mk name.toArray).toList == (ByteArray.mk #[63, 68, 79]).toList) = false := by rw [bs_eq name [63, 68, 79]]; exact decide_eq_false h5
  rw [no (by simp [fullNames, h1, h2, h3, h4, h5])]
  refine FnC.of_awp (T := tt) (ok := tok) Try.func54 (by kernel_rfl) rfl (by kernel_rfl) (closedL_cons (closedLCf l) (closedL_cons (.val _) closedL_nil)) (fun w0 st0 => ?_)
  dsimp only [frOf]
  (repeat' (first | refine awp_seq ?_ | refine awp_block ?_ | refine awp_rg hmix ?_ | refine ARun.o rfl ?_ | ((first | refine ARun.f ?_ | refine awp_skip ?_ | refine awp_exit ?_); dsimp only [thenA, blockA, AS.bump, List.length_cons, List.length_nil, reduceIte, Nat.reduceEqDiff]) | refine awp_cT rfl ?_ | refine awp_cF rfl ?_ | ((fail_if_success refine ARun.plain rfl ?_); first | refine ARun.kT rfl rfl rfl ?_ | refine ARun.kF rfl rfl rfl ?_)))
  exact awp_ret ⟨_, ResL.cons (ResA.tmp (.val _)) .nil, rfl⟩
theorem zeroFn : ∃ z, Try.prog.info? 97 = some z ∧ ∃ zz, z.zero = some zz ∧ ∀ c w, Rep c w (.val .nilFunc) zz := by
  have h1 : (match Try.prog.info? 97 with | some z => z.zero | none => none) = some .nilFunc := by kernel_rfl
  cases h : Try.prog.info? 97 with
  | none => rw [h] at h1; cases h1
  | some z =>
    rw [h] at h1
    exact ⟨z, rfl, _, h1, fun c w => .val _⟩
set_option maxHeartbeats 8000000 in
theorem bracket_hit (v : V) (l : List Cfr) (name : Bs) (j : Nat) (f : Nat) (w' : Kw) (hkey : keyAt .string (kStr name) (nmC.map kStr) 0 = some j) (hval : fnC[j]? = some (.val (.func (.func f) #[] #[]))) (hf : fullD l name = false) (hF : FnL Try.prog f [.ptr 1000 0 0 0] [(25, [encK ⟨v, l, 0⟩])] (.tup []) [[encK w']]) : FnC Try.prog 25 [.agg (encV v), encLCf l, St name] (encVLE (doneD w' v l)) := by
  have c1 := table_c
  have c2 := full_c l name
  rw [hf] at c2
  have c3 := done_l w' v l
  generalize doneD w' v l = p at *
  simp only [encVLE] at c3
  unfold encVLE
  generalize nmC.map kStr = keys at *
  generalize fnC = fns at *
  clear hf
  refine FnC.of_awp (T := tt) (ok := tok) Try.func25 (by kernel_rfl) rfl (by kernel_rfl) (closedL_cons (closedV v) (closedL_cons (closedLCf l) (closedL_cons (.val _) closedL_nil))) (fun w0 st0 => ?_)
  dsimp only [frOf]
  (repeat' (first | refine awp_seq ?_ | refine awp_block ?_ | refine awp_rg hmix ?_ | refine ARun.o rfl ?_ | refine callX (c1) rfl rfl rfl rfl ?_ | refine callX (c2) rfl rfl rfl rfl ?_ | refine ARun.lookupHit rfl rfl rfl rfl Try.underlying9 rfl hkey hval rfl (guardF_spec rfl) ?_ | refine callK 11 22 25 (encK ⟨v, l, 0⟩) (encK w') (hF) (encK_closed _) (encK_closed _) (RelL.cons (.ptr (j := 0) 0 0 rfl) (RelL.nil _)) (by first | exact .same _ (.tup closedL_nil) | exact .same _ (.val _) | exact .same _ (.agg (encCf_closed _)) | exact .same _ (.tup (closedL_cons (.agg (encFo_closed _)) (closedL_cons (.val _) closedL_nil))) | exact .same _ (.tup (closedL_cons (closedV _) (closedL_cons (closedLCf _) (closedL_cons (.val _) closedL_nil))))) ?_ | refine callK 11 22 25 (encK w') (encK w') (c3) (encK_closed _) (encK_closed _) (RelL.cons (.ptr (j := 0) 0 0 rfl) (RelL.cons (.wk (.same _) (by first | exact .agg (encCf_closed _) | exact closedV _ | exact closedLCf _ | (simp only [AS.ev]; done))) (RelL.cons (.wk (.same _) (by first | exact .agg (encCf_closed _) | exact closedV _ | exact closedLCf _ | (simp only [AS.ev]; done))) (RelL.nil _)))) (by first | exact .same _ (.tup closedL_nil) | exact .same _ (.val _) | exact .same _ (.agg (encCf_closed _)) | exact .same _ (.tup (closedL_cons (.agg (encFo_closed _)) (closedL_cons (.val _) closedL_nil))) | exact .same _ (.tup (closedL_cons (closedV _) (closedL_cons (closedLCf _) (closedL_cons (.val _) closedL_nil))))) ?_ | ((first | refine ARun.f ?_ | refine awp_skip ?_ | refine awp_exit ?_); dsimp only [thenA, blockA, AS.bump, List.length_cons, List.length_nil, reduceIte, Nat.reduceEqDiff]) | refine awp_cT rfl ?_ | refine awp_cF rfl ?_ | ((fail_if_success refine ARun.plain rfl ?_); first | refine ARun.kT rfl rfl rfl ?_ | refine ARun.kF rfl rfl rfl ?_)))
  exact awp_ret ⟨_, ResL.cons (ResA.agg rfl rfl rfl rfl rfl rfl rfl (RL.allClosed (encV_closed _))) (ResL.cons (ResA.tmp (.closed _ (closedLCf _))) (ResL.cons (ResA.tmp (.val _)) .nil)), rfl⟩
set_option maxHeartbeats 8000000 in
theorem bracket_full (v : V) (l : List Cfr) (name : Bs) (j : Nat) (f : Nat) (hkey : keyAt .string (kStr name) (nmC.map kStr) 0 = some j) (hval : fnC[j]? = some (.val (.func (.func f) #[] #[]))) (hf : fullD l name = true) : FnC Try.prog 25 [.agg (encV v), encLCf l, St name] (encVLE (v, l, -22)) := by
  have c1 := table_c
  have c2 := full_c l name
  rw [hf] at c2
  unfold encVLE
  generalize nmC.map kStr = keys at *
  generalize fnC = fns at *
  clear hf
  refine FnC.of_awp (T := tt) (ok := tok) Try.func25 (by kernel_rfl) rfl (by kernel_rfl) (closedL_cons (closedV v) (closedL_cons (closedLCf l) (closedL_cons (.val _) closedL_nil))) (fun w0 st0 => ?_)
  dsimp only [frOf]
  (repeat' (first | refine awp_seq ?_ | refine awp_block ?_ | refine awp_rg hmix ?_ | refine ARun.o rfl ?_ | refine callX (c1) rfl rfl rfl rfl ?_ | refine callX (c2) rfl rfl rfl rfl ?_ | refine ARun.lookupHit rfl rfl rfl rfl Try.underlying9 rfl hkey hval rfl (guardF_spec rfl) ?_ | ((first | refine ARun.f ?_ | refine awp_skip ?_ | refine awp_exit ?_); dsimp only [thenA, blockA, AS.bump, List.length_cons, List.length_nil, reduceIte, Nat.reduceEqDiff]) | refine awp_cT rfl ?_ | refine awp_cF rfl ?_ | ((fail_if_success refine ARun.plain rfl ?_); first | refine ARun.kT rfl rfl rfl ?_ | refine ARun.kF rfl rfl rfl ?_)))
  exact awp_ret ⟨_, ResL.cons (ResA.agg rfl rfl rfl rfl rfl rfl rfl (RL.allClosed (encV_closed _))) (ResL.cons (ResA.tmp (.closed _ (closedLCf _))) (ResL.cons (ResA.tmp (.val _)) .nil)), rfl⟩
set_option maxHeartbeats 8000000 in
theorem bracket_miss (v : V) (l : List Cfr) (name : Bs) (hno : keyNone .string (kStr name) (nmC.map kStr) = true) : FnC Try.prog 25 [.agg (encV v), encLCf l, St name] (encVLE (v, l, -22)) := by
  have c1 := table_c
  unfold encVLE
  generalize nmC.map kStr = keys at *
  generalize fnC = fns at *
  refine FnC.of_awp (T := tt) (ok := tok) Try.func25 (by kernel_rfl) rfl (by kernel_rfl) (closedL_cons (closedV v) (closedL_cons (closedLCf l) (closedL_cons (.val _) closedL_nil))) (fun w0 st0 => ?_)
  dsimp only [frOf]
  (repeat' (first | refine awp_seq ?_ | refine awp_block ?_ | refine awp_rg hmix ?_ | refine ARun.o rfl ?_ | refine callX (c1) rfl rfl rfl rfl ?_ | refine ARun.lookupMiss (v := .val .nilFunc) rfl rfl rfl rfl Try.underlying9 rfl hno rfl rfl rfl (guardF_spec rfl) zeroFn ?_ | ((first | refine ARun.f ?_ | refine awp_skip ?_ | refine awp_exit ?_); dsimp only [thenA, blockA, AS.bump, List.length_cons, List.length_nil, reduceIte, Nat.reduceEqDiff]) | refine awp_cT rfl ?_ | refine awp_cF rfl ?_ | ((fail_if_success refine ARun.plain rfl ?_); first | refine ARun.kT rfl rfl rfl ?_ | refine ARun.kF rfl rfl rfl ?_)))
  exact awp_ret ⟨_, ResL.cons (ResA.agg rfl rfl rfl rfl rfl rfl rfl (RL.allClosed (encV_closed _))) (ResL.cons (ResA.tmp (.closed _ (closedLCf _))) (ResL.cons (ResA.tmp (.val _)) .nil)), rfl⟩
end Go.Proofs.Ytpkkplojpjakiaa
/- cflow: numbers and texts that are laid. -/
namespace Go.Proofs.Ytpkkplojpjakiaa
set_option linter.unusedVariables false
set_option linter.unusedSimpArgs false
open Go Go.RowKit
open Go.Proofs.Ytpkkplojpjakiaa.Dict (St Bs bs_eq Wd encW encWs closed_ws)
open Go.Proofs.Ytpkkplojpjakiaa.Mem (Mm encM encBs closed_bs encP encP_closed closed_m storeD fetchD commaD alignD enc3m)
open Go.Proofs.Ytpkkplojpjakiaa.Stk (encS closed_s)
set_option maxRecDepth 100000
def litK (v : V) (n : Int) : Kw := cellD (cellD ⟨v, [], 0⟩ (xtD nLit)) n
def outD (w : Kw) (v : V) : V × Int := if w.bad = 0 then (w.v, 0) else (v, w.bad)
theorem out_done (w : Kw) (v : V) : outD w v = ((doneD w v []).1, (doneD w v []).2.2) := by
  unfold outD doneD
  split <;> rfl
def strK0 (v : V) (s : Bs) : Kw := cellD (cellD ⟨v, [], 0⟩ (xtD nStr)) s.length
def strK (v : V) (s : Bs) : Kw :=
  if (strK0 v s).bad = 0 then
    if (Mem.layD (strK0 v s).v.m (strK0 v s).v.here s).2.2 = 0 then
      ⟨withMH (strK0 v s).v (alignD (Mem.layD (strK0 v s).v.m (strK0 v s).v.here s).1 (Mem.layD (strK0 v s).v.m (strK0 v s).v.here s).2.1).1 (alignD (Mem.layD (strK0 v s).v.m (strK0 v s).v.here s).1 (Mem.layD (strK0 v s).v.m (strK0 v s).v.here s).2.1).2.1, (strK0 v s).l, 0⟩
    else ⟨(strK0 v s).v, (strK0 v s).l, (Mem.layD (strK0 v s).v.m (strK0 v s).v.here s).2.2⟩
  else strK0 v s
attribute [local irreducible] Decidable.decide awp ARun regK toK
set_option maxHeartbeats 4000000 in
theorem lit_c (v : V) (n : Int) (h : Okk v 2) : FnC Try.prog 20 [.agg (encV v), .val (.int .i64 n)] (encVE (outD (litK v n) v)) := by
  have c1 := word_l ⟨v, [], 0⟩ nLit (h.le (by omega))
  have h1 := okk_cell (w := ⟨v, [], 0⟩) (k := 1) (xtD nLit) h
  unfold litK
  generalize cellD ⟨v, [], 0⟩ (xtD nLit) = k1 at *
  have c2 := cell_l k1 n h1
  have c3 := done_l (cellD k1 n) v []
  rw [out_done]
  generalize cellD k1 n = k2 at *
  generalize doneD k2 v [] = p at *
  simp only [encVLE] at c3
  unfold encVE
  refine FnC.of_awp (T := tt) (ok := tok) Try.func20 (by kernel_rfl) rfl (by kernel_rfl) (closedL_cons (closedV v) (closedL_cons (.val _) closedL_nil)) (fun w0 st0 => ?_)
  dsimp only [frOf]
  (repeat' (first | refine awp_seq ?_ | refine awp_block ?_ | refine awp_region_ne 2 rfl (fun _ => hmix) ?_ | refine ARun.o rfl ?_ | ((first | refine ARun.f ?_ | refine awp_skip ?_ | refine awp_exit ?_); dsimp only [thenA, blockA, AS.bump, List.length_cons, List.length_nil, reduceIte, Nat.reduceEqDiff]) | refine awp_cT rfl ?_ | refine awp_cF rfl ?_ | ((fail_if_success refine ARun.plain rfl ?_); first | refine ARun.kT rfl rfl rfl ?_ | refine ARun.kF rfl rfl rfl ?_ | refine ARun.fork rfl rfl rfl (fun h => ?_) (fun h => ?_)) | refine awp_cond rfl (fun h => ?_) (fun h => ?_)))
  refine awp_wkH 6 [encK ⟨v, [], 0⟩] rfl rfl (RelR.cons (RelL.cons (.same _) (RelL.cons (.same _) (RelL.cons (.same _) (RelL.cons (.same _) (RelL.cons (.same _) (RelL.cons (.same _) (RelL.cons (.same _) (RelL.cons (.same _) (RelL.cons (.same _) (RelL.cons (.same _) (RelL.cons (.same _) (RelL.cons (.same _) (RelL.cons (.same _) (RelL.cons (.same _) (RelL.cons (.same _) (RelL.cons (.same _) (RelL.cons (.same _) (RelL.cons (.same _) (RelL.cons (.same _) (RelL.cons (.same _) (RelL.cons (.same _) (RelL.cons (.same _) (RelL.cons (.same _) (RelL.cons Wk.nilSl (RelL.cons (.same _) (RelL.nil _)))))))))))))))))))))))))) (RelR.nil _)) ?_
  (repeat' (first | refine awp_seq ?_ | refine awp_block ?_ | refine awp_rg hmix ?_ | refine ARun.o rfl ?_ | refine callK 6 _ 25 (encK ⟨v, [], 0⟩) (encK k1) (c1) (encK_closed _) (encK_closed _) (RelL.cons (.ptr (j := 0) 0 0 rfl) (RelL.cons (.wk (.same _) (.val _)) (RelL.nil _))) (by first | exact .same _ (.tup closedL_nil) | exact .same _ (.val _) | exact .same _ (.agg (encCf_closed _)) | exact .same _ (.tup (closedL_cons (.agg (encFo_closed _)) (closedL_cons (.val _) closedL_nil))) | exact .same _ (.tup (closedL_cons (closedV _) (closedL_cons (closedLCf _) (closedL_cons (.val _) closedL_nil))))) ?_ | refine callK 6 _ 25 (encK k1) (encK k2) (c2) (encK_closed _) (encK_closed _) (RelL.cons (.ptr (j := 0) 0 0 rfl) (RelL.cons (.wk (.same _) (.val _)) (RelL.nil _))) (by first | exact .same _ (.tup closedL_nil) | exact .same _ (.val _) | exact .same _ (.agg (encCf_closed _)) | exact .same _ (.tup (closedL_cons (.agg (encFo_closed _)) (closedL_cons (.val _) closedL_nil))) | exact .same _ (.tup (closedL_cons (closedV _) (closedL_cons (closedLCf _) (closedL_cons (.val _) closedL_nil))))) ?_ | refine callK 6 _ 25 (encK k2) (encK k2) (c3) (encK_closed _) (encK_closed _) (RelL.cons (.ptr (j := 0) 0 0 rfl) (RelL.cons (.wk (.same _) (by first | exact .agg (encCf_closed _) | exact closedV _ | exact closedLCf _ | (simp only [AS.ev]; done))) (RelL.cons (.wk (by first | exact Wk.same _ | exact Wk.nilSl) (by first | exact closedLCf _ | exact closedLCf [])) (RelL.nil _)))) (by first | exact .same _ (.tup closedL_nil) | exact .same _ (.val _) | exact .same _ (.agg (encCf_closed _)) | exact .same _ (.tup (closedL_cons (.agg (encFo_closed _)) (closedL_cons (.val _) closedL_nil))) | exact .same _ (.tup (closedL_cons (closedV _) (closedL_cons (closedLCf _) (closedL_cons (.val _) closedL_nil))))) ?_ | ((first | refine ARun.f ?_ | refine awp_skip ?_ | refine awp_exit ?_); dsimp only [thenA, blockA, AS.bump, List.length_cons, List.length_nil, reduceIte, Nat.reduceEqDiff]) | refine awp_cT rfl ?_ | refine awp_cF rfl ?_ | ((fail_if_success refine ARun.plain rfl ?_); first | refine ARun.kT rfl rfl rfl ?_ | refine ARun.kF rfl rfl rfl ?_)))
  exact awp_ret ⟨_, ResL.cons (ResA.agg rfl rfl rfl rfl rfl rfl rfl (RL.allClosed (encV_closed _))) (ResL.cons (ResA.tmp (.val _)) .nil), rfl⟩
set_option maxHeartbeats 8000000 in
theorem str_c (v : V) (s : Bs) (h : Okk v 5) (hs : s.length ≤ 1000000) : FnC Try.prog 22 [.agg (encV v), St s] (encVE (outD (strK v s) v)) := by
  have c1 := word_l ⟨v, [], 0⟩ nStr (h.le (by omega))
  have h1 := okk_cell (w := ⟨v, [], 0⟩) (k := 4) (xtD nStr) h
  unfold strK strK0
  generalize cellD ⟨v, [], 0⟩ (xtD nStr) = k1 at *
  have c2 := cell_l k1 s.length (h1.le (by omega))
  have h2 := okk_cell (k := 3) (s.length : Int) h1
  generalize cellD k1 s.length = k2 at *
  by_cases b : k2.bad = 0
  case neg =>
    have d : (k2.bad == 0) = false := beq_eq_false_iff_ne.2 b
    have c3 := done_l k2 v []
    rw [if_neg b, out_done]
    generalize doneD k2 v [] = p at *
    simp only [encVLE] at c3
    unfold encVE
    refine FnC.of_awp (T := tt) (ok := tok) Try.func22 (by kernel_rfl) rfl (by kernel_rfl) (closedL_cons (closedV v) (closedL_cons (.val _) closedL_nil)) (fun w0 st0 => ?_)
    dsimp only [frOf]
    (repeat' (first | refine awp_seq ?_ | refine awp_block ?_ | refine awp_region_ne 2 rfl (fun _ => hmix) ?_ | refine ARun.o rfl ?_ | ((first | refine ARun.f ?_ | refine awp_skip ?_ | refine awp_exit ?_); dsimp only [thenA, blockA, AS.bump, List.length_cons, List.length_nil, reduceIte, Nat.reduceEqDiff]) | refine awp_cT rfl ?_ | refine awp_cF rfl ?_ | ((fail_if_success refine ARun.plain rfl ?_); first | refine ARun.kT rfl rfl rfl ?_ | refine ARun.kF rfl rfl rfl ?_ | refine ARun.fork rfl rfl rfl (fun h => ?_) (fun h => ?_)) | refine awp_cond rfl (fun h => ?_) (fun h => ?_)))
    refine awp_wkH 6 [encK ⟨v, [], 0⟩] rfl rfl (RelR.cons (RelL.cons (.same _) (RelL.cons (.same _) (RelL.cons (.same _) (RelL.cons (.same _) (RelL.cons (.same _) (RelL.cons (.same _) (RelL.cons (.same _) (RelL.cons (.same _) (RelL.cons (.same _) (RelL.cons (.same _) (RelL.cons (.same _) (RelL.cons (.same _) (RelL.cons (.same _) (RelL.cons (.same _) (RelL.cons (.same _) (RelL.cons (.same _) (RelL.cons (.same _) (RelL.cons (.same _) (RelL.cons (.same _) (RelL.cons (.same _) (RelL.cons (.same _) (RelL.cons (.same _) (RelL.cons (.same _) (RelL.cons Wk.nilSl (RelL.cons (.same _) (RelL.nil _)))))))))))))))))))))))))) (RelR.nil _)) ?_
    (repeat' (first | refine awp_seq ?_ | refine awp_block ?_ | refine awp_rg hmix ?_ | refine ARun.o rfl ?_ | refine callK 6 _ 25 (encK ⟨v, [], 0⟩) (encK k1) (c1) (encK_closed _) (encK_closed _) (RelL.cons (.ptr (j := 0) 0 0 rfl) (RelL.cons (.wk (.same _) (.val _)) (RelL.nil _))) (by first | exact .same _ (.tup closedL_nil) | exact .same _ (.val _) | exact .same _ (.agg (encCf_closed _)) | exact .same _ (.tup (closedL_cons (.agg (encFo_closed _)) (closedL_cons (.val _) closedL_nil))) | exact .same _ (.tup (closedL_cons (closedV _) (closedL_cons (closedLCf _) (closedL_cons (.val _) closedL_nil))))) ?_ | refine callK 6 _ 25 (encK k1) (encK k2) (c2) (encK_closed _) (encK_closed _) (RelL.cons (.ptr (j := 0) 0 0 rfl) (RelL.cons (.wk (.same _) (.val _)) (RelL.nil _))) (by first | exact .same _ (.tup closedL_nil) | exact .same _ (.val _) | exact .same _ (.agg (encCf_closed _)) | exact .same _ (.tup (closedL_cons (.agg (encFo_closed _)) (closedL_cons (.val _) closedL_nil))) | exact .same _ (.tup (closedL_cons (closedV _) (closedL_cons (closedLCf _) (closedL_cons (.val _) closedL_nil))))) ?_ | refine callK 6 _ 25 (encK k2) (encK k2) (c3) (encK_closed _) (encK_closed _) (RelL.cons (.ptr (j := 0) 0 0 rfl) (RelL.cons (.wk (.same _) (by first | exact .agg (encCf_closed _) | exact closedV _ | exact closedLCf _ | (simp only [AS.ev]; done))) (RelL.cons (.wk (by first | exact Wk.same _ | exact Wk.nilSl) (by first | exact closedLCf _ | exact closedLCf [])) (RelL.nil _)))) (by first | exact .same _ (.tup closedL_nil) | exact .same _ (.val _) | exact .same _ (.agg (encCf_closed _)) | exact .same _ (.tup (closedL_cons (.agg (encFo_closed _)) (closedL_cons (.val _) closedL_nil))) | exact .same _ (.tup (closedL_cons (closedV _) (closedL_cons (closedLCf _) (closedL_cons (.val _) closedL_nil))))) ?_ | ((first | refine ARun.f ?_ | refine awp_skip ?_ | refine awp_exit ?_); dsimp only [thenA, blockA, AS.bump, List.length_cons, List.length_nil, reduceIte, Nat.reduceEqDiff]) | refine awp_cT rfl ?_ | refine awp_cF rfl ?_ | ((fail_if_success refine ARun.plain rfl ?_); first | refine ARun.kT rfl rfl rfl ?_ | refine ARun.kF rfl rfl rfl ?_)))
    exact awp_ret ⟨_, ResL.cons (ResA.agg rfl rfl rfl rfl rfl rfl rfl (RL.allClosed (encV_closed _))) (ResL.cons (ResA.tmp (.val _)) .nil), rfl⟩
  have d : (k2.bad == 0) = true := beq_iff_eq.2 b
  rw [if_pos b]
  have c4 := Mem.lay_c k2.v.m k2.v.here s h2.b (by have := h2.o; omega) hs ⟨h2.h0, h2.h1⟩
  have o4 := mlay_ok k2.v.m k2.v.here s h2.h0 h2.h1
  simp only [enc3m] at c4
  have hb := h2.b
  have ho := h2.o
  have h0 := h2.h0
  have h5 := Mem.align_c (Mem.layD k2.v.m k2.v.here s).1 (Mem.layD k2.v.m k2.v.here s).2.1 (by omega) (by omega) ⟨by omega, by omega⟩
  simp only [enc3m] at h5
  generalize Mem.layD k2.v.m k2.v.here s = q at *
  have c5 := fail_l k2 q.2.2
  by_cases b5 : q.2.2 = 0
  case neg =>
    have d5 : (q.2.2 == 0) = false := beq_eq_false_iff_ne.2 b5
    rw [if_neg b5]
    have e5 : failD k2 q.2.2 = ⟨k2.v, k2.l, q.2.2⟩ := if_pos b
    rw [← e5]
    have c3 := done_l (failD k2 q.2.2) v []
    generalize failD k2 q.2.2 = k3 at *
    rw [out_done]
    generalize doneD k3 v [] = p at *
    simp only [encVLE] at c3
    unfold encVE
    refine FnC.of_awp (T := tt) (ok := tok) Try.func22 (by kernel_rfl) rfl (by kernel_rfl) (closedL_cons (closedV v) (closedL_cons (.val _) closedL_nil)) (fun w0 st0 => ?_)
    dsimp only [frOf]
    (repeat' (first | refine awp_seq ?_ | refine awp_block ?_ | refine awp_region_ne 2 rfl (fun _ => hmix) ?_ | refine ARun.o rfl ?_ | ((first | refine ARun.f ?_ | refine awp_skip ?_ | refine awp_exit ?_); dsimp only [thenA, blockA, AS.bump, List.length_cons, List.length_nil, reduceIte, Nat.reduceEqDiff]) | refine awp_cT rfl ?_ | refine awp_cF rfl ?_ | ((fail_if_success refine ARun.plain rfl ?_); first | refine ARun.kT rfl rfl rfl ?_ | refine ARun.kF rfl rfl rfl ?_ | refine ARun.fork rfl rfl rfl (fun h => ?_) (fun h => ?_)) | refine awp_cond rfl (fun h => ?_) (fun h => ?_)))
    refine awp_wkH 6 [encK ⟨v, [], 0⟩] rfl rfl (RelR.cons (RelL.cons (.same _) (RelL.cons (.same _) (RelL.cons (.same _) (RelL.cons (.same _) (RelL.cons (.same _) (RelL.cons (.same _) (RelL.cons (.same _) (RelL.cons (.same _) (RelL.cons (.same _) (RelL.cons (.same _) (RelL.cons (.same _) (RelL.cons (.same _) (RelL.cons (.same _) (RelL.cons (.same _) (RelL.cons (.same _) (RelL.cons (.same _) (RelL.cons (.same _) (RelL.cons (.same _) (RelL.cons (.same _) (RelL.cons (.same _) (RelL.cons (.same _) (RelL.cons (.same _) (RelL.cons (.same _) (RelL.cons Wk.nilSl (RelL.cons (.same _) (RelL.nil _)))))))))))))))))))))))))) (RelR.nil _)) ?_
    (repeat' (first | refine awp_seq ?_ | refine awp_block ?_ | refine awp_rg hmix ?_ | refine ARun.o rfl ?_ | refine callK 6 _ 25 (encK ⟨v, [], 0⟩) (encK k1) (c1) (encK_closed _) (encK_closed _) (RelL.cons (.ptr (j := 0) 0 0 rfl) (RelL.cons (.wk (.same _) (.val _)) (RelL.nil _))) (by first | exact .same _ (.tup closedL_nil) | exact .same _ (.val _) | exact .same _ (.agg (encCf_closed _)) | exact .same _ (.tup (closedL_cons (.agg (encFo_closed _)) (closedL_cons (.val _) closedL_nil))) | exact .same _ (.tup (closedL_cons (closedV _) (closedL_cons (closedLCf _) (closedL_cons (.val _) closedL_nil))))) ?_ | refine callK 6 _ 25 (encK k1) (encK k2) (c2) (encK_closed _) (encK_closed _) (RelL.cons (.ptr (j := 0) 0 0 rfl) (RelL.cons (.wk (.same _) (.val _)) (RelL.nil _))) (by first | exact .same _ (.tup closedL_nil) | exact .same _ (.val _) | exact .same _ (.agg (encCf_closed _)) | exact .same _ (.tup (closedL_cons (.agg (encFo_closed _)) (closedL_cons (.val _) closedL_nil))) | exact .same _ (.tup (closedL_cons (closedV _) (closedL_cons (closedLCf _) (closedL_cons (.val _) closedL_nil))))) ?_ | refine ARun.strBytesO rfl (by rw [show (ByteArray.mk s.toArray).size = s.length from rfl]; simp only [maxLen]; omega) rfl rfl rfl rfl rfl rfl rfl (guardF_spec rfl) ?_ | refine callGX [(30, _)] (c4) (BsOk.cons rfl (by first | exact own_closed_map encB_closed) (BsOk.nil _)) rfl (by (repeat (refine FzL.cons (by first | exact Fz.same _ | exact Fz.wk Wk.nilSl | exact Fz.wk (Wk.weak _ _ _) | exact Fz.own1 (by first | (simp; done) | (simp; rfl)) rfl (by simp) | exact Fz.cloL (FzL.nil _) (by (repeat (refine FzL.cons (by first | exact Fz.ptr1 (by first | exact .head _ | exact .tail _ (.head _) | exact .tail _ (.tail _ (.head _))) rfl rfl | exact Fz.same _) ?_)); exact FzL.nil _) | exact Fz.aggL (by (repeat (refine FzL.cons (by first | exact Fz.same _ | exact Fz.wk Wk.nilSl | exact Fz.wk (Wk.weak _ _ _) | exact Fz.own1 (by first | (simp; done) | (simp; rfl)) rfl (by simp)) ?_)); exact FzL.nil _)) ?_)); exact FzL.nil _) rfl rfl ?_ | refine callK 6 _ 25 (encK k2) (encK k3) (c5) (encK_closed _) (encK_closed _) (RelL.cons (.ptr (j := 0) 0 0 rfl) (RelL.cons (.wk (.same _) (.val _)) (RelL.nil _))) (by first | exact .same _ (.tup closedL_nil) | exact .same _ (.val _) | exact .same _ (.agg (encCf_closed _)) | exact .same _ (.tup (closedL_cons (.agg (encFo_closed _)) (closedL_cons (.val _) closedL_nil))) | exact .same _ (.tup (closedL_cons (closedV _) (closedL_cons (closedLCf _) (closedL_cons (.val _) closedL_nil))))) ?_ | refine callK 6 _ 25 (encK k3) (encK k3) (c3) (encK_closed _) (encK_closed _) (RelL.cons (.ptr (j := 0) 0 0 rfl) (RelL.cons (.wk (.same _) (by first | exact .agg (encCf_closed _) | exact closedV _ | exact closedLCf _ | (simp only [AS.ev]; done))) (RelL.cons (.wk (by first | exact Wk.same _ | exact Wk.nilSl) (by first | exact closedLCf _ | exact closedLCf [])) (RelL.nil _)))) (by first | exact .same _ (.tup closedL_nil) | exact .same _ (.val _) | exact .same _ (.agg (encCf_closed _)) | exact .same _ (.tup (closedL_cons (.agg (encFo_closed _)) (closedL_cons (.val _) closedL_nil))) | exact .same _ (.tup (closedL_cons (closedV _) (closedL_cons (closedLCf _) (closedL_cons (.val _) closedL_nil))))) ?_ | ((first | refine ARun.f ?_ | refine awp_skip ?_ | refine awp_exit ?_); dsimp only [thenA, blockA, AS.bump, List.length_cons, List.length_nil, reduceIte, Nat.reduceEqDiff]) | refine awp_cT rfl ?_ | refine awp_cF rfl ?_ | ((fail_if_success refine ARun.plain rfl ?_); first | refine ARun.kT rfl rfl rfl ?_ | refine ARun.kF rfl rfl rfl ?_)))
    exact awp_ret ⟨_, ResL.cons (ResA.agg rfl rfl rfl rfl rfl rfl rfl (RL.allClosed (encV_closed _))) (ResL.cons (ResA.tmp (.val _)) .nil), rfl⟩
  have d5 : (q.2.2 == 0) = true := beq_iff_eq.2 b5
  rw [if_pos b5]
  have e5 : failD k2 q.2.2 = k2 := by
    unfold failD
    rw [if_pos b, b5]
    cases k2
    simp only at b
    rw [b]
  rw [e5] at c5
  generalize alignD q.1 q.2.1 = r at *
  rw [show (⟨withMH k2.v r.1 r.2.1, k2.l, 0⟩ : Kw) = ⟨withMH k2.v r.1 r.2.1, k2.l, k2.bad⟩ by rw [b]]
  have c3 := done_l ⟨withMH k2.v r.1 r.2.1, k2.l, k2.bad⟩ v []
  rw [out_done]
  generalize doneD ⟨withMH k2.v r.1 r.2.1, k2.l, k2.bad⟩ v [] = p at *
  simp only [encVLE] at c3
  unfold encVE
  refine FnC.of_awp (T := tt) (ok := tok) Try.func22 (by kernel_rfl) rfl (by kernel_rfl) (closedL_cons (closedV v) (closedL_cons (.val _) closedL_nil)) (fun w0 st0 => ?_)
  dsimp only [frOf]
  (repeat' (first | refine awp_seq ?_ | refine awp_block ?_ | refine awp_region_ne 2 rfl (fun _ => hmix) ?_ | refine ARun.o rfl ?_ | ((first | refine ARun.f ?_ | refine awp_skip ?_ | refine awp_exit ?_); dsimp only [thenA, blockA, AS.bump, List.length_cons, List.length_nil, reduceIte, Nat.reduceEqDiff]) | refine awp_cT rfl ?_ | refine awp_cF rfl ?_ | ((fail_if_success refine ARun.plain rfl ?_); first | refine ARun.kT rfl rfl rfl ?_ | refine ARun.kF rfl rfl rfl ?_ | refine ARun.fork rfl rfl rfl (fun h => ?_) (fun h => ?_)) | refine awp_cond rfl (fun h => ?_) (fun h => ?_)))
  refine awp_wkH 6 [encK ⟨v, [], 0⟩] rfl rfl (RelR.cons (RelL.cons (.same _) (RelL.cons (.same _) (RelL.cons (.same _) (RelL.cons (.same _) (RelL.cons (.same _) (RelL.cons (.same _) (RelL.cons (.same _) (RelL.cons (.same _) (RelL.cons (.same _) (RelL.cons (.same _) (RelL.cons (.same _) (RelL.cons (.same _) (RelL.cons (.same _) (RelL.cons (.same _) (RelL.cons (.same _) (RelL.cons (.same _) (RelL.cons (.same _) (RelL.cons (.same _) (RelL.cons (.same _) (RelL.cons (.same _) (RelL.cons (.same _) (RelL.cons (.same _) (RelL.cons (.same _) (RelL.cons Wk.nilSl (RelL.cons (.same _) (RelL.nil _)))))))))))))))))))))))))) (RelR.nil _)) ?_
  (repeat' (first | refine awp_seq ?_ | refine awp_block ?_ | refine awp_rg hmix ?_ | refine ARun.o rfl ?_ | refine callK 6 _ 25 (encK ⟨v, [], 0⟩) (encK k1) (c1) (encK_closed _) (encK_closed _) (RelL.cons (.ptr (j := 0) 0 0 rfl) (RelL.cons (.wk (.same _) (.val _)) (RelL.nil _))) (by first | exact .same _ (.tup closedL_nil) | exact .same _ (.val _) | exact .same _ (.agg (encCf_closed _)) | exact .same _ (.tup (closedL_cons (.agg (encFo_closed _)) (closedL_cons (.val _) closedL_nil))) | exact .same _ (.tup (closedL_cons (closedV _) (closedL_cons (closedLCf _) (closedL_cons (.val _) closedL_nil))))) ?_ | refine callK 6 _ 25 (encK k1) (encK k2) (c2) (encK_closed _) (encK_closed _) (RelL.cons (.ptr (j := 0) 0 0 rfl) (RelL.cons (.wk (.same _) (.val _)) (RelL.nil _))) (by first | exact .same _ (.tup closedL_nil) | exact .same _ (.val _) | exact .same _ (.agg (encCf_closed _)) | exact .same _ (.tup (closedL_cons (.agg (encFo_closed _)) (closedL_cons (.val _) closedL_nil))) | exact .same _ (.tup (closedL_cons (closedV _) (closedL_cons (closedLCf _) (closedL_cons (.val _) closedL_nil))))) ?_ | refine ARun.strBytesO rfl (by rw [show (ByteArray.mk s.toArray).size = s.length from rfl]; simp only [maxLen]; omega) rfl rfl rfl rfl rfl rfl rfl (guardF_spec rfl) ?_ | refine callGX [(30, _)] (c4) (BsOk.cons rfl (by first | exact own_closed_map encB_closed) (BsOk.nil _)) rfl (by (repeat (refine FzL.cons (by first | exact Fz.same _ | exact Fz.wk Wk.nilSl | exact Fz.wk (Wk.weak _ _ _) | exact Fz.own1 (by first | (simp; done) | (simp; rfl)) rfl (by simp) | exact Fz.cloL (FzL.nil _) (by (repeat (refine FzL.cons (by first | exact Fz.ptr1 (by first | exact .head _ | exact .tail _ (.head _) | exact .tail _ (.tail _ (.head _))) rfl rfl | exact Fz.same _) ?_)); exact FzL.nil _) | exact Fz.aggL (by (repeat (refine FzL.cons (by first | exact Fz.same _ | exact Fz.wk Wk.nilSl | exact Fz.wk (Wk.weak _ _ _) | exact Fz.own1 (by first | (simp; done) | (simp; rfl)) rfl (by simp)) ?_)); exact FzL.nil _)) ?_)); exact FzL.nil _) rfl rfl ?_ | refine callX (h5) rfl rfl rfl rfl ?_ | refine callK 6 _ 25 (encK k2) (encK k2) (c5) (encK_closed _) (encK_closed _) (RelL.cons (.ptr (j := 0) 0 0 rfl) (RelL.cons (.wk (.same _) (.val _)) (RelL.nil _))) (by first | exact .same _ (.tup closedL_nil) | exact .same _ (.val _) | exact .same _ (.agg (encCf_closed _)) | exact .same _ (.tup (closedL_cons (.agg (encFo_closed _)) (closedL_cons (.val _) closedL_nil))) | exact .same _ (.tup (closedL_cons (closedV _) (closedL_cons (closedLCf _) (closedL_cons (.val _) closedL_nil))))) ?_ | refine callK 6 _ 25 (encK ⟨withMH k2.v r.1 r.2.1, k2.l, k2.bad⟩) (encK ⟨withMH k2.v r.1 r.2.1, k2.l, k2.bad⟩) (c3) (encK_closed _) (encK_closed _) (RelL.cons (.ptr (j := 0) 0 0 rfl) (RelL.cons (.wk (.same _) (by first | exact .agg (encCf_closed _) | exact closedV _ | exact closedLCf _ | (simp only [AS.ev]; done))) (RelL.cons (.wk (by first | exact Wk.same _ | exact Wk.nilSl) (by first | exact closedLCf _ | exact closedLCf [])) (RelL.nil _)))) (by first | exact .same _ (.tup closedL_nil) | exact .same _ (.val _) | exact .same _ (.agg (encCf_closed _)) | exact .same _ (.tup (closedL_cons (.agg (encFo_closed _)) (closedL_cons (.val _) closedL_nil))) | exact .same _ (.tup (closedL_cons (closedV _) (closedL_cons (closedLCf _) (closedL_cons (.val _) closedL_nil))))) ?_ | ((first | refine ARun.f ?_ | refine awp_skip ?_ | refine awp_exit ?_); dsimp only [thenA, blockA, AS.bump, List.length_cons, List.length_nil, reduceIte, Nat.reduceEqDiff]) | refine awp_cT rfl ?_ | refine awp_cF rfl ?_ | ((fail_if_success refine ARun.plain rfl ?_); first | refine ARun.kT rfl rfl rfl ?_ | refine ARun.kF rfl rfl rfl ?_)))
  exact awp_ret ⟨_, ResL.cons (ResA.agg rfl rfl rfl rfl rfl rfl rfl (RL.allClosed (encV_closed _))) (ResL.cons (ResA.tmp (.val _)) .nil), rfl⟩
end Go.Proofs.Ytpkkplojpjakiaa
/- cflow: the reference's helpers. -/
namespace Go.Proofs.Ytpkkplojpjakiaa
set_option linter.unusedVariables false
set_option linter.unusedSimpArgs false
open Go Go.RowKit
open Go.Proofs.Ytpkkplojpjakiaa.Dict (St Bs bs_eq Wd encW encWs closed_ws)
open Go.Proofs.Ytpkkplojpjakiaa.Mem (Mm encM encBs closed_bs encP encP_closed closed_m storeD fetchD commaD alignD enc3m writeD)
open Go.Proofs.Ytpkkplojpjakiaa.Stk (encS closed_s encI_closed)
set_option maxRecDepth 100000
theorem cellD_bad {w : Kw} (h : w.bad ≠ 0) (n : Int) : cellD w n = w := if_neg h
theorem hereD_bad {w : Kw} (h : w.bad ≠ 0) (n : Int) : hereD w n = w := if_neg h
theorem cells_bad {w : Kw} (h : w.bad ≠ 0) : ∀ l : List Int, l.foldl cellD w = w
  | [] => rfl
  | a :: l => by rw [List.foldl_cons, cellD_bad h, cells_bad h l]
theorem heres_bad {w : Kw} (h : w.bad ≠ 0) : ∀ l : List Int, heresD w l = w
  | [] => rfl
  | a :: l => by
    show heresD (hereD w a) l = w
    rw [hereD_bad h, heres_bad h l]
theorem store_code (m : Mm) (a n : Int) (h : (storeD m a n).2 ≠ 0) : (storeD m a n).1 = m := by
  unfold storeD at h ⊢
  split
  · rfl
  · rename_i h1
    rw [if_neg h1] at h
    unfold writeD at h ⊢
    split
    · rfl
    · rename_i h2
      rw [if_neg h2] at h
      split at h
      · exact absurd rfl h
      · exact absurd rfl h
theorem withMH_id (v : V) : withMH v v.m v.here = v := by cases v; rfl
def wk0 (v : V) : Kw := ⟨v, [], 0⟩
def lastK (l : List Cfr) (n : Nat) : Int := if l.length ≤ n then 0 else (l[l.length - 1 - n]?.getD cf0).kind
attribute [local irreducible] Decidable.decide awp ARun regK toK
theorem number_c (s : Bs) : FnC Try.prog 66 [St s] (.val (.int .i64 (idxFrom nmsV s 0))) := by
  have c1 := ref_names_c
  have hl := len_nms
  rw [List.length_map] at hl
  generalize nmsV = l at *
  refine FnC.of_awp (T := tt) (ok := tok) Try.func66 (by kernel_rfl) rfl (by kernel_rfl) (closedL_cons (.val _) closedL_nil) (fun w0 st0 => ?_)
  dsimp only [frOf]
  (repeat' (first | refine awp_seq ?_ | refine awp_block ?_ | refine awp_rg hmix ?_ | refine ARun.o rfl ?_ | refine callX (c1) rfl rfl rfl rfl ?_ | ((first | refine ARun.f ?_ | refine awp_skip ?_ | refine awp_exit ?_); dsimp only [thenA, blockA, AS.bump, List.length_cons, List.length_nil, reduceIte, Nat.reduceEqDiff]) | refine awp_cT rfl ?_ | refine awp_cF rfl ?_ | ((fail_if_success refine ARun.plain rfl ?_); first | refine ARun.kT rfl rfl rfl ?_ | refine ARun.kF rfl rfl rfl ?_ | refine ARun.fork rfl rfl rfl (fun h => ?_) (fun h => ?_)) | refine awp_cond rfl (fun h => ?_) (fun h => ?_)))
  refine awp_loopT (T := Nat × Nat) (fun t => ⟨[(4, .val (.int .i64 (t.1 : Nat))), (3, .sl 1 true (l.map encN)), (0, St s)], [], t.2⟩) (fun t => t.1 ≤ l.length ∧ idxFrom l s 0 = idxFrom (l.drop t.1) s t.1) (fun t => l.length - t.1) (0, _) ⟨Nat.zero_le _, rfl⟩ ⟨⟨rfl, rfl, rfl, trivial⟩, trivial, Nat.le_refl _⟩ (fun t ht => ?_)
  obtain ⟨k, gc⟩ := t
  obtain ⟨hk, hA⟩ := ht
  dsimp only at hk hA ⊢
  by_cases hlt : k < l.length
  · have hp : l[k]? = some l[k] := List.getElem?_eq_getElem hlt
    have hc : decide (((k : Nat) : Int) < (((l.map encN).length : Nat) : Int)) = true := by simp; omega
    generalize l[k] = a at hp
    have hs := idx_step (s := s) hp
    by_cases h3 : s = a
    · have d3 : ((ByteArray.mk a.toArray).toList == (ByteArray.mk s.toArray).toList) = true := by rw [bs_eq]; exact decide_eq_true h3.symm
      (repeat' (first | refine awp_seq ?_ | refine awp_block ?_ | refine awp_rg hmix ?_ | refine ARun.o rfl ?_ | refine ARun.indexAddr rfl rfl (by omega) (by first | with_reducible exact get_map hp | with_reducible exact get_map hp) rfl rfl rfl rfl rfl (guardF_spec rfl) ?_ | ((first | refine ARun.f ?_ | refine awp_skip ?_ | refine awp_exit ?_); dsimp only [thenA, blockA, AS.bump, List.length_cons, List.length_nil, reduceIte, Nat.reduceEqDiff]) | refine awp_cT rfl ?_ | refine awp_cF rfl ?_ | ((fail_if_success refine ARun.plain rfl ?_); first | refine ARun.kT rfl rfl rfl ?_ | refine ARun.kF rfl rfl rfl ?_ | refine ARun.fork rfl rfl rfl (fun h => ?_) (fun h => ?_)) | refine awp_cond rfl (fun h => ?_) (fun h => ?_)))
      refine awp_ret ⟨_, ResL.cons (ResA.tmp (.val _)) .nil, congrArg (fun b => AV.val (.int .i64 b)) ?_⟩
      rw [hA, hs, if_pos h3]
    · have d3 : ((ByteArray.mk a.toArray).toList == (ByteArray.mk s.toArray).toList) = false := by rw [bs_eq]; exact decide_eq_false (fun e => h3 e.symm)
      (repeat' (first | refine awp_seq ?_ | refine awp_block ?_ | refine awp_rg hmix ?_ | refine ARun.o rfl ?_ | refine ARun.indexAddr rfl rfl (by omega) (by first | with_reducible exact get_map hp | with_reducible exact get_map hp) rfl rfl rfl rfl rfl (guardF_spec rfl) ?_ | ((first | refine ARun.f ?_ | refine awp_skip ?_ | refine awp_exit ?_); dsimp only [thenA, blockA, AS.bump, List.length_cons, List.length_nil, reduceIte, Nat.reduceEqDiff]) | refine awp_cT rfl ?_ | refine awp_cF rfl ?_ | ((fail_if_success refine ARun.plain rfl ?_); first | refine ARun.kT rfl rfl rfl ?_ | refine ARun.kF rfl rfl rfl ?_ | refine ARun.fork rfl rfl rfl (fun h => ?_) (fun h => ?_)) | refine awp_cond rfl (fun h => ?_) (fun h => ?_)))
      exact ⟨(k + 1, _), ⟨⟨succI k, rfl, rfl, trivial⟩, trivial, Nat.le_refl _⟩, ⟨hlt, by dsimp only; rw [hA, hs, if_neg h3]⟩, (by dsimp only; omega)⟩
  · have hkk : k = l.length := by omega
    subst hkk
    have hc : decide (((l.length : Nat) : Int) < (((l.map encN).length : Nat) : Int)) = false := by simp
    (repeat' (first | refine awp_seq ?_ | refine awp_block ?_ | refine awp_rg hmix ?_ | refine ARun.o rfl ?_ | ((first | refine ARun.f ?_ | refine awp_skip ?_ | refine awp_exit ?_); dsimp only [thenA, blockA, AS.bump, List.length_cons, List.length_nil, reduceIte, Nat.reduceEqDiff]) | refine awp_cT rfl ?_ | refine awp_cF rfl ?_ | ((fail_if_success refine ARun.plain rfl ?_); first | refine ARun.kT rfl rfl rfl ?_ | refine ARun.kF rfl rfl rfl ?_ | refine ARun.fork rfl rfl rfl (fun h => ?_) (fun h => ?_)) | refine awp_cond rfl (fun h => ?_) (fun h => ?_)))
    refine awp_ret ⟨_, ResL.cons (ResA.tmp (.val _)) .nil, congrArg (fun b => AV.val (.int .i64 b)) ?_⟩
    rw [hA, List.drop_length]
    rfl
theorem ref_xt_c (s : Bs) : FnC Try.prog 30 [St s] (.val (.int .i64 (xtD s))) := by
  have c1 := number_c s
  have hl := len_nms
  rw [List.length_map] at hl
  have hr := idx_rng nmsV s 0
  unfold xtD
  generalize idxFrom nmsV s 0 = n at *
  refine FnC.of_awp (T := tt) (ok := tok) Try.func30 (by kernel_rfl) rfl (by kernel_rfl) (closedL_cons (.val _) closedL_nil) (fun w0 st0 => ?_)
  dsimp only [frOf]
  (repeat' (first | refine awp_seq ?_ | refine awp_block ?_ | refine awp_rg hmix ?_ | refine ARun.o rfl ?_ | refine callX (c1) rfl rfl rfl rfl ?_ | ((first | refine ARun.f ?_ | refine awp_skip ?_ | refine awp_exit ?_); dsimp only [thenA, blockA, AS.bump, List.length_cons, List.length_nil, reduceIte, Nat.reduceEqDiff]) | refine awp_cT rfl ?_ | refine awp_cF rfl ?_ | ((fail_if_success refine ARun.plain rfl ?_); first | refine ARun.kT rfl rfl rfl ?_ | refine ARun.kF rfl rfl rfl ?_ | refine ARun.fork rfl rfl rfl (fun h => ?_) (fun h => ?_)) | refine awp_cond rfl (fun h => ?_) (fun h => ?_)))
  exact awp_ret ⟨_, ResL.cons (ResA.tmp (.val _)) .nil, rfl⟩
theorem ref_last_c (l : List Cfr) (n : Nat) (hl : l.length ≤ 1000000) (hn : n ≤ 1000) : FnC Try.prog 89 [encLCf l, .val (.int .i64 (n : Nat))] (.val (.int .i64 (lastK l n))) := by
  have e0 : (((l.map encCf).length : Nat) : Int) = l.length := by rw [List.length_map]
  unfold lastK
  by_cases h : l.length ≤ n
  · have d : decide ((((l.map encCf).length : Nat) : Int) ≤ (n : Nat)) = true := decide_eq_true (by omega)
    rw [if_pos h]
    refine FnC.of_awp (T := tt) (ok := tok) Try.func89 (by kernel_rfl) rfl (by kernel_rfl) (closedL_cons (closedLCf l) (closedL_cons (.val _) closedL_nil)) (fun w0 st0 => ?_)
    dsimp only [frOf]
    (repeat' (first | refine awp_seq ?_ | refine awp_block ?_ | refine awp_rg hmix ?_ | refine ARun.o rfl ?_ | ((first | refine ARun.f ?_ | refine awp_skip ?_ | refine awp_exit ?_); dsimp only [thenA, blockA, AS.bump, List.length_cons, List.length_nil, reduceIte, Nat.reduceEqDiff]) | refine awp_cT rfl ?_ | refine awp_cF rfl ?_ | ((fail_if_success refine ARun.plain rfl ?_); first | refine ARun.kT rfl rfl rfl ?_ | refine ARun.kF rfl rfl rfl ?_)))
    exact awp_ret ⟨_, ResL.cons (ResA.tmp (.val _)) .nil, rfl⟩
  · have d : decide ((((l.map encCf).length : Nat) : Int) ≤ (n : Nat)) = false := decide_eq_false (by omega)
    rw [if_neg h]
    have hp : l[l.length - 1 - n]? = some l[l.length - 1 - n] := List.getElem?_eq_getElem (by omega)
    generalize l[l.length - 1 - n]'_ = c at hp
    rw [hp]
    have hq : (l.map encCf)[((((l.map encCf).length : Nat) : Int) - 1 - (n : Nat)).toNat]? = some (encCf c) := by
      rw [e0, List.getElem?_map, show ((l.length : Int) - 1 - (n : Nat)).toNat = l.length - 1 - n by omega, hp]
      rfl
    refine FnC.of_awp (T := tt) (ok := tok) Try.func89 (by kernel_rfl) rfl (by kernel_rfl) (closedL_cons (closedLCf l) (closedL_cons (.val _) closedL_nil)) (fun w0 st0 => ?_)
    dsimp only [frOf]
    (repeat' (first | refine awp_seq ?_ | refine awp_block ?_ | refine awp_rg hmix ?_ | refine ARun.o rfl ?_ | refine ARun.indexAddr rfl rfl (by omega) (by with_reducible exact hq) rfl rfl rfl rfl rfl (guardF_spec rfl) ?_ | ((first | refine ARun.f ?_ | refine awp_skip ?_ | refine awp_exit ?_); dsimp only [thenA, blockA, AS.bump, List.length_cons, List.length_nil, reduceIte, Nat.reduceEqDiff]) | refine awp_cT rfl ?_ | refine awp_cF rfl ?_ | ((fail_if_success refine ARun.plain rfl ?_); first | refine ARun.kT rfl rfl rfl ?_ | refine ARun.kF rfl rfl rfl ?_)))
    exact awp_ret ⟨_, ResL.cons (ResA.tmp (.val _)) .nil, rfl⟩
theorem ref_loop_c (l : List Cfr) (hl : l.length ≤ 1000000) : FnC Try.prog 57 [encLCf l] (.val (.int .i64 (loopAt l))) := by
  have e0 : (((l.map encCf).length : Nat) : Int) = l.length := by rw [List.length_map]
  refine FnC.of_awp (T := tt) (ok := tok) Try.func57 (by kernel_rfl) rfl (by kernel_rfl) (closedL_cons (closedLCf l) closedL_nil) (fun w0 st0 => ?_)
  dsimp only [frOf]
  (repeat' (first | refine awp_seq ?_ | refine awp_block ?_ | refine awp_rg hmix ?_ | refine ARun.o rfl ?_ | ((first | refine ARun.f ?_ | refine awp_skip ?_ | refine awp_exit ?_); dsimp only [thenA, blockA, AS.bump, List.length_cons, List.length_nil, reduceIte, Nat.reduceEqDiff]) | refine awp_cT rfl ?_ | refine awp_cF rfl ?_ | ((fail_if_success refine ARun.plain rfl ?_); first | refine ARun.kT rfl rfl rfl ?_ | refine ARun.kF rfl rfl rfl ?_ | refine ARun.fork rfl rfl rfl (fun h => ?_) (fun h => ?_)) | refine awp_cond rfl (fun h => ?_) (fun h => ?_)))
  refine awp_loopT (T := Nat × Nat) (fun t => ⟨[(3, .val (.int .i64 ((t.1 : Nat) - 1 : Int))), (0, encLCf l)], [], t.2⟩) (fun t => t.1 ≤ l.length ∧ loopAt l = loopFrom l t.1) (fun t => t.1) ((l.map encCf).length, _) ⟨by dsimp only; omega, by dsimp only; rw [List.length_map]; rfl⟩ ⟨⟨rfl, rfl, trivial⟩, trivial, Nat.le_refl _⟩ (fun t ht => ?_)
  obtain ⟨t, gc⟩ := t
  obtain ⟨ht, hA⟩ := ht
  dsimp only at ht hA ⊢
  rw [hA]
  cases t with
  | zero =>
    rw [show (((0 : Nat)) : Int) - 1 = -1 from rfl]
    have d1 : decide ((0 : Int) ≤ -1) = false := decide_eq_false (by omega)
    (repeat' (first | refine awp_seq ?_ | refine awp_block ?_ | refine awp_rg hmix ?_ | refine ARun.o rfl ?_ | ((first | refine ARun.f ?_ | refine awp_skip ?_ | refine awp_exit ?_); dsimp only [thenA, blockA, AS.bump, List.length_cons, List.length_nil, reduceIte, Nat.reduceEqDiff]) | refine awp_cT rfl ?_ | refine awp_cF rfl ?_ | ((fail_if_success refine ARun.plain rfl ?_); first | refine ARun.kT rfl rfl rfl ?_ | refine ARun.kF rfl rfl rfl ?_)))
    exact awp_ret ⟨_, ResL.cons (ResA.tmp (.val _)) .nil, rfl⟩
  | succ k =>
    rw [show (((k + 1 : Nat)) : Int) - 1 = (k : Int) by omega]
    have d1 : decide ((0 : Int) ≤ ((k : Nat) : Int)) = true := decide_eq_true (by omega)
    have hp : l[k]? = some l[k] := List.getElem?_eq_getElem (by omega)
    generalize l[k] = c at hp
    by_cases hk : c.kind = 3
    case neg =>
      have d3 : (c.kind == 3) = false := by simp [hk]
      (repeat' (first | refine awp_seq ?_ | refine awp_block ?_ | refine awp_rg hmix ?_ | refine ARun.o rfl ?_ | refine ARun.indexAddr rfl rfl (by omega) (by first | with_reducible exact get_map hp | with_reducible exact get_map hp) rfl rfl rfl rfl rfl (guardF_spec rfl) ?_ | ((first | refine ARun.f ?_ | refine awp_skip ?_ | refine awp_exit ?_); dsimp only [thenA, blockA, AS.bump, List.length_cons, List.length_nil, reduceIte, Nat.reduceEqDiff]) | refine awp_cT rfl ?_ | refine awp_cF rfl ?_ | ((fail_if_success refine ARun.plain rfl ?_); first | refine ARun.kT rfl rfl rfl ?_ | refine ARun.kF rfl rfl rfl ?_)))
      exact ⟨(k, _), ⟨⟨rfl, rfl, trivial⟩, trivial, Nat.le_refl _⟩, ⟨by dsimp only; omega, by dsimp only; rw [loop_miss hp hk]⟩, by dsimp only; omega⟩
    have d3 : (c.kind == 3) = true := by simp [hk]
    rw [loop_hit hp hk]
    (repeat' (first | refine awp_seq ?_ | refine awp_block ?_ | refine awp_rg hmix ?_ | refine ARun.o rfl ?_ | refine ARun.indexAddr rfl rfl (by omega) (by first | with_reducible exact get_map hp | with_reducible exact get_map hp) rfl rfl rfl rfl rfl (guardF_spec rfl) ?_ | ((first | refine ARun.f ?_ | refine awp_skip ?_ | refine awp_exit ?_); dsimp only [thenA, blockA, AS.bump, List.length_cons, List.length_nil, reduceIte, Nat.reduceEqDiff]) | refine awp_cT rfl ?_ | refine awp_cF rfl ?_ | ((fail_if_success refine ARun.plain rfl ?_); first | refine ARun.kT rfl rfl rfl ?_ | refine ARun.kF rfl rfl rfl ?_)))
    exact awp_ret ⟨_, ResL.cons (ResA.tmp (.val _)) .nil, rfl⟩
theorem ref_with_c (l : List Cfr) (k : Nat) (more : List Cfr) (hk : k ≤ l.length) (hl : l.length ≤ 100000) (hm : more.length ≤ 100000) : FnC Try.prog 56 [encLCf l, .val (.int .i64 (k : Nat)), encLCf more] (encLCf (l.take (l.length - k) ++ more)) := by
  have e0 : (((l.map encCf).length : Nat) : Int) = l.length := by rw [List.length_map]
  have e1 : ((((l.take (l.length - k)).map encCf).length : Nat) : Int) = l.length - k := by rw [List.length_map, List.length_take]; omega
  have e2 : (more.map encCf).length = more.length := by rw [List.length_map]
  have he : l.map encCf = (l.take (l.length - k)).map encCf ++ (l.drop (l.length - k)).map encCf := by rw [← List.map_append, List.take_append_drop]
  rw [show encLCf (l.take (l.length - k) ++ more) = .sl 3 false ((l.take (l.length - k)).map encCf ++ more.map encCf) by unfold encLCf; rw [List.map_append]]
  refine FnC.of_awp (T := tt) (ok := tok) Try.func56 (by kernel_rfl) rfl (by kernel_rfl) (closedL_cons (closedLCf l) (closedL_cons (.val _) (closedL_cons (closedLCf more) closedL_nil))) (fun w0 st0 => ?_)
  dsimp only [frOf]
  (repeat' (first | refine awp_seq ?_ | refine awp_block ?_ | refine awp_rg hmix ?_ | refine ARun.o rfl ?_ | refine ARun.sliceTo rfl he rfl (by first | omega | (dsimp only [maxLen]; done) | (dsimp only [maxLen]; omega) | (simp only [List.length_append, List.length_map, List.length_take, List.length_drop, List.length_replicate, List.length_cons, List.length_nil, maxLen]; done) | (simp only [List.length_append, List.length_map, List.length_take, List.length_drop, List.length_replicate, List.length_cons, List.length_nil, maxLen]; omega) | (simp only [List.length_append, List.length_map, List.length_take, List.length_drop, List.length_replicate, List.length_cons, List.length_nil, maxLen] at *; done) | (simp only [List.length_append, List.length_map, List.length_take, List.length_drop, List.length_replicate, List.length_cons, List.length_nil, maxLen] at *; omega)) rfl rfl rfl rfl rfl (guardF_spec rfl) ?_ | refine ARun.append_fullS rfl (by first | exact SrcA.sl rfl (.inr rfl) | exact SrcA.sl rfl (.inl rfl) | exact SrcA.ownW rfl rfl rfl rfl) rfl rfl rfl (by first | exact .inr rfl | exact .inl rfl | (right; simp; done)) (by first | exact .inr rfl | exact .inl rfl | (right; simp; done)) rfl rfl (by first | omega | (dsimp only [maxLen]; done) | (dsimp only [maxLen]; omega) | (simp only [List.length_append, List.length_map, List.length_take, List.length_drop, List.length_replicate, List.length_cons, List.length_nil, maxLen]; done) | (simp only [List.length_append, List.length_map, List.length_take, List.length_drop, List.length_replicate, List.length_cons, List.length_nil, maxLen]; omega) | (simp only [List.length_append, List.length_map, List.length_take, List.length_drop, List.length_replicate, List.length_cons, List.length_nil, maxLen] at *; done) | (simp only [List.length_append, List.length_map, List.length_take, List.length_drop, List.length_replicate, List.length_cons, List.length_nil, maxLen] at *; omega)) (by first | omega | (dsimp only [maxLen]; done) | (dsimp only [maxLen]; omega) | (simp only [List.length_append, List.length_map, List.length_take, List.length_drop, List.length_replicate, List.length_cons, List.length_nil, maxLen]; done) | (simp only [List.length_append, List.length_map, List.length_take, List.length_drop, List.length_replicate, List.length_cons, List.length_nil, maxLen]; omega) | (simp only [List.length_append, List.length_map, List.length_take, List.length_drop, List.length_replicate, List.length_cons, List.length_nil, maxLen] at *; done) | (simp only [List.length_append, List.length_map, List.length_take, List.length_drop, List.length_replicate, List.length_cons, List.length_nil, maxLen] at *; omega)) rfl (guardF_spec rfl) ?_ | refine ARun.append_ownS rfl rfl rfl rfl (by first | exact SrcA.sl rfl (.inr rfl) | exact SrcA.sl rfl (.inl rfl) | exact SrcA.ownW rfl rfl rfl rfl) rfl rfl rfl rfl rfl rfl (by first | omega | (dsimp only [maxLen]; done) | (dsimp only [maxLen]; omega) | (simp only [List.length_append, List.length_map, List.length_take, List.length_drop, List.length_replicate, List.length_cons, List.length_nil, maxLen]; done) | (simp only [List.length_append, List.length_map, List.length_take, List.length_drop, List.length_replicate, List.length_cons, List.length_nil, maxLen]; omega) | (simp only [List.length_append, List.length_map, List.length_take, List.length_drop, List.length_replicate, List.length_cons, List.length_nil, maxLen] at *; done) | (simp only [List.length_append, List.length_map, List.length_take, List.length_drop, List.length_replicate, List.length_cons, List.length_nil, maxLen] at *; omega)) (by first | omega | (dsimp only [maxLen]; done) | (dsimp only [maxLen]; omega) | (simp only [List.length_append, List.length_map, List.length_take, List.length_drop, List.length_replicate, List.length_cons, List.length_nil, maxLen]; done) | (simp only [List.length_append, List.length_map, List.length_take, List.length_drop, List.length_replicate, List.length_cons, List.length_nil, maxLen]; omega) | (simp only [List.length_append, List.length_map, List.length_take, List.length_drop, List.length_replicate, List.length_cons, List.length_nil, maxLen] at *; done) | (simp only [List.length_append, List.length_map, List.length_take, List.length_drop, List.length_replicate, List.length_cons, List.length_nil, maxLen] at *; omega)) rfl (guardF_spec rfl) ?_ | ((first | refine ARun.f ?_ | refine awp_skip ?_ | refine awp_exit ?_); dsimp only [thenA, blockA, AS.bump, List.length_cons, List.length_nil, reduceIte, Nat.reduceEqDiff]) | refine awp_cT rfl ?_ | refine awp_cF rfl ?_ | ((fail_if_success refine ARun.plain rfl ?_); first | refine ARun.kT rfl rfl rfl ?_ | refine ARun.kF rfl rfl rfl ?_)))
  exact awp_ret ⟨_, ResL.cons (ResA.tmp (.owned rfl rfl rfl (by
    intro el x hel hx
    simp only [List.nil_append, List.mem_append, List.mem_map] at hel
    rcases hel with ⟨c, _, rfl⟩ | ⟨c, _, rfl⟩ <;> exact encCf_closed c x hx))) .nil, rfl⟩
end Go.Proofs.Ytpkkplojpjakiaa
/- cflow: the reference's Cells, stored, Lit, Str. -/
namespace Go.Proofs.Ytpkkplojpjakiaa
set_option linter.unusedVariables false
set_option linter.unusedSimpArgs false
open Go Go.RowKit
open Go.Proofs.Ytpkkplojpjakiaa.Dict (St Bs bs_eq Wd encW encWs closed_ws)
open Go.Proofs.Ytpkkplojpjakiaa.Mem (Mm encM encBs closed_bs encP encP_closed closed_m storeD fetchD commaD alignD enc3m enc2m writeD)
open Go.Proofs.Ytpkkplojpjakiaa.Stk (encS closed_s encI_closed)
set_option maxRecDepth 100000
def cellsK (v : V) (l : List Int) : Kw := l.foldl cellD (wk0 v)
def storK (v : V) (l : List Int) : Kw := heresD (wk0 v) l
theorem foldl_split {α β : Type} (f : α → β → α) (a : α) (l : List β) (k : Nat) : l.foldl f a = (l.drop k).foldl f ((l.take k).foldl f a) := by
  rw [← List.foldl_append, List.take_append_drop]
theorem foldl_take_succ {α β : Type} (f : α → β → α) (a : α) {l : List β} {k : Nat} {x : β} (h : l[k]? = some x) : (l.take (k + 1)).foldl f a = f ((l.take k).foldl f a) x := by
  rw [List.take_add_one, h, List.foldl_append]
  rfl
theorem cells_okk {w : Kw} {k : Nat} : ∀ (l : List Int), Okk w.v (k + l.length) → Okk (l.foldl cellD w).v k := fun l => by
  induction l generalizing w with
  | nil => exact fun h => h
  | cons a l ih => exact fun h => ih (w := cellD w a) (okk_cell a (by rw [List.length_cons] at h; exact h.le (by omega)))
attribute [local irreducible] Decidable.decide awp ARun regK toK
set_option maxHeartbeats 8000000 in
theorem ref_cells_c (v : V) (l : List Int) (hl : l.length ≤ 1000) (h : Okk v l.length) : FnC Try.prog 41 [.agg (encV v), encS l] (encVE (outD (cellsK v l) v)) := by
  have e0 : (((l.map encI).length : Nat) : Int) = l.length := by rw [List.length_map]
  refine FnC.of_awp (T := tt) (ok := tok) Try.func41 (by kernel_rfl) rfl (by kernel_rfl) (closedL_cons (closedV v) (closedL_cons (closed_s l) closedL_nil)) (fun w0 st0 => ?_)
  dsimp only [frOf]
  (repeat' (first | refine awp_seq ?_ | refine awp_block ?_ | refine awp_rg hmix ?_ | refine ARun.o rfl ?_ | ((first | refine ARun.f ?_ | refine awp_skip ?_ | refine awp_exit ?_); dsimp only [thenA, blockA, AS.bump, List.length_cons, List.length_nil, reduceIte, Nat.reduceEqDiff]) | refine awp_cT rfl ?_ | refine awp_cF rfl ?_ | ((fail_if_success refine ARun.plain rfl ?_); first | refine ARun.kT rfl rfl rfl ?_ | refine ARun.kF rfl rfl rfl ?_ | refine ARun.fork rfl rfl rfl (fun h => ?_) (fun h => ?_)) | refine awp_cond rfl (fun h => ?_) (fun h => ?_)))
  refine awp_loopT (T := Nat × Nat) (fun t => ⟨[(7, .val (.int .i64 (t.1 : Nat))), (2, .ptr 2 0 0 0), (4, .ptr 4 1 0 0), (6, .ptr 6 4 0 0), (1, encS l)], [(2, some ⟨0, 23, [encV v]⟩), (4, some ⟨1, 23, [[.val (.int .i64 0), .val (.int .i64 0), .val (.int .i64 0), .val (.int .i64 0), .val (.int .i64 0), .sl 0 true [], .sl 0 true [], .val (.int .i64 0), .sl 0 true [], .sl 0 true [], .sl 0 true [], .sl 0 true [], .val (.int .i64 0), .sl 0 true [], .sl 0 true [], .val (.bool false), .sl 0 true [], .val (.int .i64 0), .val (.int .i64 0), .val (.int .i64 0), .val (.int .i64 0), .val (.int .i64 0), .sl 0 true []]]⟩), (6, some ⟨4, 23, [encV ((l.take t.1).foldl cellD (wk0 v)).v]⟩)], t.2⟩) (fun t => t.1 ≤ l.length ∧ ((l.take t.1).foldl cellD (wk0 v)).bad = 0 ∧ Okk ((l.take t.1).foldl cellD (wk0 v)).v (l.length - t.1)) (fun t => l.length - t.1) (0, _) ⟨Nat.zero_le _, rfl, h⟩ ⟨⟨rfl, rfl, rfl, rfl, rfl, trivial⟩, ⟨rfl, rfl, rfl, trivial⟩, Nat.le_refl _⟩ (fun t ht => ?_)
  obtain ⟨k, gc⟩ := t
  obtain ⟨hk, hA, hO⟩ := ht
  dsimp only at hk hA hO ⊢
  by_cases hlt : k < l.length
  · have hc : decide (((k : Nat) : Int) < ((l.map encI).length : Nat)) = true := decide_eq_true (by omega)
    have hp : l[k]? = some l[k] := List.getElem?_eq_getElem hlt
    generalize l[k] = x at hp
    have hs := foldl_take_succ cellD (wk0 v) hp
    have hz := foldl_split cellD (wk0 v) l (k + 1)
    rw [hs] at hz
    have hO1 : Okk ((l.take k).foldl cellD (wk0 v)).v (l.length - (k + 1) + 1) := by rw [show l.length - (k + 1) + 1 = l.length - k by omega]; exact hO
    have hok := okk_cell x hO1
    generalize (l.take k).foldl cellD (wk0 v) = w at *
    have c1 := ref_vlay_c w.v x (hO1.le (by omega))
    have ew : cellD w x = ⟨(vlayD w.v x).1, w.l, (vlayD w.v x).2⟩ := if_pos hA
    unfold encVE at c1 ⊢
    by_cases hb : (vlayD w.v x).2 = 0
    · have d : ((vlayD w.v x).2 != 0) = false := by simp [hb]
      rw [ew] at hs hok
      generalize vlayD w.v x = p at *
      (repeat' (first | refine awp_seq ?_ | refine awp_block ?_ | refine awp_rg hmix ?_ | refine ARun.o rfl ?_ | refine ARun.indexAddr rfl rfl (by omega) (by first | with_reducible exact get_map hp | with_reducible exact get_map hp) rfl rfl rfl rfl rfl (guardF_spec rfl) ?_ | refine callX (c1) rfl rfl rfl rfl ?_ | ((first | refine ARun.f ?_ | refine awp_skip ?_ | refine awp_exit ?_); dsimp only [thenA, blockA, AS.bump, List.length_cons, List.length_nil, reduceIte, Nat.reduceEqDiff]) | refine awp_cT rfl ?_ | refine awp_cF rfl ?_ | ((fail_if_success refine ARun.plain rfl ?_); first | refine ARun.kT rfl rfl rfl ?_ | refine ARun.kF rfl rfl rfl ?_)))
      refine ⟨(k + 1, _), ⟨⟨succI k, rfl, rfl, rfl, rfl, trivial⟩, ⟨rfl, rfl, ?_, trivial⟩, Nat.le_refl _⟩, ⟨hlt, by dsimp only; rw [hs]; exact hb, by dsimp only; rw [hs]; exact hok⟩, (by dsimp only; omega)⟩
      dsimp only
      rw [hs]
      rfl
    · have d : ((vlayD w.v x).2 != 0) = true := by simp [hb]
      have hzz : outD (cellsK v l) v = (v, (vlayD w.v x).2) := by
        unfold cellsK
        rw [hz, cells_bad (by rw [ew]; exact hb), ew]
        exact if_neg hb
      rw [hzz]
      generalize vlayD w.v x = p at *
      (repeat' (first | refine awp_seq ?_ | refine awp_block ?_ | refine awp_rg hmix ?_ | refine ARun.o rfl ?_ | refine ARun.indexAddr rfl rfl (by omega) (by first | with_reducible exact get_map hp | with_reducible exact get_map hp) rfl rfl rfl rfl rfl (guardF_spec rfl) ?_ | refine callX (c1) rfl rfl rfl rfl ?_ | ((first | refine ARun.f ?_ | refine awp_skip ?_ | refine awp_exit ?_); dsimp only [thenA, blockA, AS.bump, List.length_cons, List.length_nil, reduceIte, Nat.reduceEqDiff]) | refine awp_cT rfl ?_ | refine awp_cF rfl ?_ | ((fail_if_success refine ARun.plain rfl ?_); first | refine ARun.kT rfl rfl rfl ?_ | refine ARun.kF rfl rfl rfl ?_)))
      exact awp_ret ⟨_, ResL.cons (ResA.agg rfl rfl rfl rfl rfl rfl rfl (RL.allClosed (encV_closed _))) (ResL.cons (ResA.tmp (.val _)) .nil), rfl⟩
  · have hkk : k = l.length := by omega
    subst hkk
    have hc : decide (((l.length : Nat) : Int) < ((l.map encI).length : Nat)) = false := decide_eq_false (by omega)
    rw [List.take_length] at hA ⊢
    have hzz : outD (cellsK v l) v = ((l.foldl cellD (wk0 v)).v, 0) := if_pos hA
    rw [hzz]
    unfold encVE
    (repeat' (first | refine awp_seq ?_ | refine awp_block ?_ | refine awp_rg hmix ?_ | refine ARun.o rfl ?_ | ((first | refine ARun.f ?_ | refine awp_skip ?_ | refine awp_exit ?_); dsimp only [thenA, blockA, AS.bump, List.length_cons, List.length_nil, reduceIte, Nat.reduceEqDiff]) | refine awp_cT rfl ?_ | refine awp_cF rfl ?_ | ((fail_if_success refine ARun.plain rfl ?_); first | refine ARun.kT rfl rfl rfl ?_ | refine ARun.kF rfl rfl rfl ?_)))
    exact awp_ret ⟨_, ResL.cons (ResA.agg rfl rfl rfl rfl rfl rfl rfl (RL.allClosed (encV_closed _))) (ResL.cons (ResA.tmp (.val _)) .nil), rfl⟩
set_option maxHeartbeats 8000000 in
theorem ref_stored_c (v : V) (l : List Int) (hl : l.length ≤ 1000) (h : Okk v l.length) : FnC Try.prog 58 [.agg (encV v), encS l] (encVE ((storK v l).v, (storK v l).bad)) := by
  have e0 : (((l.map encI).length : Nat) : Int) = l.length := by rw [List.length_map]
  refine FnC.of_awp (T := tt) (ok := tok) Try.func58 (by kernel_rfl) rfl (by kernel_rfl) (closedL_cons (closedV v) (closedL_cons (closed_s l) closedL_nil)) (fun w0 st0 => ?_)
  dsimp only [frOf]
  (repeat' (first | refine awp_seq ?_ | refine awp_block ?_ | refine awp_rg hmix ?_ | refine ARun.o rfl ?_ | ((first | refine ARun.f ?_ | refine awp_skip ?_ | refine awp_exit ?_); dsimp only [thenA, blockA, AS.bump, List.length_cons, List.length_nil, reduceIte, Nat.reduceEqDiff]) | refine awp_cT rfl ?_ | refine awp_cF rfl ?_ | ((fail_if_success refine ARun.plain rfl ?_); first | refine ARun.kT rfl rfl rfl ?_ | refine ARun.kF rfl rfl rfl ?_ | refine ARun.fork rfl rfl rfl (fun h => ?_) (fun h => ?_)) | refine awp_cond rfl (fun h => ?_) (fun h => ?_)))
  refine awp_loopT (T := Nat × Nat) (fun t => ⟨[(6, .val (.int .i64 (t.1 : Nat))), (2, .ptr 2 0 0 0), (4, .ptr 4 1 0 0), (1, encS l)], [(2, some ⟨0, 23, [encV ((l.take t.1).foldl hereD (wk0 v)).v]⟩), (4, some ⟨1, 23, [[.val (.int .i64 0), .val (.int .i64 0), .val (.int .i64 0), .val (.int .i64 0), .val (.int .i64 0), .sl 0 true [], .sl 0 true [], .val (.int .i64 0), .sl 0 true [], .sl 0 true [], .sl 0 true [], .sl 0 true [], .val (.int .i64 0), .sl 0 true [], .sl 0 true [], .val (.bool false), .sl 0 true [], .val (.int .i64 0), .val (.int .i64 0), .val (.int .i64 0), .val (.int .i64 0), .val (.int .i64 0), .sl 0 true []]]⟩)], t.2⟩) (fun t => t.1 ≤ l.length ∧ ((l.take t.1).foldl hereD (wk0 v)).bad = 0 ∧ Okk ((l.take t.1).foldl hereD (wk0 v)).v (l.length - t.1)) (fun t => l.length - t.1) (0, _) ⟨Nat.zero_le _, rfl, h⟩ ⟨⟨rfl, rfl, rfl, rfl, trivial⟩, ⟨rfl, rfl, trivial⟩, Nat.le_refl _⟩ (fun t ht => ?_)
  obtain ⟨k, gc⟩ := t
  obtain ⟨hk, hA, hO⟩ := ht
  dsimp only at hk hA hO ⊢
  by_cases hlt : k < l.length
  · have hc : decide (((k : Nat) : Int) < ((l.map encI).length : Nat)) = true := decide_eq_true (by omega)
    have hp : l[k]? = some l[k] := List.getElem?_eq_getElem hlt
    generalize l[k] = x at hp
    have hs := foldl_take_succ hereD (wk0 v) hp
    have hz := foldl_split hereD (wk0 v) l (k + 1)
    rw [hs] at hz
    have hO1 : Okk ((l.take k).foldl hereD (wk0 v)).v (l.length - (k + 1) + 1) := by rw [show l.length - (k + 1) + 1 = l.length - k by omega]; exact hO
    have hok := okk_here x hO1
    generalize (l.take k).foldl hereD (wk0 v) = w at *
    have c1 := Mem.ref_store_c w.v.m x w.v.here hO1.b (by have := hO1.o; omega)
    simp only [enc2m] at c1
    have ew : hereD w x = ⟨withMH w.v (storeD w.v.m x w.v.here).1 w.v.here, w.l, (storeD w.v.m x w.v.here).2⟩ := if_pos hA
    have hcd := store_code w.v.m x w.v.here
    unfold encVE
    by_cases hb : (storeD w.v.m x w.v.here).2 = 0
    · have d : ((storeD w.v.m x w.v.here).2 != 0) = false := by simp [hb]
      rw [ew] at hs hok
      generalize storeD w.v.m x w.v.here = p at *
      (repeat' (first | refine awp_seq ?_ | refine awp_block ?_ | refine awp_rg hmix ?_ | refine ARun.o rfl ?_ | refine ARun.indexAddr rfl rfl (by omega) (by first | with_reducible exact get_map hp | with_reducible exact get_map hp) rfl rfl rfl rfl rfl (guardF_spec rfl) ?_ | refine callX (c1) rfl rfl rfl rfl ?_ | ((first | refine ARun.f ?_ | refine awp_skip ?_ | refine awp_exit ?_); dsimp only [thenA, blockA, AS.bump, List.length_cons, List.length_nil, reduceIte, Nat.reduceEqDiff]) | refine awp_cT rfl ?_ | refine awp_cF rfl ?_ | ((fail_if_success refine ARun.plain rfl ?_); first | refine ARun.kT rfl rfl rfl ?_ | refine ARun.kF rfl rfl rfl ?_)))
      refine ⟨(k + 1, _), ⟨⟨succI k, rfl, rfl, rfl, trivial⟩, ⟨?_, rfl, trivial⟩, Nat.le_refl _⟩, ⟨hlt, by dsimp only; rw [hs]; exact hb, by dsimp only; rw [hs]; exact hok⟩, (by dsimp only; omega)⟩
      dsimp only
      rw [hs]
      rfl
    · have d : ((storeD w.v.m x w.v.here).2 != 0) = true := by simp [hb]
      have hzz : storK v l = ⟨w.v, w.l, (storeD w.v.m x w.v.here).2⟩ := by
        unfold storK
        show l.foldl hereD (wk0 v) = _
        rw [hz]
        show heresD (hereD w x) _ = _
        rw [heres_bad (by rw [ew]; exact hb), ew, hcd hb, withMH_id]
      rw [hzz]
      generalize storeD w.v.m x w.v.here = p at *
      (repeat' (first | refine awp_seq ?_ | refine awp_block ?_ | refine awp_rg hmix ?_ | refine ARun.o rfl ?_ | refine ARun.indexAddr rfl rfl (by omega) (by first | with_reducible exact get_map hp | with_reducible exact get_map hp) rfl rfl rfl rfl rfl (guardF_spec rfl) ?_ | refine callX (c1) rfl rfl rfl rfl ?_ | ((first | refine ARun.f ?_ | refine awp_skip ?_ | refine awp_exit ?_); dsimp only [thenA, blockA, AS.bump, List.length_cons, List.length_nil, reduceIte, Nat.reduceEqDiff]) | refine awp_cT rfl ?_ | refine awp_cF rfl ?_ | ((fail_if_success refine ARun.plain rfl ?_); first | refine ARun.kT rfl rfl rfl ?_ | refine ARun.kF rfl rfl rfl ?_)))
      exact awp_ret ⟨_, ResL.cons (ResA.agg rfl rfl rfl rfl rfl rfl rfl (RL.allClosed (encV_closed _))) (ResL.cons (ResA.tmp (.val _)) .nil), rfl⟩
  · have hkk : k = l.length := by omega
    subst hkk
    have hc : decide (((l.length : Nat) : Int) < ((l.map encI).length : Nat)) = false := decide_eq_false (by omega)
    rw [List.take_length] at hA ⊢
    have hzz : ((storK v l).v, (storK v l).bad) = ((l.foldl hereD (wk0 v)).v, 0) := by rw [show storK v l = l.foldl hereD (wk0 v) from rfl, hA]
    rw [hzz]
    unfold encVE
    (repeat' (first | refine awp_seq ?_ | refine awp_block ?_ | refine awp_rg hmix ?_ | refine ARun.o rfl ?_ | ((first | refine ARun.f ?_ | refine awp_skip ?_ | refine awp_exit ?_); dsimp only [thenA, blockA, AS.bump, List.length_cons, List.length_nil, reduceIte, Nat.reduceEqDiff]) | refine awp_cT rfl ?_ | refine awp_cF rfl ?_ | ((fail_if_success refine ARun.plain rfl ?_); first | refine ARun.kT rfl rfl rfl ?_ | refine ARun.kF rfl rfl rfl ?_)))
    exact awp_ret ⟨_, ResL.cons (ResA.agg rfl rfl rfl rfl rfl rfl rfl (RL.allClosed (encV_closed _))) (ResL.cons (ResA.tmp (.val _)) .nil), rfl⟩
end Go.Proofs.Ytpkkplojpjakiaa
