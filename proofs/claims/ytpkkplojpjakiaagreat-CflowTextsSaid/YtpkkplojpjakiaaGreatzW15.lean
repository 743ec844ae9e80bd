/- zX8, zX9, zX10, zX11, zX12. -/
import Derived.Test.YtpkkplojpjakiaaGreatW1
import Derived.Test.YtpkkplojpjakiaaGreatW2
import Derived.Test.YtpkkplojpjakiaaGreatW3
import Derived.Test.YtpkkplojpjakiaaGreatW4
import Derived.Test.YtpkkplojpjakiaaGreatzW5
import Derived.Test.YtpkkplojpjakiaaGreatzW6
import Derived.Test.YtpkkplojpjakiaaGreatzW7
import Derived.Test.YtpkkplojpjakiaaGreatzW8
import Derived.Test.YtpkkplojpjakiaaGreatzW9
import Derived.Test.YtpkkplojpjakiaaGreatzW10
import Derived.Test.YtpkkplojpjakiaaGreatzW11
import Derived.Test.YtpkkplojpjakiaaGreatzW12
import Derived.Test.YtpkkplojpjakiaaGreatzW13
import Derived.Test.YtpkkplojpjakiaaGreatzW14
set_option linter.unusedVariables false
set_option linter.unusedSimpArgs false
namespace Go.Proofs.YtpkkplojpjakiaaGreat
open Go Go.RowKit
open Dict (St Bs bs_eq Wd encW encWs closed_ws)
open Mem (Mm encM encBs closed_bs encP encP_closed closed_m storeD fetchD commaD)
open Stk (encS closed_s)
set_option maxRecDepth 100000
theorem Cfr.ext' {a b : Cfr} (h1 : a.kind = b.kind) (h2 : a.at' = b.at') (h3 : a.lv = b.lv) : a = b := by
 cases a
 cases b
 simp only at h1 h2 h3
 subst h1 h2 h3
 rfl
attribute [local irreducible] Decidable.decide awp ARun regK toK
set_option maxHeartbeats 4000000 in
theorem cf1_c (p q : Cfr) (hl : p.lv.length ≤ 1000000) : FnC Tryz.prog 32 [.agg (encCf p), .agg (encCf q)] (.val (.bool (pD (p = q)))) := by
 have c1 := eqI_c p.lv q.lv hl
 by_cases h1 : p.kind = q.kind
 case neg =>
  have d1 : (p.kind == q.kind) = false := by simp [h1]
  rw [pD_no (fun h => h1 (by rw [h]))]
  refine goF Tryz.func32 (closedL_cons (.agg (encCf_closed p)) (closedL_cons (.agg (encCf_closed q)) closedL_nil)) (fun w0 st0 => ?_)
  dsimp only [frOf]
  (repeat' (first | refine goA ?_ | refine cX c1 ?_ | refine goB ?_ | fail))
  exact awp_ret ⟨_, ResL.cons (ResA.tmp (.val _)) .nil, rfl⟩
 have d1 : (p.kind == q.kind) = true := by simp [h1]
 by_cases h2 : p.at' = q.at'
 case neg =>
  have d2 : (p.at' == q.at') = false := by simp [h2]
  rw [pD_no (fun h => h2 (by rw [h]))]
  refine goF Tryz.func32 (closedL_cons (.agg (encCf_closed p)) (closedL_cons (.agg (encCf_closed q)) closedL_nil)) (fun w0 st0 => ?_)
  dsimp only [frOf]
  (repeat' (first | refine goA ?_ | refine cX c1 ?_ | refine goB ?_ | fail))
  exact awp_ret ⟨_, ResL.cons (ResA.tmp (.val _)) .nil, rfl⟩
 have d2 : (p.at' == q.at') = true := by simp [h2]
 by_cases h3 : p.lv = q.lv
 case neg =>
  rw [decide_eq_false h3] at c1
  rw [pD_no (fun h => h3 (by rw [h]))]
  refine goF Tryz.func32 (closedL_cons (.agg (encCf_closed p)) (closedL_cons (.agg (encCf_closed q)) closedL_nil)) (fun w0 st0 => ?_)
  dsimp only [frOf]
  (repeat' (first | refine goA ?_ | refine cX c1 ?_ | refine goB ?_ | fail))
  exact awp_ret ⟨_, ResL.cons (ResA.tmp (.val _)) .nil, rfl⟩
 rw [decide_eq_true h3] at c1
 rw [pD_yes (Cfr.ext' h1 h2 h3)]
 refine goF Tryz.func32 (closedL_cons (.agg (encCf_closed p)) (closedL_cons (.agg (encCf_closed q)) closedL_nil)) (fun w0 st0 => ?_)
 dsimp only [frOf]
 (repeat' (first | refine goA ?_ | refine cX c1 ?_ | refine goB ?_ | fail))
 exact awp_ret ⟨_, ResL.cons (ResA.tmp (.val _)) .nil, rfl⟩
set_option maxHeartbeats 4000000 in
theorem cfeqfunc_c (a b : List Cfr) (hla : a.length ≤ 1000000) (hv : ∀ c, c ∈ a → c.lv.length ≤ 1000000) : FnC Tryz.prog 34 [.sl 3 false (a.map encCf), .sl 3 false (b.map encCf), .val (.func (.func 32) #[] #[])] (.val (.bool (pD (a = b)))) := by
 by_cases hl : a.length = b.length
 ·have d1 : ((((a.map encCf).length : Nat) : Int) != (((b.map encCf).length : Nat) : Int)) = false := by simp [hl]
  refine goF Tryz.func34 (closedL_cons (closed_map encCf_closed) (closedL_cons (closed_map encCf_closed) (closedL_cons (.val _) closedL_nil))) (fun w0 st0 => ?_)
  dsimp only [frOf]
  (repeat' (first | refine goA ?_ | refine goB ?_ | ((fail_if_success refine ARun.plain rfl ?_); refine ARun.fork rfl rfl rfl (fun h => ?_) (fun h => ?_)) | refine awp_cond rfl (fun h => ?_) (fun h => ?_)))
  refine awp_loopT (T := Nat × Nat) (fun t => ⟨[(17, .val (.int .i64 (t.1 : Nat))), (16, .val (.int .i64 (((a.map encCf).length : Nat)))), (15, .sl 3 false (a.map encCf)), (1, .sl 3 false (b.map encCf)), (2, .val (.func (.func 32) #[] #[]))], [], t.2⟩) (fun t => t.1 ≤ a.length ∧ a.take t.1 = b.take t.1) (fun t => a.length - t.1) (0, _) ⟨Nat.zero_le _, rfl⟩ ⟨⟨rfl, rfl, rfl, rfl, rfl, trivial⟩, trivial, Nat.le_refl _⟩ (fun t ht => ?_)
  obtain ⟨k, gc⟩ := t
  obtain ⟨hk, hA⟩ := ht
  dsimp only at hk hA ⊢
  clear d1
  by_cases hlt : k < a.length
  ·have hp : a[k]? = some a[k] := List.getElem?_eq_getElem hlt
   have hm : a[k] ∈ a := List.getElem_mem hlt
   have hq : b[k]? = some b[k] := List.getElem?_eq_getElem (by omega)
   have hc : decide (((k : Nat) : Int) < (((a.map encCf).length : Nat) : Int)) = true := by simp; omega
   have e1 := take_succ' hp
   have e2 := take_succ' hq
   have hne : ∀ x y, a[k]? = some x → b[k]? = some y → x ≠ y → pD (a = b) = false := fun x y hx hy hxy => pD_no (fun h => hxy (by rw [h, hy] at hx; exact (Option.some.inj hx).symm))
   generalize a[k] = p at hp e1 hm
   generalize b[k] = q at hq e2
   have c1 := cf1_c p q (hv p hm)
   by_cases h3 : p = q
   ·rw [pD_yes h3] at c1
    (repeat' (first | refine goA ?_ | refine ARun.indexAddr rfl rfl (by omega) (by first | with_reducible exact get_map hp | with_reducible exact get_map hq) rfl rfl rfl rfl rfl (guardF_spec rfl) ?_ | refine cX c1 ?_ | refine goB ?_ | ((fail_if_success refine ARun.plain rfl ?_); refine ARun.fork rfl rfl rfl (fun h => ?_) (fun h => ?_)) | refine awp_cond rfl (fun h => ?_) (fun h => ?_)))
    refine ⟨(k + 1, _), ⟨⟨succI k, rfl, rfl, rfl, rfl, trivial⟩, trivial, Nat.le_refl _⟩, ⟨hlt, ?_⟩, (by dsimp only; omega)⟩
    dsimp only
    rw [e1, e2, hA, h3]
   ·rw [pD_no h3] at c1
    rw [hne _ _ hp hq h3]
    (repeat' (first | refine goA ?_ | refine ARun.indexAddr rfl rfl (by omega) (by first | with_reducible exact get_map hp | with_reducible exact get_map hq) rfl rfl rfl rfl rfl (guardF_spec rfl) ?_ | refine cX c1 ?_ | refine goB ?_ | ((fail_if_success refine ARun.plain rfl ?_); refine ARun.fork rfl rfl rfl (fun h => ?_) (fun h => ?_)) | refine awp_cond rfl (fun h => ?_) (fun h => ?_)))
    exact awp_ret ⟨_, ResL.cons (ResA.tmp (.val _)) .nil, rfl⟩
  ·have hkk : k = a.length := by omega
   subst hkk
   have hc : decide (((a.length : Nat) : Int) < (((a.map encCf).length : Nat) : Int)) = false := by simp
   rw [List.take_length, hl, List.take_length] at hA
   rw [pD_yes hA]
   (repeat' (first | refine goA ?_ | refine goB ?_ | ((fail_if_success refine ARun.plain rfl ?_); refine ARun.fork rfl rfl rfl (fun h => ?_) (fun h => ?_)) | refine awp_cond rfl (fun h => ?_) (fun h => ?_)))
   exact awp_ret ⟨_, ResL.cons (ResA.tmp (.val _)) .nil, rfl⟩
 ·have d1 : ((((a.map encCf).length : Nat) : Int) != (((b.map encCf).length : Nat) : Int)) = true := by simp; omega
  rw [pD_no (fun h => hl (by rw [h]))]
  refine goF Tryz.func34 (closedL_cons (closed_map encCf_closed) (closedL_cons (closed_map encCf_closed) (closedL_cons (.val _) closedL_nil))) (fun w0 st0 => ?_)
  dsimp only [frOf]
  (repeat' (first | refine goA ?_ | refine goB ?_ | ((fail_if_success refine ARun.plain rfl ?_); refine ARun.fork rfl rfl rfl (fun h => ?_) (fun h => ?_)) | refine awp_cond rfl (fun h => ?_) (fun h => ?_)))
  exact awp_ret ⟨_, ResL.cons (ResA.tmp (.val _)) .nil, rfl⟩
theorem cfsame_c (a b : List Cfr) (hla : a.length ≤ 1000000) (hv : ∀ c, c ∈ a → c.lv.length ≤ 1000000) : FnC Tryz.prog 16 [encLCf a, encLCf b] (.val (.bool (pD (a = b)))) := by
 have c1 := cfeqfunc_c a b hla hv
 refine goF Tryz.func16 (closedL_cons (closedLCf a) (closedL_cons (closedLCf b) closedL_nil)) (fun w0 st0 => ?_)
 dsimp only [frOf]
 (repeat' (first | refine goA ?_ | refine cX c1 ?_ | refine goB ?_ | ((fail_if_success refine ARun.plain rfl ?_); refine ARun.fork rfl rfl rfl (fun h => ?_) (fun h => ?_)) | refine awp_cond rfl (fun h => ?_) (fun h => ?_)))
 exact awp_ret ⟨_, ResL.cons (ResA.tmp (.val _)) .nil, rfl⟩
end Go.Proofs.YtpkkplojpjakiaaGreat
namespace Go.Proofs.YtpkkplojpjakiaaGreat
open Go Go.RowKit
open Go.Proofs.YtpkkplojpjakiaaGreat.Dict (St Bs bs_eq Wd encW encWs closed_ws)
open Go.Proofs.YtpkkplojpjakiaaGreat.Mem (Mm encM encBs closed_bs encP encP_closed closed_m storeD fetchD commaD alignD enc3m)
open Go.Proofs.YtpkkplojpjakiaaGreat.Stk (encS closed_s)
set_option maxRecDepth 100000
def fnC : List AV := [.val (.func (.func 47) #[] #[]), .val (.func (.func 48) #[] #[]), .val (.func (.func 49) #[] #[]), .val (.func (.func 50) #[] #[]), .val (.func (.func 51) #[] #[]), .val (.func (.func 52) #[] #[]), .val (.func (.func 53) #[] #[]), .val (.func (.func 54) #[] #[]), .val (.func (.func 55) #[] #[]), .val (.func (.func 56) #[] #[]), .val (.func (.func 57) #[] #[]), .val (.func (.func 58) #[] #[]), .val (.func (.func 59) #[] #[])]
def fullNames : List Bs := [[73, 70], [66, 69, 71, 73, 78], [87, 72, 73, 76, 69], [68, 79], [63, 68, 79]]
noncomputable def fullD (l : List Cfr) (name : Bs) : Bool := pD (name ∈ fullNames ∧ 32 ≤ l.length)
attribute [local irreducible] Decidable.decide awp ARun regK toK
set_option maxHeartbeats 4000000 in
theorem table_c : FnC Tryz.prog 28 [] (.mp (nmC.map kStr) fnC) := by
 refine goF Tryz.func28 closedL_nil (fun w0 st0 => ?_)
 dsimp only [frOf]
 (repeat' (first | refine goA ?_ | refine ARun.makeMap rfl (guardF_spec rfl) ?_ | refine ARun.insert rfl rfl rfl rfl rfl rfl rfl Tryz.underlying9 rfl (by kernel_rfl) (guardF_spec rfl) ?_ | refine goB ?_ | ((fail_if_success refine ARun.plain rfl ?_); refine ARun.fork rfl rfl rfl (fun h => ?_) (fun h => ?_)) | refine awp_cond rfl (fun h => ?_) (fun h => ?_)))
 refine awp_ret ⟨_, ResL.cons (ResA.tmp (.made (ks := nmC.map kStr) (vs := fnC) rfl rfl ?_)) .nil, rfl⟩
 intro x hx
 simp only [fnC, List.mem_cons, List.not_mem_nil, or_false] at hx
 rcases hx with h | h | h | h | h | h | h | h | h | h | h | h | h <;> (subst h; exact .val _)
set_option maxHeartbeats 4000000 in
theorem full_c (l : List Cfr) (name : Bs) : FnC Tryz.prog 29 [encLCf l, St name] (.val (.bool (fullD l name))) := by
 have e1 : (((l.map encCf).length : Nat) : Int) = l.length := by rw [List.length_map]
 have no : name ∉ fullNames → fullD l name = false := fun h => pD_no (fun h2 => h h2.1)
 have yes : name ∈ fullNames → fullD l name = decide ((32 : Int) ≤ (((l.map encCf).length : Nat) : Int)) := fun h => by
  rw [dec_pD]
  exact pD_congr ⟨fun h2 => by have := h2.2; omega, fun h2 => ⟨h, by omega⟩⟩
 by_cases h1 : name = [73, 70]
 ·have d1 : ((ByteArray.mk name.toArray).toList == (ByteArray.mk #[73, 70]).toList) = true := by rw [bs_eq name [73, 70]]; exact decide_eq_true h1
  rw [yes (by rw [h1]; simp [fullNames])]
  refine goF Tryz.func29 (closedL_cons (closedLCf l) (closedL_cons (.val _) closedL_nil)) (fun w0 st0 => ?_)
  dsimp only [frOf]
  (repeat' (first | refine goA ?_ | refine goB ?_ | fail))
  exact awp_ret ⟨_, ResL.cons (ResA.tmp (.val _)) .nil, rfl⟩
 have d1 : ((ByteArray.mk name.toArray).toList == (ByteArray.mk #[73, 70]).toList) = false := by rw [bs_eq name [73, 70]]; exact decide_eq_false h1
 by_cases h2 : name = [66, 69, 71, 73, 78]
 ·have d2 : ((ByteArray.mk name.toArray).toList == (ByteArray.mk #[66, 69, 71, 73, 78]).toList) = true := by rw [bs_eq name [66, 69, 71, 73, 78]]; exact decide_eq_true h2
  rw [yes (by rw [h2]; simp [fullNames])]
  refine goF Tryz.func29 (closedL_cons (closedLCf l) (closedL_cons (.val _) closedL_nil)) (fun w0 st0 => ?_)
  dsimp only [frOf]
  (repeat' (first | refine goA ?_ | refine goB ?_ | fail))
  exact awp_ret ⟨_, ResL.cons (ResA.tmp (.val _)) .nil, rfl⟩
 have d2 : ((ByteArray.mk name.toArray).toList == (ByteArray.mk #[66, 69, 71, 73, 78]).toList) = false := by rw [bs_eq name [66, 69, 71, 73, 78]]; exact decide_eq_false h2
 by_cases h3 : name = [87, 72, 73, 76, 69]
 ·have d3 : ((ByteArray.mk name.toArray).toList == (ByteArray.mk #[87, 72, 73, 76, 69]).toList) = true := by rw [bs_eq name [87, 72, 73, 76, 69]]; exact decide_eq_true h3
  rw [yes (by rw [h3]; simp [fullNames])]
  refine goF Tryz.func29 (closedL_cons (closedLCf l) (closedL_cons (.val _) closedL_nil)) (fun w0 st0 => ?_)
  dsimp only [frOf]
  (repeat' (first | refine goA ?_ | refine goB ?_ | fail))
  exact awp_ret ⟨_, ResL.cons (ResA.tmp (.val _)) .nil, rfl⟩
 have d3 : ((ByteArray.mk name.toArray).toList == (ByteArray.mk #[87, 72, 73, 76, 69]).toList) = false := by rw [bs_eq name [87, 72, 73, 76, 69]]; exact decide_eq_false h3
 by_cases h4 : name = [68, 79]
 ·have d4 : ((ByteArray.mk name.toArray).toList == (ByteArray.mk #[68, 79]).toList) = true := by rw [bs_eq name [68, 79]]; exact decide_eq_true h4
  rw [yes (by rw [h4]; simp [fullNames])]
  refine goF Tryz.func29 (closedL_cons (closedLCf l) (closedL_cons (.val _) closedL_nil)) (fun w0 st0 => ?_)
  dsimp only [frOf]
  (repeat' (first | refine goA ?_ | refine goB ?_ | fail))
  exact awp_ret ⟨_, ResL.cons (ResA.tmp (.val _)) .nil, rfl⟩
 have d4 : ((ByteArray.mk name.toArray).toList == (ByteArray.mk #[68, 79]).toList) = false := by rw [bs_eq name [68, 79]]; exact decide_eq_false h4
 by_cases h5 : name = [63, 68, 79]
 ·have d5 : ((ByteArray.mk name.toArray).toList == (ByteArray.mk #[63, 68, 79]).toList) = true := by rw [bs_eq name [63, 68, 79]]; exact decide_eq_true h5
  rw [yes (by rw [h5]; simp [fullNames])]
  refine goF Tryz.func29 (closedL_cons (closedLCf l) (closedL_cons (.val _) closedL_nil)) (fun w0 st0 => ?_)
  dsimp only [frOf]
  (repeat' (first | refine goA ?_ | refine goB ?_ | fail))
  exact awp_ret ⟨_, ResL.cons (ResA.tmp (.val _)) .nil, rfl⟩
 have d5 : ((ByteArray.mk name.toArray).toList == (ByteArray.mk #[63, 68, 79]).toList) = false := by rw [bs_eq name [63, 68, 79]]; exact decide_eq_false h5
 rw [no (by simp [fullNames, h1, h2, h3, h4, h5])]
 refine goF Tryz.func29 (closedL_cons (closedLCf l) (closedL_cons (.val _) closedL_nil)) (fun w0 st0 => ?_)
 dsimp only [frOf]
 (repeat' (first | refine goA ?_ | refine goB ?_ | fail))
 exact awp_ret ⟨_, ResL.cons (ResA.tmp (.val _)) .nil, rfl⟩
theorem zeroFn : ∃ z, Tryz.prog.info? 76 = some z ∧ ∃ zz, z.zero = some zz ∧ ∀ c w, Rep c w (.val .nilFunc) zz := by
 have h1 : (match Tryz.prog.info? 76 with | some z => z.zero | none => none) = some .nilFunc := by kernel_rfl
 cases h : Tryz.prog.info? 76 with
 | none => rw [h] at h1; cases h1
 | some z =>
  rw [h] at h1
  exact ⟨z, rfl, _, h1, fun c w => .val _⟩
set_option maxHeartbeats 8000000 in
theorem bracket_hit (v : V) (l : List Cfr) (name : Bs) (j : Nat) (f : Nat) (w' : Kw) (hkey : keyAt .string (kStr name) (nmC.map kStr) 0 = some j) (hval : fnC[j]? = some (.val (.func (.func f) #[] #[]))) (hf : fullD l name = false) (hF : FnL Tryz.prog f [.ptr 1000 0 0 0] [(25, [encK ⟨v, l, 0⟩])] (.tup []) [[encK w']]) : FnC Tryz.prog 12 [.agg (encV v), encLCf l, St name] (encVLE (doneD w' v l)) := by
 have c1 := table_c
 have c2 := full_c l name
 rw [hf] at c2
 have c3 := done_l w' v l
 generalize doneD w' v l = p at *
 simp only [encVLE] at c3
 unfold encVLE
 generalize nmC.map kStr = keys at *
 generalize fnC = fns at *
 clear hf
 refine goF Tryz.func12 (closedL_cons (closedV v) (closedL_cons (closedLCf l) (closedL_cons (.val _) closedL_nil))) (fun w0 st0 => ?_)
 dsimp only [frOf]
 (repeat' (first | refine goA ?_ | refine cX c1 ?_ | refine cX c2 ?_ | refine ARun.lookupHit rfl rfl rfl rfl Tryz.underlying9 rfl hkey hval rfl (guardF_spec rfl) ?_ | refine callK 11 22 25 (encK ⟨v, l, 0⟩) (encK w') (hF) (encK_closed _) (encK_closed _) (RelL.cons (.ptr (j := 0) 0 0 rfl) (RelL.nil _)) (by first | exact .same _ (.tup closedL_nil) | exact .same _ (.val _) | exact .same _ (.agg (encCf_closed _)) | exact .same _ (.tup (closedL_cons (.agg (encFo_closed _)) (closedL_cons (.val _) closedL_nil))) | exact .same _ (.tup (closedL_cons (closedV _) (closedL_cons (closedLCf _) (closedL_cons (.val _) closedL_nil))))) ?_ | refine callK 11 22 25 (encK w') (encK w') (c3) (encK_closed _) (encK_closed _) (RelL.cons (.ptr (j := 0) 0 0 rfl) (RelL.cons (.wk (.same _) (by first | exact .agg (encCf_closed _) | exact closedV _ | exact closedLCf _ | (simp only [AS.ev]; done))) (RelL.cons (.wk (.same _) (by first | exact .agg (encCf_closed _) | exact closedV _ | exact closedLCf _ | (simp only [AS.ev]; done))) (RelL.nil _)))) (by first | exact .same _ (.tup closedL_nil) | exact .same _ (.val _) | exact .same _ (.agg (encCf_closed _)) | exact .same _ (.tup (closedL_cons (.agg (encFo_closed _)) (closedL_cons (.val _) closedL_nil))) | exact .same _ (.tup (closedL_cons (closedV _) (closedL_cons (closedLCf _) (closedL_cons (.val _) closedL_nil))))) ?_ | refine goB ?_ | fail))
 exact awp_ret ⟨_, ResL.cons (ResA.agg rfl rfl rfl rfl rfl rfl rfl (RL.allClosed (encV_closed _))) (ResL.cons (ResA.tmp (.closed _ (closedLCf _))) (ResL.cons (ResA.tmp (.val _)) .nil)), rfl⟩
set_option maxHeartbeats 8000000 in
theorem bracket_full (v : V) (l : List Cfr) (name : Bs) (j : Nat) (f : Nat) (hkey : keyAt .string (kStr name) (nmC.map kStr) 0 = some j) (hval : fnC[j]? = some (.val (.func (.func f) #[] #[]))) (hf : fullD l name = true) : FnC Tryz.prog 12 [.agg (encV v), encLCf l, St name] (encVLE (v, l, -22)) := by
 have c1 := table_c
 have c2 := full_c l name
 rw [hf] at c2
 unfold encVLE
 generalize nmC.map kStr = keys at *
 generalize fnC = fns at *
 clear hf
 refine goF Tryz.func12 (closedL_cons (closedV v) (closedL_cons (closedLCf l) (closedL_cons (.val _) closedL_nil))) (fun w0 st0 => ?_)
 dsimp only [frOf]
 (repeat' (first | refine goA ?_ | refine cX c1 ?_ | refine cX c2 ?_ | refine ARun.lookupHit rfl rfl rfl rfl Tryz.underlying9 rfl hkey hval rfl (guardF_spec rfl) ?_ | refine goB ?_ | fail))
 exact awp_ret ⟨_, ResL.cons (ResA.agg rfl rfl rfl rfl rfl rfl rfl (RL.allClosed (encV_closed _))) (ResL.cons (ResA.tmp (.closed _ (closedLCf _))) (ResL.cons (ResA.tmp (.val _)) .nil)), rfl⟩
set_option maxHeartbeats 8000000 in
theorem bracket_miss (v : V) (l : List Cfr) (name : Bs) (hno : keyNone .string (kStr name) (nmC.map kStr) = true) : FnC Tryz.prog 12 [.agg (encV v), encLCf l, St name] (encVLE (v, l, -22)) := by
 have c1 := table_c
 unfold encVLE
 generalize nmC.map kStr = keys at *
 generalize fnC = fns at *
 refine goF Tryz.func12 (closedL_cons (closedV v) (closedL_cons (closedLCf l) (closedL_cons (.val _) closedL_nil))) (fun w0 st0 => ?_)
 dsimp only [frOf]
 (repeat' (first | refine goA ?_ | refine cX c1 ?_ | refine ARun.lookupMiss (v := .val .nilFunc) rfl rfl rfl rfl Tryz.underlying9 rfl hno rfl rfl rfl (guardF_spec rfl) zeroFn ?_ | refine goB ?_ | fail))
 exact awp_ret ⟨_, ResL.cons (ResA.agg rfl rfl rfl rfl rfl rfl rfl (RL.allClosed (encV_closed _))) (ResL.cons (ResA.tmp (.closed _ (closedLCf _))) (ResL.cons (ResA.tmp (.val _)) .nil)), rfl⟩
end Go.Proofs.YtpkkplojpjakiaaGreat
namespace Go.Proofs.YtpkkplojpjakiaaGreat
open Go Go.RowKit
open Go.Proofs.YtpkkplojpjakiaaGreat.Dict (St Bs bs_eq Wd encW encWs closed_ws)
open Go.Proofs.YtpkkplojpjakiaaGreat.Mem (Mm encM encBs closed_bs encP encP_closed closed_m storeD fetchD commaD alignD enc3m)
open Go.Proofs.YtpkkplojpjakiaaGreat.Stk (encS closed_s)
set_option maxRecDepth 100000
def litK (v : V) (n : Int) : Kw := cellD (cellD ⟨v, [], 0⟩ (xtD nLit)) n
def outD (w : Kw) (v : V) : V × Int := if w.bad = 0 then (w.v, 0) else (v, w.bad)
theorem out_done (w : Kw) (v : V) : outD w v = ((doneD w v []).1, (doneD w v []).2.2) := by
 unfold outD doneD
 split <;> rfl
def strK0 (v : V) (s : Bs) : Kw := cellD (cellD ⟨v, [], 0⟩ (xtD nStr)) s.length
def strK (v : V) (s : Bs) : Kw :=
 if (strK0 v s).bad = 0 then
  if (Mem.layD (strK0 v s).v.m (strK0 v s).v.here s).2.2 = 0 then
   ⟨withMH (strK0 v s).v (alignD (Mem.layD (strK0 v s).v.m (strK0 v s).v.here s).1 (Mem.layD (strK0 v s).v.m (strK0 v s).v.here s).2.1).1 (alignD (Mem.layD (strK0 v s).v.m (strK0 v s).v.here s).1 (Mem.layD (strK0 v s).v.m (strK0 v s).v.here s).2.1).2.1, (strK0 v s).l, 0⟩
  else ⟨(strK0 v s).v, (strK0 v s).l, (Mem.layD (strK0 v s).v.m (strK0 v s).v.here s).2.2⟩
 else strK0 v s
attribute [local irreducible] Decidable.decide awp ARun regK toK
set_option maxHeartbeats 4000000 in
theorem lit_c (v : V) (n : Int) (h : Okk v 2) : FnC Tryz.prog 9 [.agg (encV v), .val (.int .i64 n)] (encVE (outD (litK v n) v)) := by
 have c1 := word_l ⟨v, [], 0⟩ nLit (h.le (by omega))
 have h1 := okk_cell (w := ⟨v, [], 0⟩) (k := 1) (xtD nLit) h
 unfold litK
 generalize cellD ⟨v, [], 0⟩ (xtD nLit) = k1 at *
 have c2 := cell_l k1 n h1
 have c3 := done_l (cellD k1 n) v []
 rw [out_done]
 generalize cellD k1 n = k2 at *
 generalize doneD k2 v [] = p at *
 simp only [encVLE] at c3
 unfold encVE
 refine goF Tryz.func9 (closedL_cons (closedV v) (closedL_cons (.val _) closedL_nil)) (fun w0 st0 => ?_)
 dsimp only [frOf]
 (repeat' (first | refine goN ?_ | refine awp_region_ne 2 rfl (fun _ => hmix) ?_ | refine ARun.o rfl ?_ | refine goB ?_ | ((fail_if_success refine ARun.plain rfl ?_); refine ARun.fork rfl rfl rfl (fun h => ?_) (fun h => ?_)) | refine awp_cond rfl (fun h => ?_) (fun h => ?_)))
 refine awp_wkH 6 [encK ⟨v, [], 0⟩] rfl rfl (RelR.cons (RelL.cons (.same _) (RelL.cons (.same _) (RelL.cons (.same _) (RelL.cons (.same _) (RelL.cons (.same _) (RelL.cons (.same _) (RelL.cons (.same _) (RelL.cons (.same _) (RelL.cons (.same _) (RelL.cons (.same _) (RelL.cons (.same _) (RelL.cons (.same _) (RelL.cons (.same _) (RelL.cons (.same _) (RelL.cons (.same _) (RelL.cons (.same _) (RelL.cons (.same _) (RelL.cons (.same _) (RelL.cons (.same _) (RelL.cons (.same _) (RelL.cons (.same _) (RelL.cons (.same _) (RelL.cons (.same _) (RelL.cons Wk.nilSl (RelL.cons (.same _) (RelL.nil _)))))))))))))))))))))))))) (RelR.nil _)) ?_
 (repeat' (first | refine goA ?_ | refine callK 6 _ 25 (encK ⟨v, [], 0⟩) (encK k1) (c1) (encK_closed _) (encK_closed _) (RelL.cons (.ptr (j := 0) 0 0 rfl) (RelL.cons (.wk (.same _) (.val _)) (RelL.nil _))) (by first | exact .same _ (.tup closedL_nil) | exact .same _ (.val _) | exact .same _ (.agg (encCf_closed _)) | exact .same _ (.tup (closedL_cons (.agg (encFo_closed _)) (closedL_cons (.val _) closedL_nil))) | exact .same _ (.tup (closedL_cons (closedV _) (closedL_cons (closedLCf _) (closedL_cons (.val _) closedL_nil))))) ?_ | refine callK 6 _ 25 (encK k1) (encK k2) (c2) (encK_closed _) (encK_closed _) (RelL.cons (.ptr (j := 0) 0 0 rfl) (RelL.cons (.wk (.same _) (.val _)) (RelL.nil _))) (by first | exact .same _ (.tup closedL_nil) | exact .same _ (.val _) | exact .same _ (.agg (encCf_closed _)) | exact .same _ (.tup (closedL_cons (.agg (encFo_closed _)) (closedL_cons (.val _) closedL_nil))) | exact .same _ (.tup (closedL_cons (closedV _) (closedL_cons (closedLCf _) (closedL_cons (.val _) closedL_nil))))) ?_ | refine callK 6 _ 25 (encK k2) (encK k2) (c3) (encK_closed _) (encK_closed _) (RelL.cons (.ptr (j := 0) 0 0 rfl) (RelL.cons (.wk (.same _) (by first | exact .agg (encCf_closed _) | exact closedV _ | exact closedLCf _ | (simp only [AS.ev]; done))) (RelL.cons (.wk (by first | exact Wk.same _ | exact Wk.nilSl) (by first | exact closedLCf _ | exact closedLCf [])) (RelL.nil _)))) (by first | exact .same _ (.tup closedL_nil) | exact .same _ (.val _) | exact .same _ (.agg (encCf_closed _)) | exact .same _ (.tup (closedL_cons (.agg (encFo_closed _)) (closedL_cons (.val _) closedL_nil))) | exact .same _ (.tup (closedL_cons (closedV _) (closedL_cons (closedLCf _) (closedL_cons (.val _) closedL_nil))))) ?_ | refine goB ?_ | fail))
 exact awp_ret ⟨_, ResL.cons (ResA.agg rfl rfl rfl rfl rfl rfl rfl (RL.allClosed (encV_closed _))) (ResL.cons (ResA.tmp (.val _)) .nil), rfl⟩
set_option maxHeartbeats 8000000 in
theorem str_c (v : V) (s : Bs) (h : Okk v 5) (hs : s.length ≤ 1000000) : FnC Tryz.prog 7 [.agg (encV v), St s] (encVE (outD (strK v s) v)) := by
 have c1 := word_l ⟨v, [], 0⟩ nStr (h.le (by omega))
 have h1 := okk_cell (w := ⟨v, [], 0⟩) (k := 4) (xtD nStr) h
 unfold strK strK0
 generalize cellD ⟨v, [], 0⟩ (xtD nStr) = k1 at *
 have c2 := cell_l k1 s.length (h1.le (by omega))
 have h2 := okk_cell (k := 3) (s.length : Int) h1
 generalize cellD k1 s.length = k2 at *
 by_cases b : k2.bad = 0
 case neg =>
  have d : (k2.bad == 0) = false := beq_eq_false_iff_ne.2 b
  have c3 := done_l k2 v []
  rw [if_neg b, out_done]
  generalize doneD k2 v [] = p at *
  simp only [encVLE] at c3
  unfold encVE
  refine goF Tryz.func7 (closedL_cons (closedV v) (closedL_cons (.val _) closedL_nil)) (fun w0 st0 => ?_)
  dsimp only [frOf]
  (repeat' (first | refine goN ?_ | refine awp_region_ne 2 rfl (fun _ => hmix) ?_ | refine ARun.o rfl ?_ | refine goB ?_ | ((fail_if_success refine ARun.plain rfl ?_); refine ARun.fork rfl rfl rfl (fun h => ?_) (fun h => ?_)) | refine awp_cond rfl (fun h => ?_) (fun h => ?_)))
  refine awp_wkH 6 [encK ⟨v, [], 0⟩] rfl rfl (RelR.cons (RelL.cons (.same _) (RelL.cons (.same _) (RelL.cons (.same _) (RelL.cons (.same _) (RelL.cons (.same _) (RelL.cons (.same _) (RelL.cons (.same _) (RelL.cons (.same _) (RelL.cons (.same _) (RelL.cons (.same _) (RelL.cons (.same _) (RelL.cons (.same _) (RelL.cons (.same _) (RelL.cons (.same _) (RelL.cons (.same _) (RelL.cons (.same _) (RelL.cons (.same _) (RelL.cons (.same _) (RelL.cons (.same _) (RelL.cons (.same _) (RelL.cons (.same _) (RelL.cons (.same _) (RelL.cons (.same _) (RelL.cons Wk.nilSl (RelL.cons (.same _) (RelL.nil _)))))))))))))))))))))))))) (RelR.nil _)) ?_
  (repeat' (first | refine goA ?_ | refine callK 6 _ 25 (encK ⟨v, [], 0⟩) (encK k1) (c1) (encK_closed _) (encK_closed _) (RelL.cons (.ptr (j := 0) 0 0 rfl) (RelL.cons (.wk (.same _) (.val _)) (RelL.nil _))) (by first | exact .same _ (.tup closedL_nil) | exact .same _ (.val _) | exact .same _ (.agg (encCf_closed _)) | exact .same _ (.tup (closedL_cons (.agg (encFo_closed _)) (closedL_cons (.val _) closedL_nil))) | exact .same _ (.tup (closedL_cons (closedV _) (closedL_cons (closedLCf _) (closedL_cons (.val _) closedL_nil))))) ?_ | refine callK 6 _ 25 (encK k1) (encK k2) (c2) (encK_closed _) (encK_closed _) (RelL.cons (.ptr (j := 0) 0 0 rfl) (RelL.cons (.wk (.same _) (.val _)) (RelL.nil _))) (by first | exact .same _ (.tup closedL_nil) | exact .same _ (.val _) | exact .same _ (.agg (encCf_closed _)) | exact .same _ (.tup (closedL_cons (.agg (encFo_closed _)) (closedL_cons (.val _) closedL_nil))) | exact .same _ (.tup (closedL_cons (closedV _) (closedL_cons (closedLCf _) (closedL_cons (.val _) closedL_nil))))) ?_ | refine callK 6 _ 25 (encK k2) (encK k2) (c3) (encK_closed _) (encK_closed _) (RelL.cons (.ptr (j := 0) 0 0 rfl) (RelL.cons (.wk (.same _) (by first | exact .agg (encCf_closed _) | exact closedV _ | exact closedLCf _ | (simp only [AS.ev]; done))) (RelL.cons (.wk (by first | exact Wk.same _ | exact Wk.nilSl) (by first | exact closedLCf _ | exact closedLCf [])) (RelL.nil _)))) (by first | exact .same _ (.tup closedL_nil) | exact .same _ (.val _) | exact .same _ (.agg (encCf_closed _)) | exact .same _ (.tup (closedL_cons (.agg (encFo_closed _)) (closedL_cons (.val _) closedL_nil))) | exact .same _ (.tup (closedL_cons (closedV _) (closedL_cons (closedLCf _) (closedL_cons (.val _) closedL_nil))))) ?_ | refine goB ?_ | fail))
  exact awp_ret ⟨_, ResL.cons (ResA.agg rfl rfl rfl rfl rfl rfl rfl (RL.allClosed (encV_closed _))) (ResL.cons (ResA.tmp (.val _)) .nil), rfl⟩
 have d : (k2.bad == 0) = true := beq_iff_eq.2 b
 rw [if_pos b]
 have c4 := Mem.lay_c k2.v.m k2.v.here s h2.b (by have := h2.o; omega) hs ⟨h2.h0, h2.h1⟩
 have o4 := mlay_ok k2.v.m k2.v.here s h2.h0 h2.h1
 simp only [enc3m] at c4
 have hb := h2.b
 have ho := h2.o
 have h0 := h2.h0
 have h5 := Mem.align_c (Mem.layD k2.v.m k2.v.here s).1 (Mem.layD k2.v.m k2.v.here s).2.1 (by omega) (by omega) ⟨by omega, by omega⟩
 simp only [enc3m] at h5
 generalize Mem.layD k2.v.m k2.v.here s = q at *
 have c5 := fail_l k2 q.2.2
 by_cases b5 : q.2.2 = 0
 case neg =>
  have d5 : (q.2.2 == 0) = false := beq_eq_false_iff_ne.2 b5
  rw [if_neg b5]
  have e5 : failD k2 q.2.2 = ⟨k2.v, k2.l, q.2.2⟩ := if_pos b
  rw [← e5]
  have c3 := done_l (failD k2 q.2.2) v []
  generalize failD k2 q.2.2 = k3 at *
  rw [out_done]
  generalize doneD k3 v [] = p at *
  simp only [encVLE] at c3
  unfold encVE
  refine goF Tryz.func7 (closedL_cons (closedV v) (closedL_cons (.val _) closedL_nil)) (fun w0 st0 => ?_)
  dsimp only [frOf]
  (repeat' (first | refine goN ?_ | refine awp_region_ne 2 rfl (fun _ => hmix) ?_ | refine ARun.o rfl ?_ | refine goB ?_ | ((fail_if_success refine ARun.plain rfl ?_); refine ARun.fork rfl rfl rfl (fun h => ?_) (fun h => ?_)) | refine awp_cond rfl (fun h => ?_) (fun h => ?_)))
  refine awp_wkH 6 [encK ⟨v, [], 0⟩] rfl rfl (RelR.cons (RelL.cons (.same _) (RelL.cons (.same _) (RelL.cons (.same _) (RelL.cons (.same _) (RelL.cons (.same _) (RelL.cons (.same _) (RelL.cons (.same _) (RelL.cons (.same _) (RelL.cons (.same _) (RelL.cons (.same _) (RelL.cons (.same _) (RelL.cons (.same _) (RelL.cons (.same _) (RelL.cons (.same _) (RelL.cons (.same _) (RelL.cons (.same _) (RelL.cons (.same _) (RelL.cons (.same _) (RelL.cons (.same _) (RelL.cons (.same _) (RelL.cons (.same _) (RelL.cons (.same _) (RelL.cons (.same _) (RelL.cons Wk.nilSl (RelL.cons (.same _) (RelL.nil _)))))))))))))))))))))))))) (RelR.nil _)) ?_
  (repeat' (first | refine goA ?_ | refine callK 6 _ 25 (encK ⟨v, [], 0⟩) (encK k1) (c1) (encK_closed _) (encK_closed _) (RelL.cons (.ptr (j := 0) 0 0 rfl) (RelL.cons (.wk (.same _) (.val _)) (RelL.nil _))) (by first | exact .same _ (.tup closedL_nil) | exact .same _ (.val _) | exact .same _ (.agg (encCf_closed _)) | exact .same _ (.tup (closedL_cons (.agg (encFo_closed _)) (closedL_cons (.val _) closedL_nil))) | exact .same _ (.tup (closedL_cons (closedV _) (closedL_cons (closedLCf _) (closedL_cons (.val _) closedL_nil))))) ?_ | refine callK 6 _ 25 (encK k1) (encK k2) (c2) (encK_closed _) (encK_closed _) (RelL.cons (.ptr (j := 0) 0 0 rfl) (RelL.cons (.wk (.same _) (.val _)) (RelL.nil _))) (by first | exact .same _ (.tup closedL_nil) | exact .same _ (.val _) | exact .same _ (.agg (encCf_closed _)) | exact .same _ (.tup (closedL_cons (.agg (encFo_closed _)) (closedL_cons (.val _) closedL_nil))) | exact .same _ (.tup (closedL_cons (closedV _) (closedL_cons (closedLCf _) (closedL_cons (.val _) closedL_nil))))) ?_ | refine ARun.strBytesO rfl (by rw [show (ByteArray.mk s.toArray).size = s.length from rfl]; simp only [maxLen]; omega) rfl rfl rfl rfl rfl rfl rfl (guardF_spec rfl) ?_ | refine callGX [(30, _)] (c4) (BsOk.cons rfl (by first | exact own_closed_map encB_closed) (BsOk.nil _)) rfl fzT rfl rfl ?_ | refine callK 6 _ 25 (encK k2) (encK k3) (c5) (encK_closed _) (encK_closed _) (RelL.cons (.ptr (j := 0) 0 0 rfl) (RelL.cons (.wk (.same _) (.val _)) (RelL.nil _))) (by first | exact .same _ (.tup closedL_nil) | exact .same _ (.val _) | exact .same _ (.agg (encCf_closed _)) | exact .same _ (.tup (closedL_cons (.agg (encFo_closed _)) (closedL_cons (.val _) closedL_nil))) | exact .same _ (.tup (closedL_cons (closedV _) (closedL_cons (closedLCf _) (closedL_cons (.val _) closedL_nil))))) ?_ | refine callK 6 _ 25 (encK k3) (encK k3) (c3) (encK_closed _) (encK_closed _) (RelL.cons (.ptr (j := 0) 0 0 rfl) (RelL.cons (.wk (.same _) (by first | exact .agg (encCf_closed _) | exact closedV _ | exact closedLCf _ | (simp only [AS.ev]; done))) (RelL.cons (.wk (by first | exact Wk.same _ | exact Wk.nilSl) (by first | exact closedLCf _ | exact closedLCf [])) (RelL.nil _)))) (by first | exact .same _ (.tup closedL_nil) | exact .same _ (.val _) | exact .same _ (.agg (encCf_closed _)) | exact .same _ (.tup (closedL_cons (.agg (encFo_closed _)) (closedL_cons (.val _) closedL_nil))) | exact .same _ (.tup (closedL_cons (closedV _) (closedL_cons (closedLCf _) (closedL_cons (.val _) closedL_nil))))) ?_ | refine goB ?_ | fail))
  exact awp_ret ⟨_, ResL.cons (ResA.agg rfl rfl rfl rfl rfl rfl rfl (RL.allClosed (encV_closed _))) (ResL.cons (ResA.tmp (.val _)) .nil), rfl⟩
 have d5 : (q.2.2 == 0) = true := beq_iff_eq.2 b5
 rw [if_pos b5]
 have e5 : failD k2 q.2.2 = k2 := by
  unfold failD
  rw [if_pos b, b5]
  cases k2
  simp only at b
  rw [b]
 rw [e5] at c5
 generalize alignD q.1 q.2.1 = r at *
 rw [show (⟨withMH k2.v r.1 r.2.1, k2.l, 0⟩ : Kw) = ⟨withMH k2.v r.1 r.2.1, k2.l, k2.bad⟩ by rw [b]]
 have c3 := done_l ⟨withMH k2.v r.1 r.2.1, k2.l, k2.bad⟩ v []
 rw [out_done]
 generalize doneD ⟨withMH k2.v r.1 r.2.1, k2.l, k2.bad⟩ v [] = p at *
 simp only [encVLE] at c3
 unfold encVE
 refine goF Tryz.func7 (closedL_cons (closedV v) (closedL_cons (.val _) closedL_nil)) (fun w0 st0 => ?_)
 dsimp only [frOf]
 (repeat' (first | refine goN ?_ | refine awp_region_ne 2 rfl (fun _ => hmix) ?_ | refine ARun.o rfl ?_ | refine goB ?_ | ((fail_if_success refine ARun.plain rfl ?_); refine ARun.fork rfl rfl rfl (fun h => ?_) (fun h => ?_)) | refine awp_cond rfl (fun h => ?_) (fun h => ?_)))
 refine awp_wkH 6 [encK ⟨v, [], 0⟩] rfl rfl (RelR.cons (RelL.cons (.same _) (RelL.cons (.same _) (RelL.cons (.same _) (RelL.cons (.same _) (RelL.cons (.same _) (RelL.cons (.same _) (RelL.cons (.same _) (RelL.cons (.same _) (RelL.cons (.same _) (RelL.cons (.same _) (RelL.cons (.same _) (RelL.cons (.same _) (RelL.cons (.same _) (RelL.cons (.same _) (RelL.cons (.same _) (RelL.cons (.same _) (RelL.cons (.same _) (RelL.cons (.same _) (RelL.cons (.same _) (RelL.cons (.same _) (RelL.cons (.same _) (RelL.cons (.same _) (RelL.cons (.same _) (RelL.cons Wk.nilSl (RelL.cons (.same _) (RelL.nil _)))))))))))))))))))))))))) (RelR.nil _)) ?_
 (repeat' (first | refine goA ?_ | refine callK 6 _ 25 (encK ⟨v, [], 0⟩) (encK k1) (c1) (encK_closed _) (encK_closed _) (RelL.cons (.ptr (j := 0) 0 0 rfl) (RelL.cons (.wk (.same _) (.val _)) (RelL.nil _))) (by first | exact .same _ (.tup closedL_nil) | exact .same _ (.val _) | exact .same _ (.agg (encCf_closed _)) | exact .same _ (.tup (closedL_cons (.agg (encFo_closed _)) (closedL_cons (.val _) closedL_nil))) | exact .same _ (.tup (closedL_cons (closedV _) (closedL_cons (closedLCf _) (closedL_cons (.val _) closedL_nil))))) ?_ | refine callK 6 _ 25 (encK k1) (encK k2) (c2) (encK_closed _) (encK_closed _) (RelL.cons (.ptr (j := 0) 0 0 rfl) (RelL.cons (.wk (.same _) (.val _)) (RelL.nil _))) (by first | exact .same _ (.tup closedL_nil) | exact .same _ (.val _) | exact .same _ (.agg (encCf_closed _)) | exact .same _ (.tup (closedL_cons (.agg (encFo_closed _)) (closedL_cons (.val _) closedL_nil))) | exact .same _ (.tup (closedL_cons (closedV _) (closedL_cons (closedLCf _) (closedL_cons (.val _) closedL_nil))))) ?_ | refine ARun.strBytesO rfl (by rw [show (ByteArray.mk s.toArray).size = s.length from rfl]; simp only [maxLen]; omega) rfl rfl rfl rfl rfl rfl rfl (guardF_spec rfl) ?_ | refine callGX [(30, _)] (c4) (BsOk.cons rfl (by first | exact own_closed_map encB_closed) (BsOk.nil _)) rfl fzT rfl rfl ?_ | refine cX h5 ?_ | refine callK 6 _ 25 (encK k2) (encK k2) (c5) (encK_closed _) (encK_closed _) (RelL.cons (.ptr (j := 0) 0 0 rfl) (RelL.cons (.wk (.same _) (.val _)) (RelL.nil _))) (by first | exact .same _ (.tup closedL_nil) | exact .same _ (.val _) | exact .same _ (.agg (encCf_closed _)) | exact .same _ (.tup (closedL_cons (.agg (encFo_closed _)) (closedL_cons (.val _) closedL_nil))) | exact .same _ (.tup (closedL_cons (closedV _) (closedL_cons (closedLCf _) (closedL_cons (.val _) closedL_nil))))) ?_ | refine callK 6 _ 25 (encK ⟨withMH k2.v r.1 r.2.1, k2.l, k2.bad⟩) (encK ⟨withMH k2.v r.1 r.2.1, k2.l, k2.bad⟩) (c3) (encK_closed _) (encK_closed _) (RelL.cons (.ptr (j := 0) 0 0 rfl) (RelL.cons (.wk (.same _) (by first | exact .agg (encCf_closed _) | exact closedV _ | exact closedLCf _ | (simp only [AS.ev]; done))) (RelL.cons (.wk (by first | exact Wk.same _ | exact Wk.nilSl) (by first | exact closedLCf _ | exact closedLCf [])) (RelL.nil _)))) (by first | exact .same _ (.tup closedL_nil) | exact .same _ (.val _) | exact .same _ (.agg (encCf_closed _)) | exact .same _ (.tup (closedL_cons (.agg (encFo_closed _)) (closedL_cons (.val _) closedL_nil))) | exact .same _ (.tup (closedL_cons (closedV _) (closedL_cons (closedLCf _) (closedL_cons (.val _) closedL_nil))))) ?_ | refine goB ?_ | fail))
 exact awp_ret ⟨_, ResL.cons (ResA.agg rfl rfl rfl rfl rfl rfl rfl (RL.allClosed (encV_closed _))) (ResL.cons (ResA.tmp (.val _)) .nil), rfl⟩
end Go.Proofs.YtpkkplojpjakiaaGreat
namespace Go.Proofs.YtpkkplojpjakiaaGreat
open Go Go.RowKit
open Go.Proofs.YtpkkplojpjakiaaGreat.Dict (St Bs bs_eq Wd encW encWs closed_ws)
open Go.Proofs.YtpkkplojpjakiaaGreat.Mem (Mm encM encBs closed_bs encP encP_closed closed_m storeD fetchD commaD alignD enc3m writeD)
open Go.Proofs.YtpkkplojpjakiaaGreat.Stk (encS closed_s encI_closed)
set_option maxRecDepth 100000
theorem cellD_bad {w : Kw} (h : w.bad ≠ 0) (n : Int) : cellD w n = w := if_neg h
theorem hereD_bad {w : Kw} (h : w.bad ≠ 0) (n : Int) : hereD w n = w := if_neg h
theorem heres_bad {w : Kw} (h : w.bad ≠ 0) : ∀ l : List Int, heresD w l = w
 | [] => rfl
 | a :: l => by
  show heresD (hereD w a) l = w
  rw [hereD_bad h, heres_bad h l]
theorem withMH_id (v : V) : withMH v v.m v.here = v := by cases v; rfl
def wk0 (v : V) : Kw := ⟨v, [], 0⟩
def lastK (l : List Cfr) (n : Nat) : Int := if l.length ≤ n then 0 else (l[l.length - 1 - n]?.getD cf0).kind
attribute [local irreducible] Decidable.decide awp ARun regK toK
theorem number_c (s : Bs) : FnC Tryz.prog 25 [St s] (.val (.int .i64 (idxFrom nmsV s 0))) := by
 have c1 := ref_names_c
 have hl := len_nms
 rw [List.length_map] at hl
 generalize nmsV = l at *
 refine goF Tryz.func25 (closedL_cons (.val _) closedL_nil) (fun w0 st0 => ?_)
 dsimp only [frOf]
 (repeat' (first | refine goA ?_ | refine cX c1 ?_ | refine goB ?_ | ((fail_if_success refine ARun.plain rfl ?_); refine ARun.fork rfl rfl rfl (fun h => ?_) (fun h => ?_)) | refine awp_cond rfl (fun h => ?_) (fun h => ?_)))
 refine awp_loopT (T := Nat × Nat) (fun t => ⟨[(4, .val (.int .i64 (t.1 : Nat))), (3, .sl 1 true (l.map encN)), (0, St s)], [], t.2⟩) (fun t => t.1 ≤ l.length ∧ idxFrom l s 0 = idxFrom (l.drop t.1) s t.1) (fun t => l.length - t.1) (0, _) ⟨Nat.zero_le _, rfl⟩ ⟨⟨rfl, rfl, rfl, trivial⟩, trivial, Nat.le_refl _⟩ (fun t ht => ?_)
 obtain ⟨k, gc⟩ := t
 obtain ⟨hk, hA⟩ := ht
 dsimp only at hk hA ⊢
 by_cases hlt : k < l.length
 ·have hp : l[k]? = some l[k] := List.getElem?_eq_getElem hlt
  have hc : decide (((k : Nat) : Int) < (((l.map encN).length : Nat) : Int)) = true := by simp; omega
  generalize l[k] = a at hp
  have hs := idx_step (s := s) hp
  by_cases h3 : s = a
  ·have d3 : ((ByteArray.mk a.toArray).toList == (ByteArray.mk s.toArray).toList) = true := by rw [bs_eq]; exact decide_eq_true h3.symm
   (repeat' (first | refine goA ?_ | refine ARun.indexAddr rfl rfl (by omega) (by first | with_reducible exact get_map hp | with_reducible exact get_map hp) rfl rfl rfl rfl rfl (guardF_spec rfl) ?_ | refine goB ?_ | ((fail_if_success refine ARun.plain rfl ?_); refine ARun.fork rfl rfl rfl (fun h => ?_) (fun h => ?_)) | refine awp_cond rfl (fun h => ?_) (fun h => ?_)))
   refine awp_ret ⟨_, ResL.cons (ResA.tmp (.val _)) .nil, congrArg (fun b => AV.val (.int .i64 b)) ?_⟩
   rw [hA, hs, if_pos h3]
  ·have d3 : ((ByteArray.mk a.toArray).toList == (ByteArray.mk s.toArray).toList) = false := by rw [bs_eq]; exact decide_eq_false (fun e => h3 e.symm)
   (repeat' (first | refine goA ?_ | refine ARun.indexAddr rfl rfl (by omega) (by first | with_reducible exact get_map hp | with_reducible exact get_map hp) rfl rfl rfl rfl rfl (guardF_spec rfl) ?_ | refine goB ?_ | ((fail_if_success refine ARun.plain rfl ?_); refine ARun.fork rfl rfl rfl (fun h => ?_) (fun h => ?_)) | refine awp_cond rfl (fun h => ?_) (fun h => ?_)))
   exact ⟨(k + 1, _), ⟨⟨succI k, rfl, rfl, trivial⟩, trivial, Nat.le_refl _⟩, ⟨hlt, by dsimp only; rw [hA, hs, if_neg h3]⟩, (by dsimp only; omega)⟩
 ·have hkk : k = l.length := by omega
  subst hkk
  have hc : decide (((l.length : Nat) : Int) < (((l.map encN).length : Nat) : Int)) = false := by simp
  (repeat' (first | refine goA ?_ | refine goB ?_ | ((fail_if_success refine ARun.plain rfl ?_); refine ARun.fork rfl rfl rfl (fun h => ?_) (fun h => ?_)) | refine awp_cond rfl (fun h => ?_) (fun h => ?_)))
  refine awp_ret ⟨_, ResL.cons (ResA.tmp (.val _)) .nil, congrArg (fun b => AV.val (.int .i64 b)) ?_⟩
  rw [hA, List.drop_length]
  rfl
theorem ref_xt_c (s : Bs) : FnC Tryz.prog 8 [St s] (.val (.int .i64 (xtD s))) := by
 have c1 := number_c s
 have hl := len_nms
 rw [List.length_map] at hl
 have hr := idx_rng nmsV s 0
 unfold xtD
 generalize idxFrom nmsV s 0 = n at *
 refine goF Tryz.func8 (closedL_cons (.val _) closedL_nil) (fun w0 st0 => ?_)
 dsimp only [frOf]
 (repeat' (first | refine goA ?_ | refine cX c1 ?_ | refine goB ?_ | ((fail_if_success refine ARun.plain rfl ?_); refine ARun.fork rfl rfl rfl (fun h => ?_) (fun h => ?_)) | refine awp_cond rfl (fun h => ?_) (fun h => ?_)))
 exact awp_ret ⟨_, ResL.cons (ResA.tmp (.val _)) .nil, rfl⟩
end Go.Proofs.YtpkkplojpjakiaaGreat
namespace Go.Proofs.YtpkkplojpjakiaaGreat
open Go Go.RowKit
open Go.Proofs.YtpkkplojpjakiaaGreat.Dict (St Bs bs_eq Wd encW encWs closed_ws)
open Go.Proofs.YtpkkplojpjakiaaGreat.Mem (Mm encM encBs closed_bs encP encP_closed closed_m storeD fetchD commaD alignD enc3m enc2m writeD)
open Go.Proofs.YtpkkplojpjakiaaGreat.Stk (encS closed_s encI_closed)
set_option maxRecDepth 100000
def cellsK (v : V) (l : List Int) : Kw := l.foldl cellD (wk0 v)
theorem cells_okk {w : Kw} {k : Nat} : ∀ (l : List Int), Okk w.v (k + l.length) → Okk (l.foldl cellD w).v k := fun l => by
 induction l generalizing w with
 | nil => exact fun h => h
 | cons a l ih => exact fun h => ih (w := cellD w a) (okk_cell a (by rw [List.length_cons] at h; exact h.le (by omega)))
attribute [local irreducible] Decidable.decide awp ARun regK toK
end Go.Proofs.YtpkkplojpjakiaaGreat
