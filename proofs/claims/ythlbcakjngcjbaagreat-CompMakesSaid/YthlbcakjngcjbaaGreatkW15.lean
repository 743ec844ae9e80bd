/- kX8, kX9, kX10, kX11, kX12. -/
import Derived.Test.YthlbcakjngcjbaaGreatW1
import Derived.Test.YthlbcakjngcjbaaGreatW2
import Derived.Test.YthlbcakjngcjbaaGreatW3
import Derived.Test.YthlbcakjngcjbaaGreatW4
import Derived.Test.YthlbcakjngcjbaaGreatkW5
import Derived.Test.YthlbcakjngcjbaaGreatkW6
import Derived.Test.YthlbcakjngcjbaaGreatkW7
import Derived.Test.YthlbcakjngcjbaaGreatkW8
import Derived.Test.YthlbcakjngcjbaaGreatkW9
import Derived.Test.YthlbcakjngcjbaaGreatkW10
import Derived.Test.YthlbcakjngcjbaaGreatkW11
import Derived.Test.YthlbcakjngcjbaaGreatkW12
import Derived.Test.YthlbcakjngcjbaaGreatkW13
import Derived.Test.YthlbcakjngcjbaaGreatkW14
set_option linter.unusedVariables false
set_option linter.unusedSimpArgs false
namespace Go.Proofs.YthlbcakjngcjbaaGreat
open Go Go.RowKit
open Dict (St Bs bs_eq Wd encW encWs closed_ws)
open Mem (Mm encM encBs closed_bs encP encP_closed closed_m storeD fetchD commaD)
open Stk (encS closed_s)
set_option maxRecDepth 100000
theorem sameI_pD (a b : List Int) : Stk.sameD a b = pD (a = b) := by unfold Stk.sameD; exact dec_pD _
theorem Cfr.ext' {a b : Cfr} (h1 : a.kind = b.kind) (h2 : a.at' = b.at') (h3 : a.lv = b.lv) : a = b := by
 cases a
 cases b
 simp only at h1 h2 h3
 subst h1 h2 h3
 rfl
attribute [local irreducible] Decidable.decide awp ARun regK toK
set_option maxHeartbeats 4000000 in
theorem cf1_c (p q : Cfr) (hl : p.lv.length ≤ 1000000) : FnC Tryz.prog 104 [.agg (encCf p), .agg (encCf q)] (.val (.bool (pD (p = q)))) := by
 have c1 := eqI_c p.lv q.lv hl
 by_cases h1 : p.kind = q.kind
 case neg =>
  have d1 : (p.kind == q.kind) = false := by simp [h1]
  rw [pD_no (fun h => h1 (by rw [h]))]
  refine goF Tryz.func104 (closedL_cons (.agg (encCf_closed p)) (closedL_cons (.agg (encCf_closed q)) closedL_nil)) (fun w0 st0 => ?_)
  dsimp only [frOf]
  (repeat' (first | refine goA ?_ | refine cX c1 ?_ | refine goB ?_ | fail))
  exact awp_ret ⟨_, ResL.cons (ResA.tmp (.val _)) .nil, rfl⟩
 have d1 : (p.kind == q.kind) = true := by simp [h1]
 by_cases h2 : p.at' = q.at'
 case neg =>
  have d2 : (p.at' == q.at') = false := by simp [h2]
  rw [pD_no (fun h => h2 (by rw [h]))]
  refine goF Tryz.func104 (closedL_cons (.agg (encCf_closed p)) (closedL_cons (.agg (encCf_closed q)) closedL_nil)) (fun w0 st0 => ?_)
  dsimp only [frOf]
  (repeat' (first | refine goA ?_ | refine cX c1 ?_ | refine goB ?_ | fail))
  exact awp_ret ⟨_, ResL.cons (ResA.tmp (.val _)) .nil, rfl⟩
 have d2 : (p.at' == q.at') = true := by simp [h2]
 by_cases h3 : p.lv = q.lv
 case neg =>
  rw [decide_eq_false h3] at c1
  rw [pD_no (fun h => h3 (by rw [h]))]
  refine goF Tryz.func104 (closedL_cons (.agg (encCf_closed p)) (closedL_cons (.agg (encCf_closed q)) closedL_nil)) (fun w0 st0 => ?_)
  dsimp only [frOf]
  (repeat' (first | refine goA ?_ | refine cX c1 ?_ | refine goB ?_ | fail))
  exact awp_ret ⟨_, ResL.cons (ResA.tmp (.val _)) .nil, rfl⟩
 rw [decide_eq_true h3] at c1
 rw [pD_yes (Cfr.ext' h1 h2 h3)]
 refine goF Tryz.func104 (closedL_cons (.agg (encCf_closed p)) (closedL_cons (.agg (encCf_closed q)) closedL_nil)) (fun w0 st0 => ?_)
 dsimp only [frOf]
 (repeat' (first | refine goA ?_ | refine cX c1 ?_ | refine goB ?_ | fail))
 exact awp_ret ⟨_, ResL.cons (ResA.tmp (.val _)) .nil, rfl⟩
set_option maxHeartbeats 4000000 in
theorem cfeqfunc_c (a b : List Cfr) (hla : a.length ≤ 1000000) (hv : ∀ c, c ∈ a → c.lv.length ≤ 1000000) : FnC Tryz.prog 105 [.sl 3 false (a.map encCf), .sl 3 false (b.map encCf), .val (.func (.func 104) #[] #[])] (.val (.bool (pD (a = b)))) := by
 by_cases hl : a.length = b.length
 ·have d1 : ((((a.map encCf).length : Nat) : Int) != (((b.map encCf).length : Nat) : Int)) = false := by simp [hl]
  refine goF Tryz.func105 (closedL_cons (closed_map encCf_closed) (closedL_cons (closed_map encCf_closed) (closedL_cons (.val _) closedL_nil))) (fun w0 st0 => ?_)
  dsimp only [frOf]
  (repeat' (first | refine goA ?_ | refine goB ?_ | ((fail_if_success refine ARun.plain rfl ?_); refine ARun.fork rfl rfl rfl (fun h => ?_) (fun h => ?_)) | refine awp_cond rfl (fun h => ?_) (fun h => ?_)))
  refine awp_loopT (T := Nat × Nat) (fun t => ⟨[(17, .val (.int .i64 (t.1 : Nat))), (16, .val (.int .i64 (((a.map encCf).length : Nat)))), (15, .sl 3 false (a.map encCf)), (1, .sl 3 false (b.map encCf)), (2, .val (.func (.func 104) #[] #[]))], [], t.2⟩) (fun t => t.1 ≤ a.length ∧ a.take t.1 = b.take t.1) (fun t => a.length - t.1) (0, _) ⟨Nat.zero_le _, rfl⟩ ⟨⟨rfl, rfl, rfl, rfl, rfl, trivial⟩, trivial, Nat.le_refl _⟩ (fun t ht => ?_)
  obtain ⟨k, gc⟩ := t
  obtain ⟨hk, hA⟩ := ht
  dsimp only at hk hA ⊢
  clear d1
  by_cases hlt : k < a.length
  ·have hp : a[k]? = some a[k] := List.getElem?_eq_getElem hlt
   have hm : a[k] ∈ a := List.getElem_mem hlt
   have hq : b[k]? = some b[k] := List.getElem?_eq_getElem (by omega)
   have hc : decide (((k : Nat) : Int) < (((a.map encCf).length : Nat) : Int)) = true := by simp; omega
   have e1 := take_succ' hp
   have e2 := take_succ' hq
   have hne : ∀ x y, a[k]? = some x → b[k]? = some y → x ≠ y → pD (a = b) = false := fun x y hx hy hxy => pD_no (fun h => hxy (by rw [h, hy] at hx; exact (Option.some.inj hx).symm))
   generalize a[k] = p at hp e1 hm
   generalize b[k] = q at hq e2
   have c1 := cf1_c p q (hv p hm)
   by_cases h3 : p = q
   ·rw [pD_yes h3] at c1
    (repeat' (first | refine goA ?_ | refine ARun.indexAddr rfl rfl (by omega) (by first | with_reducible exact get_map hp | with_reducible exact get_map hq) rfl rfl rfl rfl rfl (guardF_spec rfl) ?_ | refine cX c1 ?_ | refine goB ?_ | ((fail_if_success refine ARun.plain rfl ?_); refine ARun.fork rfl rfl rfl (fun h => ?_) (fun h => ?_)) | refine awp_cond rfl (fun h => ?_) (fun h => ?_)))
    refine ⟨(k + 1, _), ⟨⟨succI k, rfl, rfl, rfl, rfl, trivial⟩, trivial, Nat.le_refl _⟩, ⟨hlt, ?_⟩, (by dsimp only; omega)⟩
    dsimp only
    rw [e1, e2, hA, h3]
   ·rw [pD_no h3] at c1
    rw [hne _ _ hp hq h3]
    (repeat' (first | refine goA ?_ | refine ARun.indexAddr rfl rfl (by omega) (by first | with_reducible exact get_map hp | with_reducible exact get_map hq) rfl rfl rfl rfl rfl (guardF_spec rfl) ?_ | refine cX c1 ?_ | refine goB ?_ | ((fail_if_success refine ARun.plain rfl ?_); refine ARun.fork rfl rfl rfl (fun h => ?_) (fun h => ?_)) | refine awp_cond rfl (fun h => ?_) (fun h => ?_)))
    exact awp_ret ⟨_, ResL.cons (ResA.tmp (.val _)) .nil, rfl⟩
  ·have hkk : k = a.length := by omega
   subst hkk
   have hc : decide (((a.length : Nat) : Int) < (((a.map encCf).length : Nat) : Int)) = false := by simp
   rw [List.take_length, hl, List.take_length] at hA
   rw [pD_yes hA]
   (repeat' (first | refine goA ?_ | refine goB ?_ | ((fail_if_success refine ARun.plain rfl ?_); refine ARun.fork rfl rfl rfl (fun h => ?_) (fun h => ?_)) | refine awp_cond rfl (fun h => ?_) (fun h => ?_)))
   exact awp_ret ⟨_, ResL.cons (ResA.tmp (.val _)) .nil, rfl⟩
 ·have d1 : ((((a.map encCf).length : Nat) : Int) != (((b.map encCf).length : Nat) : Int)) = true := by simp; omega
  rw [pD_no (fun h => hl (by rw [h]))]
  refine goF Tryz.func105 (closedL_cons (closed_map encCf_closed) (closedL_cons (closed_map encCf_closed) (closedL_cons (.val _) closedL_nil))) (fun w0 st0 => ?_)
  dsimp only [frOf]
  (repeat' (first | refine goA ?_ | refine goB ?_ | ((fail_if_success refine ARun.plain rfl ?_); refine ARun.fork rfl rfl rfl (fun h => ?_) (fun h => ?_)) | refine awp_cond rfl (fun h => ?_) (fun h => ?_)))
  exact awp_ret ⟨_, ResL.cons (ResA.tmp (.val _)) .nil, rfl⟩
theorem cfsame_c (a b : List Cfr) (hla : a.length ≤ 1000000) (hv : ∀ c, c ∈ a → c.lv.length ≤ 1000000) : FnC Tryz.prog 53 [encLCf a, encLCf b] (.val (.bool (pD (a = b)))) := by
 have c1 := cfeqfunc_c a b hla hv
 refine goF Tryz.func53 (closedL_cons (closedLCf a) (closedL_cons (closedLCf b) closedL_nil)) (fun w0 st0 => ?_)
 dsimp only [frOf]
 (repeat' (first | refine goA ?_ | refine cX c1 ?_ | refine goB ?_ | ((fail_if_success refine ARun.plain rfl ?_); refine ARun.fork rfl rfl rfl (fun h => ?_) (fun h => ?_)) | refine awp_cond rfl (fun h => ?_) (fun h => ?_)))
 exact awp_ret ⟨_, ResL.cons (ResA.tmp (.val _)) .nil, rfl⟩
set_option maxHeartbeats 8000000 in
theorem ref_cfsame_c (a b : List Cfr) (hla : a.length ≤ 1000000) (hv : ∀ c, c ∈ a → c.lv.length ≤ 1000000) (hw : ∀ c, c ∈ b → c.lv.length ≤ 1000000) : FnC Tryz.prog 55 [encLCf a, encLCf b] (.val (.bool (pD (a = b)))) := by
 by_cases hl : a.length = b.length
 ·have d1 : ((((a.map encCf).length : Nat) : Int) != (((b.map encCf).length : Nat) : Int)) = false := by simp [hl]
  refine goF Tryz.func55 (closedL_cons (closedLCf a) (closedL_cons (closedLCf b) closedL_nil)) (fun w0 st0 => ?_)
  dsimp only [frOf]
  (repeat' (first | refine goA ?_ | refine goB ?_ | ((fail_if_success refine ARun.plain rfl ?_); refine ARun.fork rfl rfl rfl (fun h => ?_) (fun h => ?_)) | refine awp_cond rfl (fun h => ?_) (fun h => ?_)))
  refine awp_loopT (T := Nat × Nat) (fun t => ⟨[(5, .val (.int .i64 (t.1 : Nat))), (0, encLCf a), (1, encLCf b)], [], t.2⟩) (fun t => t.1 ≤ a.length ∧ a.take t.1 = b.take t.1) (fun t => a.length - t.1) (0, _) ⟨Nat.zero_le _, rfl⟩ ⟨⟨rfl, rfl, rfl, trivial⟩, trivial, Nat.le_refl _⟩ (fun t ht => ?_)
  obtain ⟨k, gc⟩ := t
  obtain ⟨hk, hA⟩ := ht
  dsimp only at hk hA ⊢
  clear d1
  by_cases hlt : k < a.length
  ·have hp : a[k]? = some a[k] := List.getElem?_eq_getElem hlt
   have hm : a[k] ∈ a := List.getElem_mem hlt
   have hq : b[k]? = some b[k] := List.getElem?_eq_getElem (by omega)
   have hc : decide (((k : Nat) : Int) < (((a.map encCf).length : Nat) : Int)) = true := by simp; omega
   have e1 := take_succ' hp
   have e2 := take_succ' hq
   have hne : ∀ x y, a[k]? = some x → b[k]? = some y → x ≠ y → pD (a = b) = false := fun x y hx hy hxy => pD_no (fun h => hxy (by rw [h, hy] at hx; exact (Option.some.inj hx).symm))
   generalize a[k] = p at hp e1 hm
   generalize b[k] = q at hq e2
   have c1 := Stk.ref_same_c p.lv q.lv (hv p hm) (hw q (List.mem_of_getElem? hq))
   rw [sameI_pD] at c1
   by_cases h3 : p.lv = q.lv
   case neg =>
    rw [pD_no h3] at c1
    rw [hne _ _ hp hq (fun h => h3 (by rw [h]))]
    (repeat' (first | refine goA ?_ | refine ARun.indexAddr rfl rfl (by omega) (by first | with_reducible exact get_map hp | with_reducible exact get_map hq) rfl rfl rfl rfl rfl (guardF_spec rfl) ?_ | refine cX c1 ?_ | refine goB ?_ | fail))
    exact awp_ret ⟨_, ResL.cons (ResA.tmp (.val _)) .nil, rfl⟩
   rw [pD_yes h3] at c1
   by_cases h4 : p.kind = q.kind
   case neg =>
    have d4 : (p.kind != q.kind) = true := by simp [h4]
    rw [hne _ _ hp hq (fun h => h4 (by rw [h]))]
    (repeat' (first | refine goA ?_ | refine ARun.indexAddr rfl rfl (by omega) (by first | with_reducible exact get_map hp | with_reducible exact get_map hq) rfl rfl rfl rfl rfl (guardF_spec rfl) ?_ | refine cX c1 ?_ | refine goB ?_ | fail))
    exact awp_ret ⟨_, ResL.cons (ResA.tmp (.val _)) .nil, rfl⟩
   have d4 : (p.kind != q.kind) = false := by simp [h4]
   by_cases h5 : p.at' = q.at'
   case neg =>
    have d5 : (p.at' != q.at') = true := by simp [h5]
    rw [hne _ _ hp hq (fun h => h5 (by rw [h]))]
    (repeat' (first | refine goA ?_ | refine ARun.indexAddr rfl rfl (by omega) (by first | with_reducible exact get_map hp | with_reducible exact get_map hq) rfl rfl rfl rfl rfl (guardF_spec rfl) ?_ | refine cX c1 ?_ | refine goB ?_ | fail))
    exact awp_ret ⟨_, ResL.cons (ResA.tmp (.val _)) .nil, rfl⟩
   have d5 : (p.at' != q.at') = false := by simp [h5]
   (repeat' (first | refine goA ?_ | refine ARun.indexAddr rfl rfl (by omega) (by first | with_reducible exact get_map hp | with_reducible exact get_map hq) rfl rfl rfl rfl rfl (guardF_spec rfl) ?_ | refine cX c1 ?_ | refine goB ?_ | fail))
   refine ⟨(k + 1, _), ⟨⟨succI k, rfl, rfl, trivial⟩, trivial, Nat.le_refl _⟩, ⟨hlt, ?_⟩, (by dsimp only; omega)⟩
   dsimp only
   rw [e1, e2, hA, Cfr.ext' h4 h5 h3]
  ·have hkk : k = a.length := by omega
   subst hkk
   have hc : decide (((a.length : Nat) : Int) < (((a.map encCf).length : Nat) : Int)) = false := by simp
   rw [List.take_length, hl, List.take_length] at hA
   rw [pD_yes hA]
   (repeat' (first | refine goA ?_ | refine goB ?_ | ((fail_if_success refine ARun.plain rfl ?_); refine ARun.fork rfl rfl rfl (fun h => ?_) (fun h => ?_)) | refine awp_cond rfl (fun h => ?_) (fun h => ?_)))
   exact awp_ret ⟨_, ResL.cons (ResA.tmp (.val _)) .nil, rfl⟩
 ·have d1 : ((((a.map encCf).length : Nat) : Int) != (((b.map encCf).length : Nat) : Int)) = true := by simp; omega
  rw [pD_no (fun h => hl (by rw [h]))]
  refine goF Tryz.func55 (closedL_cons (closedLCf a) (closedL_cons (closedLCf b) closedL_nil)) (fun w0 st0 => ?_)
  dsimp only [frOf]
  (repeat' (first | refine goA ?_ | refine goB ?_ | ((fail_if_success refine ARun.plain rfl ?_); refine ARun.fork rfl rfl rfl (fun h => ?_) (fun h => ?_)) | refine awp_cond rfl (fun h => ?_) (fun h => ?_)))
  exact awp_ret ⟨_, ResL.cons (ResA.tmp (.val _)) .nil, rfl⟩
end Go.Proofs.YthlbcakjngcjbaaGreat
namespace Go.Proofs.YthlbcakjngcjbaaGreat
open Go Go.RowKit
open Go.Proofs.YthlbcakjngcjbaaGreat.Dict (St Bs bs_eq Wd encW encWs closed_ws)
open Go.Proofs.YthlbcakjngcjbaaGreat.Mem (Mm encM encBs closed_bs encP encP_closed closed_m storeD fetchD commaD alignD enc3m)
open Go.Proofs.YthlbcakjngcjbaaGreat.Stk (encS closed_s)
set_option maxRecDepth 100000
attribute [local irreducible] Decidable.decide awp ARun regK toK
end Go.Proofs.YthlbcakjngcjbaaGreat
namespace Go.Proofs.YthlbcakjngcjbaaGreat
open Go Go.RowKit
open Go.Proofs.YthlbcakjngcjbaaGreat.Dict (St Bs bs_eq Wd encW encWs closed_ws)
open Go.Proofs.YthlbcakjngcjbaaGreat.Mem (Mm encM encBs closed_bs encP encP_closed closed_m storeD fetchD commaD alignD enc3m)
open Go.Proofs.YthlbcakjngcjbaaGreat.Stk (encS closed_s)
set_option maxRecDepth 100000
def outD (w : Kw) (v : V) : V × Int := if w.bad = 0 then (w.v, 0) else (v, w.bad)
attribute [local irreducible] Decidable.decide awp ARun regK toK
end Go.Proofs.YthlbcakjngcjbaaGreat
namespace Go.Proofs.YthlbcakjngcjbaaGreat
open Go Go.RowKit
open Go.Proofs.YthlbcakjngcjbaaGreat.Dict (St Bs bs_eq Wd encW encWs closed_ws)
open Go.Proofs.YthlbcakjngcjbaaGreat.Mem (Mm encM encBs closed_bs encP encP_closed closed_m storeD fetchD commaD alignD enc3m writeD)
open Go.Proofs.YthlbcakjngcjbaaGreat.Stk (encS closed_s encI_closed)
set_option maxRecDepth 100000
theorem cellD_bad {w : Kw} (h : w.bad ≠ 0) (n : Int) : cellD w n = w := if_neg h
theorem cells_bad {w : Kw} (h : w.bad ≠ 0) : ∀ l : List Int, l.foldl cellD w = w
 | [] => rfl
 | a :: l => by rw [List.foldl_cons, cellD_bad h, cells_bad h l]
theorem withMH_id (v : V) : withMH v v.m v.here = v := by cases v; rfl
def wk0 (v : V) : Kw := ⟨v, [], 0⟩
attribute [local irreducible] Decidable.decide awp ARun regK toK
theorem number_c (s : Bs) : FnC Tryz.prog 81 [St s] (.val (.int .i64 (idxFrom nmsV s 0))) := by
 have c1 := ref_names_c
 have hl := len_nms
 rw [List.length_map] at hl
 generalize nmsV = l at *
 refine goF Tryz.func81 (closedL_cons (.val _) closedL_nil) (fun w0 st0 => ?_)
 dsimp only [frOf]
 (repeat' (first | refine goA ?_ | refine cX c1 ?_ | refine goB ?_ | ((fail_if_success refine ARun.plain rfl ?_); refine ARun.fork rfl rfl rfl (fun h => ?_) (fun h => ?_)) | refine awp_cond rfl (fun h => ?_) (fun h => ?_)))
 refine awp_loopT (T := Nat × Nat) (fun t => ⟨[(4, .val (.int .i64 (t.1 : Nat))), (3, .sl 1 true (l.map encN)), (0, St s)], [], t.2⟩) (fun t => t.1 ≤ l.length ∧ idxFrom l s 0 = idxFrom (l.drop t.1) s t.1) (fun t => l.length - t.1) (0, _) ⟨Nat.zero_le _, rfl⟩ ⟨⟨rfl, rfl, rfl, trivial⟩, trivial, Nat.le_refl _⟩ (fun t ht => ?_)
 obtain ⟨k, gc⟩ := t
 obtain ⟨hk, hA⟩ := ht
 dsimp only at hk hA ⊢
 by_cases hlt : k < l.length
 ·have hp : l[k]? = some l[k] := List.getElem?_eq_getElem hlt
  have hc : decide (((k : Nat) : Int) < (((l.map encN).length : Nat) : Int)) = true := by simp; omega
  generalize l[k] = a at hp
  have hs := idx_step (s := s) hp
  by_cases h3 : s = a
  ·have d3 : ((ByteArray.mk a.toArray).toList == (ByteArray.mk s.toArray).toList) = true := by rw [bs_eq]; exact decide_eq_true h3.symm
   (repeat' (first | refine goA ?_ | refine ARun.indexAddr rfl rfl (by omega) (by first | with_reducible exact get_map hp | with_reducible exact get_map hp) rfl rfl rfl rfl rfl (guardF_spec rfl) ?_ | refine goB ?_ | ((fail_if_success refine ARun.plain rfl ?_); refine ARun.fork rfl rfl rfl (fun h => ?_) (fun h => ?_)) | refine awp_cond rfl (fun h => ?_) (fun h => ?_)))
   refine awp_ret ⟨_, ResL.cons (ResA.tmp (.val _)) .nil, congrArg (fun b => AV.val (.int .i64 b)) ?_⟩
   rw [hA, hs, if_pos h3]
  ·have d3 : ((ByteArray.mk a.toArray).toList == (ByteArray.mk s.toArray).toList) = false := by rw [bs_eq]; exact decide_eq_false (fun e => h3 e.symm)
   (repeat' (first | refine goA ?_ | refine ARun.indexAddr rfl rfl (by omega) (by first | with_reducible exact get_map hp | with_reducible exact get_map hp) rfl rfl rfl rfl rfl (guardF_spec rfl) ?_ | refine goB ?_ | ((fail_if_success refine ARun.plain rfl ?_); refine ARun.fork rfl rfl rfl (fun h => ?_) (fun h => ?_)) | refine awp_cond rfl (fun h => ?_) (fun h => ?_)))
   exact ⟨(k + 1, _), ⟨⟨succI k, rfl, rfl, trivial⟩, trivial, Nat.le_refl _⟩, ⟨hlt, by dsimp only; rw [hA, hs, if_neg h3]⟩, (by dsimp only; omega)⟩
 ·have hkk : k = l.length := by omega
  subst hkk
  have hc : decide (((l.length : Nat) : Int) < (((l.map encN).length : Nat) : Int)) = false := by simp
  (repeat' (first | refine goA ?_ | refine goB ?_ | ((fail_if_success refine ARun.plain rfl ?_); refine ARun.fork rfl rfl rfl (fun h => ?_) (fun h => ?_)) | refine awp_cond rfl (fun h => ?_) (fun h => ?_)))
  refine awp_ret ⟨_, ResL.cons (ResA.tmp (.val _)) .nil, congrArg (fun b => AV.val (.int .i64 b)) ?_⟩
  rw [hA, List.drop_length]
  rfl
theorem ref_xt_c (s : Bs) : FnC Tryz.prog 42 [St s] (.val (.int .i64 (xtD s))) := by
 have c1 := number_c s
 have hl := len_nms
 rw [List.length_map] at hl
 have hr := idx_rng nmsV s 0
 unfold xtD
 generalize idxFrom nmsV s 0 = n at *
 refine goF Tryz.func42 (closedL_cons (.val _) closedL_nil) (fun w0 st0 => ?_)
 dsimp only [frOf]
 (repeat' (first | refine goA ?_ | refine cX c1 ?_ | refine goB ?_ | ((fail_if_success refine ARun.plain rfl ?_); refine ARun.fork rfl rfl rfl (fun h => ?_) (fun h => ?_)) | refine awp_cond rfl (fun h => ?_) (fun h => ?_)))
 exact awp_ret ⟨_, ResL.cons (ResA.tmp (.val _)) .nil, rfl⟩
end Go.Proofs.YthlbcakjngcjbaaGreat
namespace Go.Proofs.YthlbcakjngcjbaaGreat
open Go Go.RowKit
open Go.Proofs.YthlbcakjngcjbaaGreat.Dict (St Bs bs_eq Wd encW encWs closed_ws)
open Go.Proofs.YthlbcakjngcjbaaGreat.Mem (Mm encM encBs closed_bs encP encP_closed closed_m storeD fetchD commaD alignD enc3m enc2m writeD)
open Go.Proofs.YthlbcakjngcjbaaGreat.Stk (encS closed_s encI_closed)
set_option maxRecDepth 100000
def cellsK (v : V) (l : List Int) : Kw := l.foldl cellD (wk0 v)
theorem foldl_split {α β : Type} (f : α → β → α) (a : α) (l : List β) (k : Nat) : l.foldl f a = (l.drop k).foldl f ((l.take k).foldl f a) := by
 rw [← List.foldl_append, List.take_append_drop]
theorem foldl_take_succ {α β : Type} (f : α → β → α) (a : α) {l : List β} {k : Nat} {x : β} (h : l[k]? = some x) : (l.take (k + 1)).foldl f a = f ((l.take k).foldl f a) x := by
 rw [List.take_add_one, h, List.foldl_append]
 rfl
theorem cells_okk {w : Kw} {k : Nat} : ∀ (l : List Int), Okk w.v (k + l.length) → Okk (l.foldl cellD w).v k := fun l => by
 induction l generalizing w with
 | nil => exact fun h => h
 | cons a l ih => exact fun h => ih (w := cellD w a) (okk_cell a (by rw [List.length_cons] at h; exact h.le (by omega)))
attribute [local irreducible] Decidable.decide awp ARun regK toK
set_option maxHeartbeats 8000000 in
theorem ref_cells_c (v : V) (l : List Int) (hl : l.length ≤ 1000) (h : Okk v l.length) : FnC Tryz.prog 36 [.agg (encV v), encS l] (encVE (outD (cellsK v l) v)) := by
 have e0 : (((l.map encI).length : Nat) : Int) = l.length := by rw [List.length_map]
 refine goF Tryz.func36 (closedL_cons (closedV v) (closedL_cons (closed_s l) closedL_nil)) (fun w0 st0 => ?_)
 dsimp only [frOf]
 (repeat' (first | refine goA ?_ | refine goB ?_ | ((fail_if_success refine ARun.plain rfl ?_); refine ARun.fork rfl rfl rfl (fun h => ?_) (fun h => ?_)) | refine awp_cond rfl (fun h => ?_) (fun h => ?_)))
 refine awp_loopT (T := Nat × Nat) (fun t => ⟨[(7, .val (.int .i64 (t.1 : Nat))), (2, .ptr 2 0 0 0), (4, .ptr 4 1 0 0), (6, .ptr 6 4 0 0), (1, encS l)], [(2, some ⟨0, 23, [encV v]⟩), (4, some ⟨1, 23, [[.val (.int .i64 0), .val (.int .i64 0), .val (.int .i64 0), .val (.int .i64 0), .val (.int .i64 0), .sl 0 true [], .sl 0 true [], .val (.int .i64 0), .sl 0 true [], .sl 0 true [], .sl 0 true [], .sl 0 true [], .val (.int .i64 0), .sl 0 true [], .sl 0 true [], .val (.bool false), .sl 0 true [], .val (.int .i64 0), .val (.int .i64 0), .val (.int .i64 0), .val (.int .i64 0), .val (.int .i64 0), .sl 0 true []]]⟩), (6, some ⟨4, 23, [encV ((l.take t.1).foldl cellD (wk0 v)).v]⟩)], t.2⟩) (fun t => t.1 ≤ l.length ∧ ((l.take t.1).foldl cellD (wk0 v)).bad = 0 ∧ Okk ((l.take t.1).foldl cellD (wk0 v)).v (l.length - t.1)) (fun t => l.length - t.1) (0, _) ⟨Nat.zero_le _, rfl, h⟩ ⟨⟨rfl, rfl, rfl, rfl, rfl, trivial⟩, ⟨rfl, rfl, rfl, trivial⟩, Nat.le_refl _⟩ (fun t ht => ?_)
 obtain ⟨k, gc⟩ := t
 obtain ⟨hk, hA, hO⟩ := ht
 dsimp only at hk hA hO ⊢
 by_cases hlt : k < l.length
 ·have hc : decide (((k : Nat) : Int) < ((l.map encI).length : Nat)) = true := decide_eq_true (by omega)
  have hp : l[k]? = some l[k] := List.getElem?_eq_getElem hlt
  generalize l[k] = x at hp
  have hs := foldl_take_succ cellD (wk0 v) hp
  have hz := foldl_split cellD (wk0 v) l (k + 1)
  rw [hs] at hz
  have hO1 : Okk ((l.take k).foldl cellD (wk0 v)).v (l.length - (k + 1) + 1) := by rw [show l.length - (k + 1) + 1 = l.length - k by omega]; exact hO
  have hok := okk_cell x hO1
  generalize (l.take k).foldl cellD (wk0 v) = w at *
  have c1 := ref_vlay_c w.v x (hO1.le (by omega))
  have ew : cellD w x = ⟨(vlayD w.v x).1, w.l, (vlayD w.v x).2⟩ := if_pos hA
  unfold encVE at c1 ⊢
  by_cases hb : (vlayD w.v x).2 = 0
  ·have d : ((vlayD w.v x).2 != 0) = false := by simp [hb]
   rw [ew] at hs hok
   generalize vlayD w.v x = p at *
   (repeat' (first | refine goA ?_ | refine ARun.indexAddr rfl rfl (by omega) (by first | with_reducible exact get_map hp | with_reducible exact get_map hp) rfl rfl rfl rfl rfl (guardF_spec rfl) ?_ | refine cX c1 ?_ | refine goB ?_ | fail))
   refine ⟨(k + 1, _), ⟨⟨succI k, rfl, rfl, rfl, rfl, trivial⟩, ⟨rfl, rfl, ?_, trivial⟩, Nat.le_refl _⟩, ⟨hlt, by dsimp only; rw [hs]; exact hb, by dsimp only; rw [hs]; exact hok⟩, (by dsimp only; omega)⟩
   dsimp only
   rw [hs]
   rfl
  ·have d : ((vlayD w.v x).2 != 0) = true := by simp [hb]
   have hzz : outD (cellsK v l) v = (v, (vlayD w.v x).2) := by
    unfold cellsK
    rw [hz, cells_bad (by rw [ew]; exact hb), ew]
    exact if_neg hb
   rw [hzz]
   generalize vlayD w.v x = p at *
   (repeat' (first | refine goA ?_ | refine ARun.indexAddr rfl rfl (by omega) (by first | with_reducible exact get_map hp | with_reducible exact get_map hp) rfl rfl rfl rfl rfl (guardF_spec rfl) ?_ | refine cX c1 ?_ | refine goB ?_ | fail))
   exact awp_ret ⟨_, ResL.cons (ResA.agg rfl rfl rfl rfl rfl rfl rfl (RL.allClosed (encV_closed _))) (ResL.cons (ResA.tmp (.val _)) .nil), rfl⟩
 ·have hkk : k = l.length := by omega
  subst hkk
  have hc : decide (((l.length : Nat) : Int) < ((l.map encI).length : Nat)) = false := decide_eq_false (by omega)
  rw [List.take_length] at hA ⊢
  have hzz : outD (cellsK v l) v = ((l.foldl cellD (wk0 v)).v, 0) := if_pos hA
  rw [hzz]
  unfold encVE
  (repeat' (first | refine goA ?_ | refine goB ?_ | fail))
  exact awp_ret ⟨_, ResL.cons (ResA.agg rfl rfl rfl rfl rfl rfl rfl (RL.allClosed (encV_closed _))) (ResL.cons (ResA.tmp (.val _)) .nil), rfl⟩
end Go.Proofs.YthlbcakjngcjbaaGreat
