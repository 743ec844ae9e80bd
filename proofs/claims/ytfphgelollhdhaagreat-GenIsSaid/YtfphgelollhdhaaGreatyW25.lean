/- yB10, yB11, yB12, yB13, yB14. -/
import Derived.Test.YtfphgelollhdhaaGreatW1
import Derived.Test.YtfphgelollhdhaaGreatW2
import Derived.Test.YtfphgelollhdhaaGreatW3
import Derived.Test.YtfphgelollhdhaaGreatW4
import Derived.Test.YtfphgelollhdhaaGreatyW5
import Derived.Test.YtfphgelollhdhaaGreatyW6
import Derived.Test.YtfphgelollhdhaaGreatyW7
import Derived.Test.YtfphgelollhdhaaGreatyW8
import Derived.Test.YtfphgelollhdhaaGreatyW9
import Derived.Test.YtfphgelollhdhaaGreatyW10
import Derived.Test.YtfphgelollhdhaaGreatyW11
import Derived.Test.YtfphgelollhdhaaGreatyW12
import Derived.Test.YtfphgelollhdhaaGreatyW13
import Derived.Test.YtfphgelollhdhaaGreatyW14
import Derived.Test.YtfphgelollhdhaaGreatyW15
import Derived.Test.YtfphgelollhdhaaGreatyW16
import Derived.Test.YtfphgelollhdhaaGreatyW17
import Derived.Test.YtfphgelollhdhaaGreatyW18
import Derived.Test.YtfphgelollhdhaaGreatyW19
import Derived.Test.YtfphgelollhdhaaGreatyW20
import Derived.Test.YtfphgelollhdhaaGreatyW21
import Derived.Test.YtfphgelollhdhaaGreatyW22
import Derived.Test.YtfphgelollhdhaaGreatyW23
import Derived.Test.YtfphgelollhdhaaGreatyW24
set_option linter.unusedVariables false
set_option linter.unusedSimpArgs false
namespace Go.Proofs.YtfphgelollhdhaaGreat
open Go Go.RowKit
open Go.Proofs.YtfphgelollhdhaaGreat.Dict (St Bs bs_eq Wd encW encWs closed_ws findD encFd NameIn)
open Go.Proofs.YtfphgelollhdhaaGreat.Mem (Mm encM encBs closed_bs encP encP_closed closed_m storeD fetchD)
open Go.Proofs.YtfphgelollhdhaaGreat.Stk (encS closed_s encI_closed)
open Gen (Nod encD encD_closed encD_eq encTr closed_tr NC NC_closed)
set_option maxRecDepth 100000
theorem closed_nms (l : List Bs) : Closed (.sl 1 false (l.map encN)) := closed_map encN_closed
def encPl (v : V) (ws : List Bs) (p : Ps) : List AV := [.val (.int .i64 v.cf.mem), .val (.int .i64 v.cf.data), .val (.int .i64 v.cf.ret), .val (.int .i64 v.cf.words), .val (.int .i64 v.cf.out), encBs v.m.b, .sl 2 false (v.m.old.map encP), .val (.int .i64 v.here), encS v.d, encS v.r, encLFr v.f, encWs v.dict, .val (.int .i64 v.last), encBs v.out, encBs v.pb, .val (.bool v.po), encLRq v.req, .val (.int .i64 v.free), .val (.int .i64 v.next), .val (.int .i64 v.arg), .val (.int .i64 v.self), .val (.int .i64 v.now), encLHn v.hand, .sl 1 false (ws.map encN), .val (.int .i64 (p.at' : Nat)), .val (.int .i64 p.bad)]
theorem encPl_closed (v : V) (ws : List Bs) (p : Ps) : ∀ x, x ∈ encPl v ws p → Closed x := closedL_cons (.val _) (closedL_cons (.val _) (closedL_cons (.val _) (closedL_cons (.val _) (closedL_cons (.val _) (closedL_cons (closed_bs _) (closedL_cons (closed_map encP_closed) (closedL_cons (.val _) (closedL_cons (closed_s _) (closedL_cons (closed_s _) (closedL_cons (closedFr _) (closedL_cons (closed_ws _) (closedL_cons (.val _) (closedL_cons (closed_bs _) (closedL_cons (closed_bs _) (closedL_cons (.val _) (closedL_cons (closedRq _) (closedL_cons (.val _) (closedL_cons (.val _) (closedL_cons (.val _) (closedL_cons (.val _) (closedL_cons (.val _) (closedL_cons (closedHn _) (closedL_cons (closed_nms _) (closedL_cons (.val _) (closedL_cons (.val _) (closedL_nil))))))))))))))))))))))))))
structure VOk (v : V) : Prop where
 dict : v.dict = D0
 kd : ∀ x, x ∈ D0 → kindD v x.xt = (kdW x, 0)
 base : fetchD v.m 0 = (10, 0)
 mb : v.m.b.length ≤ 1000000
theorem d0_len : D0.length = 167 := by kernel_rfl
theorem d0_in : NameIn D0 := fun w hw => ⟨by have := (wd_at hw).nm; omega, (wd_at hw).fl⟩
theorem v1_ok : VOk v1 := by
 refine ⟨rfl, fun x hx => ?_, ?_, by rw [v1_fl.b, cellsC_len]; omega⟩
 ·have h := wd_at hx
  have h1 := h.lo
  have h2 := h.hi
  have h3 := h.al
  have e : x.xt = ((8 * (x.xt / 8).toNat : Nat) : Int) := by omega
  rw [e]
  refine kd_n (N := 512) (f := f0) v1_fl.b (by omega) (n := kdW x) rfl ?_
  rcases h.kd with h | h
  ·exact .inl h
  ·exact .inr (.inr h.1)
 ·exact ft_n (N := 512) (f := f0) v1_fl.b (k := 0) (by omega) (n := 10) (by kernel_rfl) (by omega)
attribute [local irreducible] Decidable.decide awp ARun regK toK
theorem pfail_l (v : V) (ws : List Bs) (p : Ps) (e : Int) : FnL Tryz.prog 30 [.ptr 1000 0 0 0, .val (.int .i64 e)] [(26, [encPl v ws p])] (.tup []) [[encPl v ws (failp p e)]] := by
 unfold failp
 by_cases h : p.bad = 0
 ·have d : (p.bad == 0) = true := beq_iff_eq.2 h
  rw [if_pos h]
  refine FnL.of_awp (T := tt) (ok := tok) Tryz.func30 (by kernel_rfl) rfl (by kernel_rfl) (by kernel_rfl) (fun w0 st0 lent c0 => ?_)
  dsimp only [frOf, hpFrom, List.length_cons, List.length_nil]
  (repeat' (first | refine goA ?_ | refine ARun.nilCheckP rfl rfl (guardF_spec rfl) ?_ | refine goB ?_ | fail))
  first
   | exact ⟨_, ResL.nil, rfl, ⟨_, rfl, RlR.closed (one_cl (encPl_closed v ws ⟨p.at', e⟩))⟩, trivial⟩
   | (refine awp_skip ?_; exact ⟨_, ResL.nil, rfl, ⟨_, rfl, RlR.closed (one_cl (encPl_closed v ws ⟨p.at', e⟩))⟩, trivial⟩)
 ·have d : (p.bad == 0) = false := beq_eq_false_iff_ne.2 h
  rw [if_neg h]
  refine FnL.of_awp (T := tt) (ok := tok) Tryz.func30 (by kernel_rfl) rfl (by kernel_rfl) (by kernel_rfl) (fun w0 st0 lent c0 => ?_)
  dsimp only [frOf, hpFrom, List.length_cons, List.length_nil]
  (repeat' (first | refine goA ?_ | refine ARun.nilCheckP rfl rfl (guardF_spec rfl) ?_ | refine goB ?_ | fail))
  first
   | exact ⟨_, ResL.nil, rfl, ⟨_, rfl, RlR.closed (one_cl (encPl_closed v ws p))⟩, trivial⟩
   | (refine awp_skip ?_; exact ⟨_, ResL.nil, rfl, ⟨_, rfl, RlR.closed (one_cl (encPl_closed v ws p))⟩, trivial⟩)
theorem in16_c (l : List Bs) (s : Bs) (hl : l.length ≤ 1000) : FnC Tryz.prog 29 [.sl 1 false (l.map encN), St s] (.val (.bool (pD (s ∈ l)))) := by
 refine goF Tryz.func29 (closedL_cons (closed_nms l) (closedL_cons (.val _) closedL_nil)) (fun w0 st0 => ?_)
 dsimp only [frOf]
 (repeat' (first | refine goA ?_ | refine goB ?_ | ((fail_if_success refine ARun.plain rfl ?_); refine ARun.fork rfl rfl rfl (fun h => ?_) (fun h => ?_)) | refine awp_cond rfl (fun h => ?_) (fun h => ?_)))
 refine awp_loopT (T := Nat × Nat) (fun t => ⟨[(5, .val (.int .i64 (t.1 : Nat))), (0, .sl 1 false (l.map encN)), (1, St s)], [], t.2⟩) (fun t => t.1 ≤ l.length ∧ ∀ x, x ∈ l.take t.1 → x ≠ s) (fun t => l.length - t.1) (0, _) ⟨Nat.zero_le _, fun x h => by cases h⟩ ⟨⟨rfl, rfl, rfl, trivial⟩, trivial, Nat.le_refl _⟩ (fun t ht => ?_)
 obtain ⟨i, gc⟩ := t
 obtain ⟨hi, hA⟩ := ht
 dsimp only at hi hA ⊢
 by_cases hlt : i < l.length
 ·have hp : l[i]? = some l[i] := List.getElem?_eq_getElem hlt
  have hc : decide (((i : Nat) : Int) < (((l.map encN).length : Nat) : Int)) = true := by simp; omega
  have hm : l[i] ∈ l := List.getElem_mem hlt
  generalize l[i] = a at hp hm
  by_cases h3 : a = s
  ·have d3 : ((ByteArray.mk a.toArray).toList == (ByteArray.mk s.toArray).toList) = true := by rw [bs_eq]; exact decide_eq_true h3
   rw [pD_yes (h3 ▸ hm)]
   (repeat' (first | refine goA ?_ | refine ARun.indexAddr rfl rfl (by omega) (by first | with_reducible exact get_map hp | with_reducible exact get_map hp) rfl rfl rfl rfl rfl (guardF_spec rfl) ?_ | refine goB ?_ | fail))
   exact awp_ret ⟨_, ResL.cons (ResA.tmp (.val _)) .nil, rfl⟩
  ·have d3 : ((ByteArray.mk a.toArray).toList == (ByteArray.mk s.toArray).toList) = false := by rw [bs_eq]; exact decide_eq_false h3
   (repeat' (first | refine goA ?_ | refine ARun.indexAddr rfl rfl (by omega) (by first | with_reducible exact get_map hp | with_reducible exact get_map hp) rfl rfl rfl rfl rfl (guardF_spec rfl) ?_ | refine goB ?_ | fail))
   refine ⟨(i + 1, _), ⟨⟨succI i, rfl, rfl, trivial⟩, trivial, Nat.le_refl _⟩, ⟨hlt, fun x hx => ?_⟩, (by dsimp only; omega)⟩
   rw [take_succ' hp] at hx
   rcases List.mem_append.1 hx with hx | hx
   ·exact hA x hx
   ·rw [List.mem_singleton.1 hx]; exact h3
 ·have hii : i = l.length := by omega
  subst hii
  have hc : decide (((l.length : Nat) : Int) < (((l.map encN).length : Nat) : Int)) = false := by simp
  rw [List.take_length] at hA
  rw [pD_no (fun h => hA s h rfl)]
  (repeat' (first | refine goA ?_ | refine goB ?_ | fail))
  exact awp_ret ⟨_, ResL.cons (ResA.tmp (.val _)) .nil, rfl⟩
theorem spec_c (k : Int) (hk : 0 ≤ k ∧ k ≤ 336) : FnC Tryz.prog 53 [.val (.int .i64 k)] (St (if 300 ≤ k then nameS k else [])) := by
 have c1 := ref_specials_c
 have e1 := len_spc
 have hlen : spcV.length = 37 := by rw [List.length_map] at e1; exact e1
 unfold nameS
 by_cases h : 300 ≤ k
 ·have hp : (spcV.map encN)[(k - 300).toNat]? = some (encN (spcV[(k - 300).toNat]?.getD [])) := by
   rw [List.getElem?_map, List.getElem?_eq_getElem (by omega)]
   rfl
  have d1 : decide ((300 : Int) ≤ k) = true := decide_eq_true h
  have d2 : decide (k < 300 + (((spcV.map encN).length : Nat) : Int)) = true := decide_eq_true (by omega)
  rw [if_pos h]
  generalize spcV[(k - 300).toNat]?.getD [] = nm at *
  generalize spcV.map encN = nn at *
  refine goF Tryz.func53 (closedL_cons (.val _) closedL_nil) (fun w0 st0 => ?_)
  dsimp only [frOf]
  (repeat' (first | refine goA ?_ | refine cX c1 ?_ | refine ARun.indexAddr rfl rfl (by omega) (by with_reducible exact hp) rfl rfl rfl rfl rfl (guardF_spec rfl) ?_ | refine goB ?_ | fail))
  exact awp_ret ⟨_, ResL.cons (ResA.tmp (.val _)) .nil, rfl⟩
 ·have d1 : decide ((300 : Int) ≤ k) = false := decide_eq_false h
  rw [if_neg h]
  generalize spcV.map encN = nn at *
  refine goF Tryz.func53 (closedL_cons (.val _) closedL_nil) (fun w0 st0 => ?_)
  dsimp only [frOf]
  (repeat' (first | refine goA ?_ | refine cX c1 ?_ | refine goB ?_ | fail))
  exact awp_ret ⟨_, ResL.cons (ResA.tmp (.val _)) .nil, rfl⟩
theorem base_c (v : V) (h : VOk v) : FnC Tryz.prog 43 [.agg (encV v)] (.val (.int .i64 10)) := by
 have c1 := Mem.ref_fetch_c v.m 0 h.mb
 rw [h.base] at c1
 refine goF Tryz.func43 (closedL_cons (closedV v) closedL_nil) (fun w0 st0 => ?_)
 dsimp only [frOf]
 (repeat' (first | refine goA ?_ | refine cX c1 ?_ | refine goB ?_ | fail))
 exact awp_ret ⟨_, ResL.cons (ResA.tmp (.val _)) .nil, rfl⟩
end Go.Proofs.YtfphgelollhdhaaGreat
namespace Go.Proofs.YtfphgelollhdhaaGreat
open Go Go.RowKit
open Go.Proofs.YtfphgelollhdhaaGreat.Dict (St Bs bs_eq Wd encW encWs closed_ws findD encFd NameIn)
open Go.Proofs.YtfphgelollhdhaaGreat.Mem (Mm encM encBs closed_bs encP encP_closed closed_m storeD fetchD)
open Go.Proofs.YtfphgelollhdhaaGreat.Stk (encS closed_s encI_closed)
open Gen (Nod encD encD_closed encD_eq encTr closed_tr NC NC_closed)
set_option maxRecDepth 100000
theorem failp_0 {p : Ps} (h : p.bad = 0) : failp p 0 = p := by
 unfold failp
 rw [if_pos h]
 cases p
 simp only at h
 rw [h]
theorem bin_mod2 {P : Program} {t : TypeId} {fl : Int} (h : 0 ≤ fl ∧ fl ≤ 7) : BinR P .rem t (.int .i64 fl) (.int .i64 2) (.int .i64 (fl % 2)) := by
 have h8 : fl = 0 ∨ fl = 1 ∨ fl = 2 ∨ fl = 3 ∨ fl = 4 ∨ fl = 5 ∨ fl = 6 ∨ fl = 7 := by omega
 rcases h8 with rfl | rfl | rfl | rfl | rfl | rfl | rfl | rfl <;> exact bin_wrap (fun w => rfl)
attribute [local irreducible] Decidable.decide awp ARun regK toK
set_option maxHeartbeats 4000000 in
theorem pword_num (v : V) (ws : List Bs) (p : Ps) (w : Bs) (loops : Int) (hv : VOk v) (hw : w.length ≤ 1000) (hne : w ≠ []) (hb : p.bad = 0) (hl : 0 ≤ loops ∧ loops ≤ 1000) (hf : (findD D0 w).2.2 = false) : FnL Tryz.prog 31 [.ptr 1000 0 0 0, St w, .val (.int .i64 loops)] [(26, [encPl v ws p])] (.tup [.agg (NC (wordP w loops p).1.1), St (wordP w loops p).1.2]) [[encPl v ws (wordP w loops p).2]] := by
 have c1 := Dict.ref_find_c v.dict w (by rw [hv.dict, d0_len]; omega) (by omega) (by rw [hv.dict]; exact d0_in)
 rw [show findD v.dict w = findD D0 w by rw [hv.dict]] at c1
 unfold encFd at c1
 rw [hf] at c1
 have c2 := base_c v hv
 have c3 := num_c w hw hne
 have e0 : wordP w loops p = ((.mk 1 (numD w).1 [] [], []), if (numD w).2 = true then p else failp p (-13)) := if_neg (by rw [hf]; decide)
 rw [e0]
 have nf : (!false) = true := rfl
 have nt : (!true) = false := rfl
 cases hn : (numD w).2 with
 | true =>
  rw [hn] at c3
  rw [if_pos rfl]
  generalize numD w = nd at *
  generalize findD D0 w = fd at *
  refine FnL.of_awp (T := tt) (ok := tok) Tryz.func31 (by kernel_rfl) rfl (by kernel_rfl) (by kernel_rfl) (fun w0 st0 lent c0 => ?_)
  dsimp only [frOf, hpFrom, List.length_cons, List.length_nil]
  (repeat' (first | refine goA ?_ | refine ARun.nilCheckP rfl rfl (guardF_spec rfl) ?_ | refine cX c1 ?_ | refine cX c2 ?_ | refine cX c3 ?_ | refine goB ?_ | fail))
  exact awp_ret ⟨_, ResL.cons (ResA.agg rfl rfl rfl rfl rfl rfl rfl resT) (ResL.cons (ResA.tmp (.val _)) .nil), rfl, ⟨_, rfl, RlR.closed (one_cl (encPl_closed v ws p))⟩, trivial⟩
 | false =>
  have c4 := pfail_l v ws p (-13)
  rw [hn] at c3
  rw [if_neg (by decide)]
  generalize failp p (-13) = q at *
  generalize numD w = nd at *
  generalize findD D0 w = fd at *
  refine FnL.of_awp (T := tt) (ok := tok) Tryz.func31 (by kernel_rfl) rfl (by kernel_rfl) (by kernel_rfl) (fun w0 st0 lent c0 => ?_)
  dsimp only [frOf, hpFrom, List.length_cons, List.length_nil]
  (repeat' (first | refine goA ?_ | refine ARun.nilCheckP rfl rfl (guardF_spec rfl) ?_ | refine cX c1 ?_ | refine cX c2 ?_ | refine cX c3 ?_ | refine callK 1000 0 26 (encPl v ws p) (encPl v ws q) (c4) (encPl_closed v ws _) (encPl_closed v ws _) (RelL.cons (.ptr (j := 0) 0 0 rfl) (RelL.cons (.wk (.same _) (.val _)) (RelL.nil _))) smT ?_ | refine goB ?_ | fail))
  exact awp_ret ⟨_, ResL.cons (ResA.agg rfl rfl rfl rfl rfl rfl rfl resT) (ResL.cons (ResA.tmp (.val _)) .nil), rfl, ⟨_, rfl, RlR.closed (one_cl (encPl_closed v ws q))⟩, trivial⟩
set_option maxHeartbeats 4000000 in
theorem pword_spec (v : V) (ws : List Bs) (p : Ps) (w : Bs) (loops : Int) (hv : VOk v) (hw : w.length ≤ 1000) (hne : w ≠ []) (hb : p.bad = 0) (hl : 0 ≤ loops ∧ loops ≤ 1000) (hf : (findD D0 w).2.2 = true) (hk : 300 ≤ kdW (findD D0 w).1) : FnL Tryz.prog 31 [.ptr 1000 0 0 0, St w, .val (.int .i64 loops)] [(26, [encPl v ws p])] (.tup [.agg (NC (wordP w loops p).1.1), St (wordP w loops p).1.2]) [[encPl v ws (wordP w loops p).2]] := by
 have c1 := Dict.ref_find_c v.dict w (by rw [hv.dict, d0_len]; omega) (by omega) (by rw [hv.dict]; exact d0_in)
 rw [show findD v.dict w = findD D0 w by rw [hv.dict]] at c1
 have hwd := wd_at (find_in hf)
 have hkd := hv.kd _ (find_in hf)
 unfold encFd at c1
 rw [hf] at c1
 have c2 := ref_kind_c v (findD D0 w).1.xt hv.mb
 rw [hkd] at c2
 have c3 := spec_c (kdW (findD D0 w).1) (by rcases hwd.kd with h | h <;> omega)
 have c4 := pfail_l v ws p 0
 rw [failp_0 hb] at c4
 have nt : (!true) = false := rfl
 have nf : (!false) = true := rfl
 have hnm : nameS (kdW (findD D0 w).1) ≠ [] := by
  rcases hwd.kd with h | h
  ·omega
  ·exact h.2.1
 rw [if_pos hk] at c3
 have e0 : wordP w loops p = ((zNod, nameS (kdW (findD D0 w).1)), p) := (if_pos hf).trans (if_pos hk)
 rw [e0]
 have d2 : ((ByteArray.mk (nameS (kdW (findD D0 w).1)).toArray).toList != (ByteArray.mk #[]).toList) = true := by rw [bne, bs_eq _ []]; exact congrArg (! ·) (decide_eq_false hnm)
 generalize nameS (kdW (findD D0 w).1) = nm at *
 generalize kdW (findD D0 w).1 = kk at *
 generalize findD D0 w = fd at *
 refine FnL.of_awp (T := tt) (ok := tok) Tryz.func31 (by kernel_rfl) rfl (by kernel_rfl) (by kernel_rfl) (fun w0 st0 lent c0 => ?_)
 dsimp only [frOf, hpFrom, List.length_cons, List.length_nil]
 (repeat' (first | refine goA ?_ | refine ARun.nilCheckP rfl rfl (guardF_spec rfl) ?_ | refine cX c1 ?_ | refine cX c2 ?_ | refine cX c3 ?_ | refine callK 1000 0 26 (encPl v ws p) (encPl v ws p) (c4) (encPl_closed v ws _) (encPl_closed v ws _) (RelL.cons (.ptr (j := 0) 0 0 rfl) (RelL.cons (.wk (.same _) (.val _)) (RelL.nil _))) smT ?_ | refine goB ?_ | fail))
 exact awp_ret ⟨_, ResL.cons (ResA.agg rfl rfl rfl rfl rfl rfl rfl resT) (ResL.cons (ResA.tmp (.val _)) .nil), rfl, ⟨_, rfl, RlR.closed (one_cl (encPl_closed v ws p))⟩, trivial⟩
set_option maxHeartbeats 4000000 in
theorem pword_a (v : V) (ws : List Bs) (p : Ps) (w : Bs) (loops : Int) (hv : VOk v) (hw : w.length ≤ 1000) (hne : w ≠ []) (hb : p.bad = 0) (hl : 0 ≤ loops ∧ loops ≤ 1000) (hf : (findD D0 w).2.2 = true) (hk : ¬ 300 ≤ kdW (findD D0 w).1) (h0 : (findD D0 w).1.fl % 2 = 1) : FnL Tryz.prog 31 [.ptr 1000 0 0 0, St w, .val (.int .i64 loops)] [(26, [encPl v ws p])] (.tup [.agg (NC (wordP w loops p).1.1), St (wordP w loops p).1.2]) [[encPl v ws (wordP w loops p).2]] := by
 have c1 := Dict.ref_find_c v.dict w (by rw [hv.dict, d0_len]; omega) (by omega) (by rw [hv.dict]; exact d0_in)
 rw [show findD v.dict w = findD D0 w by rw [hv.dict]] at c1
 have hwd := wd_at (find_in hf)
 have hkd := hv.kd _ (find_in hf)
 unfold encFd at c1
 rw [hf] at c1
 have c2 := ref_kind_c v (findD D0 w).1.xt hv.mb
 rw [hkd] at c2
 have c3 := spec_c (kdW (findD D0 w).1) (by rcases hwd.kd with h | h <;> omega)
 have c4 := pfail_l v ws p 0
 rw [failp_0 hb] at c4
 have nt : (!true) = false := rfl
 have nf : (!false) = true := rfl
 have hb2 := bin_mod2 (P := Tryz.prog) (t := 3) hwd.fl
 rw [if_neg hk] at c3
 have e0 : wordP w loops p = ((.mk 2 (findD D0 w).1.xt [] [], []), if oddF (findD D0 w).1 loops then failp p (-32) else p) := (if_pos hf).trans (if_neg hk)
 rw [e0, if_pos (by unfold oddF; omega)]
 have d2 : ((ByteArray.mk ([] : Bs).toArray).toList != (ByteArray.mk #[]).toList) = false := by rw [bne, bs_eq [] []]; exact congrArg (! ·) (decide_eq_true rfl)
 have d0 : ((findD D0 w).1.fl % 2 == 1) = true := beq_iff_eq.2 (by omega)
 have c5 := pfail_l v ws p (-32)
 generalize failp p (-32) = q at *
 generalize kdW (findD D0 w).1 = kk at *
 generalize findD D0 w = fd at *
 refine FnL.of_awp (T := tt) (ok := tok) Tryz.func31 (by kernel_rfl) rfl (by kernel_rfl) (by kernel_rfl) (fun w0 st0 lent c0 => ?_)
 dsimp only [frOf, hpFrom, List.length_cons, List.length_nil]
 (repeat' (first | refine ARun.bin rfl rfl hb2 rfl (guardF_spec rfl) ?_ | refine goA ?_ | refine ARun.nilCheckP rfl rfl (guardF_spec rfl) ?_ | refine cX c1 ?_ | refine cX c2 ?_ | refine cX c3 ?_ | refine callK 1000 0 26 (encPl v ws p) (encPl v ws p) (c4) (encPl_closed v ws _) (encPl_closed v ws _) (RelL.cons (.ptr (j := 0) 0 0 rfl) (RelL.cons (.wk (.same _) (.val _)) (RelL.nil _))) smT ?_ | refine callK 1000 0 26 (encPl v ws p) (encPl v ws q) (c5) (encPl_closed v ws _) (encPl_closed v ws _) (RelL.cons (.ptr (j := 0) 0 0 rfl) (RelL.cons (.wk (.same _) (.val _)) (RelL.nil _))) smT ?_ | refine goB ?_ | fail))
 exact awp_ret ⟨_, ResL.cons (ResA.agg rfl rfl rfl rfl rfl rfl rfl resT) (ResL.cons (ResA.tmp (.val _)) .nil), rfl, ⟨_, rfl, RlR.closed (one_cl (encPl_closed v ws q))⟩, trivial⟩
set_option maxHeartbeats 4000000 in
theorem pword_b (v : V) (ws : List Bs) (p : Ps) (w : Bs) (loops : Int) (hv : VOk v) (hw : w.length ≤ 1000) (hne : w ≠ []) (hb : p.bad = 0) (hl : 0 ≤ loops ∧ loops ≤ 1000) (hf : (findD D0 w).2.2 = true) (hk : ¬ 300 ≤ kdW (findD D0 w).1) (h0 : (findD D0 w).1.fl % 2 ≠ 1) (h1 : ¬ kdW (findD D0 w).1 < 23) : FnL Tryz.prog 31 [.ptr 1000 0 0 0, St w, .val (.int .i64 loops)] [(26, [encPl v ws p])] (.tup [.agg (NC (wordP w loops p).1.1), St (wordP w loops p).1.2]) [[encPl v ws (wordP w loops p).2]] := by
 have c1 := Dict.ref_find_c v.dict w (by rw [hv.dict, d0_len]; omega) (by omega) (by rw [hv.dict]; exact d0_in)
 rw [show findD v.dict w = findD D0 w by rw [hv.dict]] at c1
 have hwd := wd_at (find_in hf)
 have hkd := hv.kd _ (find_in hf)
 unfold encFd at c1
 rw [hf] at c1
 have c2 := ref_kind_c v (findD D0 w).1.xt hv.mb
 rw [hkd] at c2
 have c3 := spec_c (kdW (findD D0 w).1) (by rcases hwd.kd with h | h <;> omega)
 have c4 := pfail_l v ws p 0
 rw [failp_0 hb] at c4
 have nt : (!true) = false := rfl
 have nf : (!false) = true := rfl
 have hb2 := bin_mod2 (P := Tryz.prog) (t := 3) hwd.fl
 rw [if_neg hk] at c3
 have e0 : wordP w loops p = ((.mk 2 (findD D0 w).1.xt [] [], []), if oddF (findD D0 w).1 loops then failp p (-32) else p) := (if_pos hf).trans (if_neg hk)
 rw [e0, if_neg (by unfold oddF; omega)]
 have d2 : ((ByteArray.mk ([] : Bs).toArray).toList != (ByteArray.mk #[]).toList) = false := by rw [bne, bs_eq [] []]; exact congrArg (! ·) (decide_eq_true rfl)
 have d0 : ((findD D0 w).1.fl % 2 == 1) = false := beq_eq_false_iff_ne.2 (by omega)
 have d1 : decide (kdW (findD D0 w).1 < 23) = false := decide_eq_false (by omega)
 generalize kdW (findD D0 w).1 = kk at *
 generalize findD D0 w = fd at *
 refine FnL.of_awp (T := tt) (ok := tok) Tryz.func31 (by kernel_rfl) rfl (by kernel_rfl) (by kernel_rfl) (fun w0 st0 lent c0 => ?_)
 dsimp only [frOf, hpFrom, List.length_cons, List.length_nil]
 (repeat' (first | refine ARun.bin rfl rfl hb2 rfl (guardF_spec rfl) ?_ | refine goA ?_ | refine ARun.nilCheckP rfl rfl (guardF_spec rfl) ?_ | refine cX c1 ?_ | refine cX c2 ?_ | refine cX c3 ?_ | refine callK 1000 0 26 (encPl v ws p) (encPl v ws p) (c4) (encPl_closed v ws _) (encPl_closed v ws _) (RelL.cons (.ptr (j := 0) 0 0 rfl) (RelL.cons (.wk (.same _) (.val _)) (RelL.nil _))) smT ?_ | refine goB ?_ | fail))
 exact awp_ret ⟨_, ResL.cons (ResA.agg rfl rfl rfl rfl rfl rfl rfl resT) (ResL.cons (ResA.tmp (.val _)) .nil), rfl, ⟨_, rfl, RlR.closed (one_cl (encPl_closed v ws p))⟩, trivial⟩
set_option maxHeartbeats 4000000 in
theorem pword_c (v : V) (ws : List Bs) (p : Ps) (w : Bs) (loops : Int) (hv : VOk v) (hw : w.length ≤ 1000) (hne : w ≠ []) (hb : p.bad = 0) (hl : 0 ≤ loops ∧ loops ≤ 1000) (hf : (findD D0 w).2.2 = true) (hk : ¬ 300 ≤ kdW (findD D0 w).1) (h0 : (findD D0 w).1.fl % 2 ≠ 1) (h1 : kdW (findD D0 w).1 = 14) : FnL Tryz.prog 31 [.ptr 1000 0 0 0, St w, .val (.int .i64 loops)] [(26, [encPl v ws p])] (.tup [.agg (NC (wordP w loops p).1.1), St (wordP w loops p).1.2]) [[encPl v ws (wordP w loops p).2]] := by
 have c1 := Dict.ref_find_c v.dict w (by rw [hv.dict, d0_len]; omega) (by omega) (by rw [hv.dict]; exact d0_in)
 rw [show findD v.dict w = findD D0 w by rw [hv.dict]] at c1
 have hwd := wd_at (find_in hf)
 have hkd := hv.kd _ (find_in hf)
 unfold encFd at c1
 rw [hf] at c1
 have c2 := ref_kind_c v (findD D0 w).1.xt hv.mb
 rw [hkd] at c2
 have c3 := spec_c (kdW (findD D0 w).1) (by rcases hwd.kd with h | h <;> omega)
 have c4 := pfail_l v ws p 0
 rw [failp_0 hb] at c4
 have nt : (!true) = false := rfl
 have nf : (!false) = true := rfl
 have hb2 := bin_mod2 (P := Tryz.prog) (t := 3) hwd.fl
 rw [if_neg hk] at c3
 have e0 : wordP w loops p = ((.mk 2 (findD D0 w).1.xt [] [], []), if oddF (findD D0 w).1 loops then failp p (-32) else p) := (if_pos hf).trans (if_neg hk)
 rw [e0, if_neg (by unfold oddF; omega)]
 have d2 : ((ByteArray.mk ([] : Bs).toArray).toList != (ByteArray.mk #[]).toList) = false := by rw [bne, bs_eq [] []]; exact congrArg (! ·) (decide_eq_true rfl)
 have d0 : ((findD D0 w).1.fl % 2 == 1) = false := beq_eq_false_iff_ne.2 (by omega)
 have d1 : decide (kdW (findD D0 w).1 < 23) = true := decide_eq_true (by omega)
 have d3 : (kdW (findD D0 w).1 != 14) = false := bne_eq_false_iff_eq.2 (by omega)
 generalize kdW (findD D0 w).1 = kk at *
 generalize findD D0 w = fd at *
 refine FnL.of_awp (T := tt) (ok := tok) Tryz.func31 (by kernel_rfl) rfl (by kernel_rfl) (by kernel_rfl) (fun w0 st0 lent c0 => ?_)
 dsimp only [frOf, hpFrom, List.length_cons, List.length_nil]
 (repeat' (first | refine ARun.bin rfl rfl hb2 rfl (guardF_spec rfl) ?_ | refine goA ?_ | refine ARun.nilCheckP rfl rfl (guardF_spec rfl) ?_ | refine cX c1 ?_ | refine cX c2 ?_ | refine cX c3 ?_ | refine callK 1000 0 26 (encPl v ws p) (encPl v ws p) (c4) (encPl_closed v ws _) (encPl_closed v ws _) (RelL.cons (.ptr (j := 0) 0 0 rfl) (RelL.cons (.wk (.same _) (.val _)) (RelL.nil _))) smT ?_ | refine goB ?_ | fail))
 exact awp_ret ⟨_, ResL.cons (ResA.agg rfl rfl rfl rfl rfl rfl rfl resT) (ResL.cons (ResA.tmp (.val _)) .nil), rfl, ⟨_, rfl, RlR.closed (one_cl (encPl_closed v ws p))⟩, trivial⟩
set_option maxHeartbeats 4000000 in
theorem pword_d (v : V) (ws : List Bs) (p : Ps) (w : Bs) (loops : Int) (hv : VOk v) (hw : w.length ≤ 1000) (hne : w ≠ []) (hb : p.bad = 0) (hl : 0 ≤ loops ∧ loops ≤ 1000) (hf : (findD D0 w).2.2 = true) (hk : ¬ 300 ≤ kdW (findD D0 w).1) (h0 : (findD D0 w).1.fl % 2 ≠ 1) (h1 : kdW (findD D0 w).1 = 15) (h2 : 1 ≤ loops) : FnL Tryz.prog 31 [.ptr 1000 0 0 0, St w, .val (.int .i64 loops)] [(26, [encPl v ws p])] (.tup [.agg (NC (wordP w loops p).1.1), St (wordP w loops p).1.2]) [[encPl v ws (wordP w loops p).2]] := by
 have c1 := Dict.ref_find_c v.dict w (by rw [hv.dict, d0_len]; omega) (by omega) (by rw [hv.dict]; exact d0_in)
 rw [show findD v.dict w = findD D0 w by rw [hv.dict]] at c1
 have hwd := wd_at (find_in hf)
 have hkd := hv.kd _ (find_in hf)
 unfold encFd at c1
 rw [hf] at c1
 have c2 := ref_kind_c v (findD D0 w).1.xt hv.mb
 rw [hkd] at c2
 have c3 := spec_c (kdW (findD D0 w).1) (by rcases hwd.kd with h | h <;> omega)
 have c4 := pfail_l v ws p 0
 rw [failp_0 hb] at c4
 have nt : (!true) = false := rfl
 have nf : (!false) = true := rfl
 have hb2 := bin_mod2 (P := Tryz.prog) (t := 3) hwd.fl
 rw [if_neg hk] at c3
 have e0 : wordP w loops p = ((.mk 2 (findD D0 w).1.xt [] [], []), if oddF (findD D0 w).1 loops then failp p (-32) else p) := (if_pos hf).trans (if_neg hk)
 rw [e0, if_neg (by unfold oddF; omega)]
 have d2 : ((ByteArray.mk ([] : Bs).toArray).toList != (ByteArray.mk #[]).toList) = false := by rw [bne, bs_eq [] []]; exact congrArg (! ·) (decide_eq_true rfl)
 have d0 : ((findD D0 w).1.fl % 2 == 1) = false := beq_eq_false_iff_ne.2 (by omega)
 have d1 : decide (kdW (findD D0 w).1 < 23) = true := decide_eq_true (by omega)
 have d3 : (kdW (findD D0 w).1 != 14) = true := bne_iff_ne.2 (by omega)
 have d4 : (kdW (findD D0 w).1 == 15) = true := beq_iff_eq.2 (by omega)
 have d5 : decide (1 ≤ loops) = true := decide_eq_true (by omega)
 have n5 : (!decide (1 ≤ loops)) = false := by rw [d5]; rfl
 generalize kdW (findD D0 w).1 = kk at *
 generalize findD D0 w = fd at *
 refine FnL.of_awp (T := tt) (ok := tok) Tryz.func31 (by kernel_rfl) rfl (by kernel_rfl) (by kernel_rfl) (fun w0 st0 lent c0 => ?_)
 dsimp only [frOf, hpFrom, List.length_cons, List.length_nil]
 (repeat' (first | refine ARun.bin rfl rfl hb2 rfl (guardF_spec rfl) ?_ | refine goA ?_ | refine ARun.nilCheckP rfl rfl (guardF_spec rfl) ?_ | refine cX c1 ?_ | refine cX c2 ?_ | refine cX c3 ?_ | refine callK 1000 0 26 (encPl v ws p) (encPl v ws p) (c4) (encPl_closed v ws _) (encPl_closed v ws _) (RelL.cons (.ptr (j := 0) 0 0 rfl) (RelL.cons (.wk (.same _) (.val _)) (RelL.nil _))) smT ?_ | refine goB ?_ | fail))
 exact awp_ret ⟨_, ResL.cons (ResA.agg rfl rfl rfl rfl rfl rfl rfl resT) (ResL.cons (ResA.tmp (.val _)) .nil), rfl, ⟨_, rfl, RlR.closed (one_cl (encPl_closed v ws p))⟩, trivial⟩
set_option maxHeartbeats 4000000 in
theorem pword_e (v : V) (ws : List Bs) (p : Ps) (w : Bs) (loops : Int) (hv : VOk v) (hw : w.length ≤ 1000) (hne : w ≠ []) (hb : p.bad = 0) (hl : 0 ≤ loops ∧ loops ≤ 1000) (hf : (findD D0 w).2.2 = true) (hk : ¬ 300 ≤ kdW (findD D0 w).1) (h0 : (findD D0 w).1.fl % 2 ≠ 1) (h1 : kdW (findD D0 w).1 = 15) (h2 : ¬ 1 ≤ loops) : FnL Tryz.prog 31 [.ptr 1000 0 0 0, St w, .val (.int .i64 loops)] [(26, [encPl v ws p])] (.tup [.agg (NC (wordP w loops p).1.1), St (wordP w loops p).1.2]) [[encPl v ws (wordP w loops p).2]] := by
 have c1 := Dict.ref_find_c v.dict w (by rw [hv.dict, d0_len]; omega) (by omega) (by rw [hv.dict]; exact d0_in)
 rw [show findD v.dict w = findD D0 w by rw [hv.dict]] at c1
 have hwd := wd_at (find_in hf)
 have hkd := hv.kd _ (find_in hf)
 unfold encFd at c1
 rw [hf] at c1
 have c2 := ref_kind_c v (findD D0 w).1.xt hv.mb
 rw [hkd] at c2
 have c3 := spec_c (kdW (findD D0 w).1) (by rcases hwd.kd with h | h <;> omega)
 have c4 := pfail_l v ws p 0
 rw [failp_0 hb] at c4
 have nt : (!true) = false := rfl
 have nf : (!false) = true := rfl
 have hb2 := bin_mod2 (P := Tryz.prog) (t := 3) hwd.fl
 rw [if_neg hk] at c3
 have e0 : wordP w loops p = ((.mk 2 (findD D0 w).1.xt [] [], []), if oddF (findD D0 w).1 loops then failp p (-32) else p) := (if_pos hf).trans (if_neg hk)
 rw [e0, if_pos (by unfold oddF; omega)]
 have d2 : ((ByteArray.mk ([] : Bs).toArray).toList != (ByteArray.mk #[]).toList) = false := by rw [bne, bs_eq [] []]; exact congrArg (! ·) (decide_eq_true rfl)
 have d0 : ((findD D0 w).1.fl % 2 == 1) = false := beq_eq_false_iff_ne.2 (by omega)
 have d1 : decide (kdW (findD D0 w).1 < 23) = true := decide_eq_true (by omega)
 have d3 : (kdW (findD D0 w).1 != 14) = true := bne_iff_ne.2 (by omega)
 have d4 : (kdW (findD D0 w).1 == 15) = true := beq_iff_eq.2 (by omega)
 have d5 : decide (1 ≤ loops) = false := decide_eq_false (by omega)
 have n5 : (!decide (1 ≤ loops)) = true := by rw [d5]; rfl
 have d6 : (kdW (findD D0 w).1 == 16) = false := beq_eq_false_iff_ne.2 (by omega)
 have c5 := pfail_l v ws p (-32)
 generalize failp p (-32) = q at *
 generalize kdW (findD D0 w).1 = kk at *
 generalize findD D0 w = fd at *
 refine FnL.of_awp (T := tt) (ok := tok) Tryz.func31 (by kernel_rfl) rfl (by kernel_rfl) (by kernel_rfl) (fun w0 st0 lent c0 => ?_)
 dsimp only [frOf, hpFrom, List.length_cons, List.length_nil]
 (repeat' (first | refine ARun.bin rfl rfl hb2 rfl (guardF_spec rfl) ?_ | refine goA ?_ | refine ARun.nilCheckP rfl rfl (guardF_spec rfl) ?_ | refine cX c1 ?_ | refine cX c2 ?_ | refine cX c3 ?_ | refine callK 1000 0 26 (encPl v ws p) (encPl v ws p) (c4) (encPl_closed v ws _) (encPl_closed v ws _) (RelL.cons (.ptr (j := 0) 0 0 rfl) (RelL.cons (.wk (.same _) (.val _)) (RelL.nil _))) smT ?_ | refine callK 1000 0 26 (encPl v ws p) (encPl v ws q) (c5) (encPl_closed v ws _) (encPl_closed v ws _) (RelL.cons (.ptr (j := 0) 0 0 rfl) (RelL.cons (.wk (.same _) (.val _)) (RelL.nil _))) smT ?_ | refine goB ?_ | fail))
 exact awp_ret ⟨_, ResL.cons (ResA.agg rfl rfl rfl rfl rfl rfl rfl resT) (ResL.cons (ResA.tmp (.val _)) .nil), rfl, ⟨_, rfl, RlR.closed (one_cl (encPl_closed v ws q))⟩, trivial⟩
set_option maxHeartbeats 4000000 in
theorem pword_f (v : V) (ws : List Bs) (p : Ps) (w : Bs) (loops : Int) (hv : VOk v) (hw : w.length ≤ 1000) (hne : w ≠ []) (hb : p.bad = 0) (hl : 0 ≤ loops ∧ loops ≤ 1000) (hf : (findD D0 w).2.2 = true) (hk : ¬ 300 ≤ kdW (findD D0 w).1) (h0 : (findD D0 w).1.fl % 2 ≠ 1) (h1 : kdW (findD D0 w).1 = 16) (h2 : 2 ≤ loops) : FnL Tryz.prog 31 [.ptr 1000 0 0 0, St w, .val (.int .i64 loops)] [(26, [encPl v ws p])] (.tup [.agg (NC (wordP w loops p).1.1), St (wordP w loops p).1.2]) [[encPl v ws (wordP w loops p).2]] := by
 have c1 := Dict.ref_find_c v.dict w (by rw [hv.dict, d0_len]; omega) (by omega) (by rw [hv.dict]; exact d0_in)
 rw [show findD v.dict w = findD D0 w by rw [hv.dict]] at c1
 have hwd := wd_at (find_in hf)
 have hkd := hv.kd _ (find_in hf)
 unfold encFd at c1
 rw [hf] at c1
 have c2 := ref_kind_c v (findD D0 w).1.xt hv.mb
 rw [hkd] at c2
 have c3 := spec_c (kdW (findD D0 w).1) (by rcases hwd.kd with h | h <;> omega)
 have c4 := pfail_l v ws p 0
 rw [failp_0 hb] at c4
 have nt : (!true) = false := rfl
 have nf : (!false) = true := rfl
 have hb2 := bin_mod2 (P := Tryz.prog) (t := 3) hwd.fl
 rw [if_neg hk] at c3
 have e0 : wordP w loops p = ((.mk 2 (findD D0 w).1.xt [] [], []), if oddF (findD D0 w).1 loops then failp p (-32) else p) := (if_pos hf).trans (if_neg hk)
 rw [e0, if_neg (by unfold oddF; omega)]
 have d2 : ((ByteArray.mk ([] : Bs).toArray).toList != (ByteArray.mk #[]).toList) = false := by rw [bne, bs_eq [] []]; exact congrArg (! ·) (decide_eq_true rfl)
 have d0 : ((findD D0 w).1.fl % 2 == 1) = false := beq_eq_false_iff_ne.2 (by omega)
 have d1 : decide (kdW (findD D0 w).1 < 23) = true := decide_eq_true (by omega)
 have d3 : (kdW (findD D0 w).1 != 14) = true := bne_iff_ne.2 (by omega)
 have d4 : (kdW (findD D0 w).1 == 15) = false := beq_eq_false_iff_ne.2 (by omega)
 have d6 : (kdW (findD D0 w).1 == 16) = true := beq_iff_eq.2 (by omega)
 have d7 : decide (2 ≤ loops) = true := decide_eq_true (by omega)
 have n7 : (!decide (2 ≤ loops)) = false := by rw [d7]; rfl
 generalize kdW (findD D0 w).1 = kk at *
 generalize findD D0 w = fd at *
 refine FnL.of_awp (T := tt) (ok := tok) Tryz.func31 (by kernel_rfl) rfl (by kernel_rfl) (by kernel_rfl) (fun w0 st0 lent c0 => ?_)
 dsimp only [frOf, hpFrom, List.length_cons, List.length_nil]
 (repeat' (first | refine ARun.bin rfl rfl hb2 rfl (guardF_spec rfl) ?_ | refine goA ?_ | refine ARun.nilCheckP rfl rfl (guardF_spec rfl) ?_ | refine cX c1 ?_ | refine cX c2 ?_ | refine cX c3 ?_ | refine callK 1000 0 26 (encPl v ws p) (encPl v ws p) (c4) (encPl_closed v ws _) (encPl_closed v ws _) (RelL.cons (.ptr (j := 0) 0 0 rfl) (RelL.cons (.wk (.same _) (.val _)) (RelL.nil _))) smT ?_ | refine goB ?_ | fail))
 exact awp_ret ⟨_, ResL.cons (ResA.agg rfl rfl rfl rfl rfl rfl rfl resT) (ResL.cons (ResA.tmp (.val _)) .nil), rfl, ⟨_, rfl, RlR.closed (one_cl (encPl_closed v ws p))⟩, trivial⟩
set_option maxHeartbeats 4000000 in
theorem pword_g (v : V) (ws : List Bs) (p : Ps) (w : Bs) (loops : Int) (hv : VOk v) (hw : w.length ≤ 1000) (hne : w ≠ []) (hb : p.bad = 0) (hl : 0 ≤ loops ∧ loops ≤ 1000) (hf : (findD D0 w).2.2 = true) (hk : ¬ 300 ≤ kdW (findD D0 w).1) (h0 : (findD D0 w).1.fl % 2 ≠ 1) (h1 : kdW (findD D0 w).1 = 16) (h2 : ¬ 2 ≤ loops) : FnL Tryz.prog 31 [.ptr 1000 0 0 0, St w, .val (.int .i64 loops)] [(26, [encPl v ws p])] (.tup [.agg (NC (wordP w loops p).1.1), St (wordP w loops p).1.2]) [[encPl v ws (wordP w loops p).2]] := by
 have c1 := Dict.ref_find_c v.dict w (by rw [hv.dict, d0_len]; omega) (by omega) (by rw [hv.dict]; exact d0_in)
 rw [show findD v.dict w = findD D0 w by rw [hv.dict]] at c1
 have hwd := wd_at (find_in hf)
 have hkd := hv.kd _ (find_in hf)
 unfold encFd at c1
 rw [hf] at c1
 have c2 := ref_kind_c v (findD D0 w).1.xt hv.mb
 rw [hkd] at c2
 have c3 := spec_c (kdW (findD D0 w).1) (by rcases hwd.kd with h | h <;> omega)
 have c4 := pfail_l v ws p 0
 rw [failp_0 hb] at c4
 have nt : (!true) = false := rfl
 have nf : (!false) = true := rfl
 have hb2 := bin_mod2 (P := Tryz.prog) (t := 3) hwd.fl
 rw [if_neg hk] at c3
 have e0 : wordP w loops p = ((.mk 2 (findD D0 w).1.xt [] [], []), if oddF (findD D0 w).1 loops then failp p (-32) else p) := (if_pos hf).trans (if_neg hk)
 rw [e0, if_pos (by unfold oddF; omega)]
 have d2 : ((ByteArray.mk ([] : Bs).toArray).toList != (ByteArray.mk #[]).toList) = false := by rw [bne, bs_eq [] []]; exact congrArg (! ·) (decide_eq_true rfl)
 have d0 : ((findD D0 w).1.fl % 2 == 1) = false := beq_eq_false_iff_ne.2 (by omega)
 have d1 : decide (kdW (findD D0 w).1 < 23) = true := decide_eq_true (by omega)
 have d3 : (kdW (findD D0 w).1 != 14) = true := bne_iff_ne.2 (by omega)
 have d4 : (kdW (findD D0 w).1 == 15) = false := beq_eq_false_iff_ne.2 (by omega)
 have d6 : (kdW (findD D0 w).1 == 16) = true := beq_iff_eq.2 (by omega)
 have d7 : decide (2 ≤ loops) = false := decide_eq_false (by omega)
 have n7 : (!decide (2 ≤ loops)) = true := by rw [d7]; rfl
 have c5 := pfail_l v ws p (-32)
 generalize failp p (-32) = q at *
 generalize kdW (findD D0 w).1 = kk at *
 generalize findD D0 w = fd at *
 refine FnL.of_awp (T := tt) (ok := tok) Tryz.func31 (by kernel_rfl) rfl (by kernel_rfl) (by kernel_rfl) (fun w0 st0 lent c0 => ?_)
 dsimp only [frOf, hpFrom, List.length_cons, List.length_nil]
 (repeat' (first | refine ARun.bin rfl rfl hb2 rfl (guardF_spec rfl) ?_ | refine goA ?_ | refine ARun.nilCheckP rfl rfl (guardF_spec rfl) ?_ | refine cX c1 ?_ | refine cX c2 ?_ | refine cX c3 ?_ | refine callK 1000 0 26 (encPl v ws p) (encPl v ws p) (c4) (encPl_closed v ws _) (encPl_closed v ws _) (RelL.cons (.ptr (j := 0) 0 0 rfl) (RelL.cons (.wk (.same _) (.val _)) (RelL.nil _))) smT ?_ | refine callK 1000 0 26 (encPl v ws p) (encPl v ws q) (c5) (encPl_closed v ws _) (encPl_closed v ws _) (RelL.cons (.ptr (j := 0) 0 0 rfl) (RelL.cons (.wk (.same _) (.val _)) (RelL.nil _))) smT ?_ | refine goB ?_ | fail))
 exact awp_ret ⟨_, ResL.cons (ResA.agg rfl rfl rfl rfl rfl rfl rfl resT) (ResL.cons (ResA.tmp (.val _)) .nil), rfl, ⟨_, rfl, RlR.closed (one_cl (encPl_closed v ws q))⟩, trivial⟩
set_option maxHeartbeats 4000000 in
theorem pword_h (v : V) (ws : List Bs) (p : Ps) (w : Bs) (loops : Int) (hv : VOk v) (hw : w.length ≤ 1000) (hne : w ≠ []) (hb : p.bad = 0) (hl : 0 ≤ loops ∧ loops ≤ 1000) (hf : (findD D0 w).2.2 = true) (hk : ¬ 300 ≤ kdW (findD D0 w).1) (h0 : (findD D0 w).1.fl % 2 ≠ 1) (h1 : kdW (findD D0 w).1 < 23 ∧ kdW (findD D0 w).1 ≠ 14 ∧ kdW (findD D0 w).1 ≠ 15 ∧ kdW (findD D0 w).1 ≠ 16) : FnL Tryz.prog 31 [.ptr 1000 0 0 0, St w, .val (.int .i64 loops)] [(26, [encPl v ws p])] (.tup [.agg (NC (wordP w loops p).1.1), St (wordP w loops p).1.2]) [[encPl v ws (wordP w loops p).2]] := by
 have c1 := Dict.ref_find_c v.dict w (by rw [hv.dict, d0_len]; omega) (by omega) (by rw [hv.dict]; exact d0_in)
 rw [show findD v.dict w = findD D0 w by rw [hv.dict]] at c1
 have hwd := wd_at (find_in hf)
 have hkd := hv.kd _ (find_in hf)
 unfold encFd at c1
 rw [hf] at c1
 have c2 := ref_kind_c v (findD D0 w).1.xt hv.mb
 rw [hkd] at c2
 have c3 := spec_c (kdW (findD D0 w).1) (by rcases hwd.kd with h | h <;> omega)
 have c4 := pfail_l v ws p 0
 rw [failp_0 hb] at c4
 have nt : (!true) = false := rfl
 have nf : (!false) = true := rfl
 have hb2 := bin_mod2 (P := Tryz.prog) (t := 3) hwd.fl
 rw [if_neg hk] at c3
 have e0 : wordP w loops p = ((.mk 2 (findD D0 w).1.xt [] [], []), if oddF (findD D0 w).1 loops then failp p (-32) else p) := (if_pos hf).trans (if_neg hk)
 rw [e0, if_pos (by unfold oddF; omega)]
 have d2 : ((ByteArray.mk ([] : Bs).toArray).toList != (ByteArray.mk #[]).toList) = false := by rw [bne, bs_eq [] []]; exact congrArg (! ·) (decide_eq_true rfl)
 have d0 : ((findD D0 w).1.fl % 2 == 1) = false := beq_eq_false_iff_ne.2 (by omega)
 have d1 : decide (kdW (findD D0 w).1 < 23) = true := decide_eq_true (by omega)
 have d3 : (kdW (findD D0 w).1 != 14) = true := bne_iff_ne.2 (by omega)
 have d4 : (kdW (findD D0 w).1 == 15) = false := beq_eq_false_iff_ne.2 (by omega)
 have d6 : (kdW (findD D0 w).1 == 16) = false := beq_eq_false_iff_ne.2 (by omega)
 have c5 := pfail_l v ws p (-32)
 generalize failp p (-32) = q at *
 generalize kdW (findD D0 w).1 = kk at *
 generalize findD D0 w = fd at *
 refine FnL.of_awp (T := tt) (ok := tok) Tryz.func31 (by kernel_rfl) rfl (by kernel_rfl) (by kernel_rfl) (fun w0 st0 lent c0 => ?_)
 dsimp only [frOf, hpFrom, List.length_cons, List.length_nil]
 (repeat' (first | refine ARun.bin rfl rfl hb2 rfl (guardF_spec rfl) ?_ | refine goA ?_ | refine ARun.nilCheckP rfl rfl (guardF_spec rfl) ?_ | refine cX c1 ?_ | refine cX c2 ?_ | refine cX c3 ?_ | refine callK 1000 0 26 (encPl v ws p) (encPl v ws p) (c4) (encPl_closed v ws _) (encPl_closed v ws _) (RelL.cons (.ptr (j := 0) 0 0 rfl) (RelL.cons (.wk (.same _) (.val _)) (RelL.nil _))) smT ?_ | refine callK 1000 0 26 (encPl v ws p) (encPl v ws q) (c5) (encPl_closed v ws _) (encPl_closed v ws _) (RelL.cons (.ptr (j := 0) 0 0 rfl) (RelL.cons (.wk (.same _) (.val _)) (RelL.nil _))) smT ?_ | refine goB ?_ | fail))
 exact awp_ret ⟨_, ResL.cons (ResA.agg rfl rfl rfl rfl rfl rfl rfl resT) (ResL.cons (ResA.tmp (.val _)) .nil), rfl, ⟨_, rfl, RlR.closed (one_cl (encPl_closed v ws q))⟩, trivial⟩
theorem pword_l (v : V) (ws : List Bs) (p : Ps) (w : Bs) (loops : Int) (hv : VOk v) (hw : w.length ≤ 1000) (hne : w ≠ []) (hb : p.bad = 0) (hl : 0 ≤ loops ∧ loops ≤ 1000) : FnL Tryz.prog 31 [.ptr 1000 0 0 0, St w, .val (.int .i64 loops)] [(26, [encPl v ws p])] (.tup [.agg (NC (wordP w loops p).1.1), St (wordP w loops p).1.2]) [[encPl v ws (wordP w loops p).2]] := by
 cases hf : (findD D0 w).2.2 with
 | false => exact pword_num v ws p w loops hv hw hne hb hl hf
 | true =>
  by_cases hk : 300 ≤ kdW (findD D0 w).1
  ·exact pword_spec v ws p w loops hv hw hne hb hl hf hk
  by_cases h0 : (findD D0 w).1.fl % 2 = 1
  ·exact pword_a v ws p w loops hv hw hne hb hl hf hk h0
  by_cases h1 : kdW (findD D0 w).1 < 23
  case neg => exact pword_b v ws p w loops hv hw hne hb hl hf hk h0 h1
  by_cases h14 : kdW (findD D0 w).1 = 14
  ·exact pword_c v ws p w loops hv hw hne hb hl hf hk h0 h14
  by_cases h15 : kdW (findD D0 w).1 = 15
  ·by_cases h2 : 1 ≤ loops
   ·exact pword_d v ws p w loops hv hw hne hb hl hf hk h0 h15 h2
   ·exact pword_e v ws p w loops hv hw hne hb hl hf hk h0 h15 h2
  by_cases h16 : kdW (findD D0 w).1 = 16
  ·by_cases h2 : 2 ≤ loops
   ·exact pword_f v ws p w loops hv hw hne hb hl hf hk h0 h16 h2
   ·exact pword_g v ws p w loops hv hw hne hb hl hf hk h0 h16 h2
  exact pword_h v ws p w loops hv hw hne hb hl hf hk h0 ⟨h1, h14, h15, h16⟩
end Go.Proofs.YtfphgelollhdhaaGreat
namespace Go.Proofs.YtfphgelollhdhaaGreat
open Go Go.RowKit
open Go.Proofs.YtfphgelollhdhaaGreat.Dict (St Bs bs_eq Wd encW encWs closed_ws findD encFd NameIn)
open Go.Proofs.YtfphgelollhdhaaGreat.Mem (Mm encM encBs closed_bs encP encP_closed closed_m storeD fetchD)
open Go.Proofs.YtfphgelollhdhaaGreat.Stk (encS closed_s encI_closed)
open Gen (Nod encD encD_closed encD_eq encTr closed_tr NC NC_closed)
set_option maxRecDepth 100000
theorem behindP_hi {ws : List Bs} {p : Ps} (h : p.at' ≤ ws.length) : (behindP ws p).2.at' ≤ ws.length := by
 unfold behindP
 cases hw : ws[p.at']? with
 | none => dsimp only; rw [failp_at]; exact h
 | some w =>
  have := (List.getElem?_eq_some_iff.1 hw).1
  dsimp only
  split
  ·rw [failp_at]; exact h
  ·show p.at' + 1 ≤ _; omega
def HiR (L : Nat) (R : RowF) : Prop := ∀ e o l p, p.at' ≤ L → (R e o l p).2.at' ≤ L
theorem brP_hi {L : Nat} {R : RowF} (h : HiR L R) (name : Bs) (op loops : Int) (p : Ps) (hp : p.at' ≤ L) : (brP R name op loops p).2.at' ≤ L := by
 unfold brP ifP beginP doP
 split
 ·split
  ·exact h _ _ _ _ (h _ _ _ _ hp)
  ·exact h _ _ _ _ hp
 ·split
  ·split
   ·exact h _ _ _ _ hp
   ·split
    ·exact h _ _ _ _ hp
    ·exact h _ _ _ _ (h _ _ _ _ hp)
  ·exact h _ _ _ _ hp
theorem partP_hi (ws : List Bs) {R : RowF} (h : HiR ws.length R) (name : Bs) (op loops : Int) (p : Ps) (hp : p.at' ≤ ws.length) : (partP ws R name op loops p).2.at' ≤ ws.length := by
 unfold partP
 split
 ·dsimp only; split
  ·rw [failp_at]; exact hp
  ·exact hp
 split
 ·dsimp only; split
  ·rw [failp_at]; exact hp
  ·exact hp
 split
 ·exact hp
 split
 ·split
  ·exact behindP_hi hp
  ·exact behindP_hi hp
 split
 ·dsimp only; split
  ·exact behindP_hi hp
  ·rw [failp_at]; exact behindP_hi hp
 split
 ·split
  ·rw [failp_at]; exact hp
  ·exact brP_hi h _ _ _ _ hp
 split
 ·rw [failp_at]; exact hp
 ·rw [failp_at]; exact hp
theorem rowP_hi (ws : List Bs) : ∀ (n : Nat) (ends : List Bs) (op loops : Int) (p : Ps) (acc : List Nod), p.at' ≤ ws.length → (rowP ws n ends op loops p acc).2.at' ≤ ws.length
 | 0, _, _, _, p, _, hp => hp
 | n + 1, ends, op, loops, p, acc, hp => by
  have hm : HiR ws.length (fun e o l q => rowP ws n e o l q []) := fun e o l q => rowP_hi ws n e o l q []
  rw [rowP]
  split
  ·exact hp
  ·cases hw : ws[p.at']? with
   | none =>
    dsimp only; split
    ·exact hp
    ·rw [failp_at]; exact hp
   | some w =>
    have hlt := (List.getElem?_eq_some_iff.1 hw).1
    have hq : (wordP w loops ⟨p.at' + 1, p.bad⟩).2.at' ≤ ws.length := by rw [wordP_at]; exact hlt
    dsimp only
    split
    ·exact hq
    split
    ·exact rowP_hi ws n ends op loops _ _ hq
    split
    ·exact hq
    ·exact rowP_hi ws n ends op loops _ _ (partP_hi ws hm _ _ _ _ hq)
def RowC (v : V) (ws : List Bs) (R : RowF) (n : Nat) : Prop := ∀ (ends : List Bs) (op loops : Int) (p : Ps), ends.length ≤ 10 → 0 ≤ loops → loops ≤ op → op ≤ 16 → p.at' ≤ ws.length → ws.length - p.at' < n →
 FnL Tryz.prog 14 [.ptr 1000 0 0 0, .sl 1 false (ends.map encN), .val (.int .i64 op), .val (.int .i64 loops)] [(26, [encPl v ws p])] (.tup [encTr (R ends op loops p).1.1, St (R ends op loops p).1.2]) [[encPl v ws (R ends op loops p).2]]
attribute [local irreducible] Decidable.decide awp ARun regK toK
theorem behind_l (v : V) (ws : List Bs) (p : Ps) (hl : ws.length ≤ 1000) (hp : p.at' ≤ ws.length) : FnL Tryz.prog 54 [.ptr 1000 0 0 0] [(26, [encPl v ws p])] (St (behindP ws p).1) [[encPl v ws (behindP ws p).2]] := by
 have e0 : (((ws.map encN).length : Nat) : Int) = ws.length := by rw [List.length_map]
 have c1 := pfail_l v ws p (-16)
 unfold behindP
 cases hw : ws[p.at']? with
 | none =>
  have hlen := List.getElem?_eq_none_iff.1 hw
  have d1 : decide ((((ws.map encN).length : Nat) : Int) ≤ ((p.at' : Nat) : Int)) = true := decide_eq_true (by omega)
  dsimp only
  generalize failp p (-16) = q at *
  refine FnL.of_awp (T := tt) (ok := tok) Tryz.func54 (by kernel_rfl) rfl (by kernel_rfl) (by kernel_rfl) (fun w0 st0 lent c0 => ?_)
  dsimp only [frOf, hpFrom, List.length_cons, List.length_nil]
  (repeat' (first | refine goA ?_ | refine ARun.nilCheckP rfl rfl (guardF_spec rfl) ?_ | refine callK 1000 0 26 (encPl v ws p) (encPl v ws q) (c1) (encPl_closed v ws _) (encPl_closed v ws _) (RelL.cons (.ptr (j := 0) 0 0 rfl) (RelL.cons (.wk (.same _) (.val _)) (RelL.nil _))) smT ?_ | refine goB ?_ | fail))
  exact awp_ret ⟨_, ResL.cons (ResA.tmp (.val _)) .nil, rfl, ⟨_, rfl, RlR.closed (one_cl (encPl_closed v ws q))⟩, trivial⟩
 | some w =>
  have hlt := (List.getElem?_eq_some_iff.1 hw).1
  have d1 : decide ((((ws.map encN).length : Nat) : Int) ≤ ((p.at' : Nat) : Int)) = false := decide_eq_false (by omega)
  dsimp only
  by_cases hn : w = []
  ·have d2 := Dict.eqT w [] hn
   rw [if_pos hn]
   dsimp only
   generalize failp p (-16) = q at *
   refine FnL.of_awp (T := tt) (ok := tok) Tryz.func54 (by kernel_rfl) rfl (by kernel_rfl) (by kernel_rfl) (fun w0 st0 lent c0 => ?_)
   dsimp only [frOf, hpFrom, List.length_cons, List.length_nil]
   (repeat' (first | refine goA ?_ | refine ARun.nilCheckP rfl rfl (guardF_spec rfl) ?_ | refine ARun.indexAddr rfl rfl (by omega) (by first | with_reducible exact get_map hw | with_reducible exact get_map hw) rfl rfl rfl rfl rfl (guardF_spec rfl) ?_ | refine callK 1000 0 26 (encPl v ws p) (encPl v ws q) (c1) (encPl_closed v ws _) (encPl_closed v ws _) (RelL.cons (.ptr (j := 0) 0 0 rfl) (RelL.cons (.wk (.same _) (.val _)) (RelL.nil _))) smT ?_ | refine goB ?_ | fail))
   exact awp_ret ⟨_, ResL.cons (ResA.tmp (.val _)) .nil, rfl, ⟨_, rfl, RlR.closed (one_cl (encPl_closed v ws q))⟩, trivial⟩
  ·have d2 := Dict.eqF w [] hn
   rw [if_neg hn]
   dsimp only
   have hw2 : (ws.map encN)[((((p.at' : Nat) : Int) + 1) - 1).toNat]? = some (encN w) := by
    rw [show (((p.at' : Nat) : Int) + 1 - 1).toNat = p.at' by omega, List.getElem?_map, hw]
    rfl
   refine FnL.of_awp (T := tt) (ok := tok) Tryz.func54 (by kernel_rfl) rfl (by kernel_rfl) (by kernel_rfl) (fun w0 st0 lent c0 => ?_)
   dsimp only [frOf, hpFrom, List.length_cons, List.length_nil]
   (repeat' (first | refine goA ?_ | refine ARun.nilCheckP rfl rfl (guardF_spec rfl) ?_ | refine ARun.indexAddr rfl rfl (by omega) (by first | with_reducible exact get_map hw | with_reducible exact get_map hw) rfl rfl rfl rfl rfl (guardF_spec rfl) ?_ | refine ARun.indexAddr rfl rfl (by omega) (by with_reducible exact hw2) rfl rfl rfl rfl rfl (guardF_spec rfl) ?_ | refine goB ?_ | fail))
   exact awp_ret ⟨_, ResL.cons (ResA.tmp (.val _)) .nil, rfl, ⟨_, by rfl, RlR.closed (one_cl (encPl_closed v ws ⟨p.at' + 1, p.bad⟩))⟩, trivial⟩
set_option maxHeartbeats 8000000 in
theorem if_l (v : V) (ws : List Bs) (p : Ps) (R : RowF) (n : Nat) (hR : RowC v ws R n) (hM : MonoR R) (hH : HiR ws.length R) (op loops : Int) (h0 : 0 ≤ loops) (h1 : loops ≤ op) (h2 : op ≤ 16) (hp : p.at' ≤ ws.length) (hn : ws.length - p.at' < n) :
  FnL Tryz.prog 55 [.ptr 1000 0 0 0, St nIF, .val (.int .i64 op), .val (.int .i64 loops)] [(26, [encPl v ws p])] (.agg (NC (ifP R op loops p).1)) [[encPl v ws (ifP R op loops p).2]] := by
 have n0 := Dict.eqT nIF [73, 70] rfl
 unfold ifP
 have c1 := hR [nELSE, nTHEN] op loops p (by decide) h0 h1 h2 hp hn
 have c2 := fun q hq hq2 => hR [nTHEN] op loops q (by decide) h0 h1 h2 hq hq2
 have m1 := hM [nELSE, nTHEN] op loops p
 have m2 := hH [nELSE, nTHEN] op loops p hp
 generalize R [nELSE, nTHEN] op loops p = r1 at *
 have c2 := c2 r1.2 m2 (by omega)
 generalize R [nTHEN] op loops r1.2 = r2 at *
 obtain ⟨⟨t1, e1⟩, q1⟩ := r1
 obtain ⟨⟨t2, e2⟩, q2⟩ := r2
 dsimp only at *
 by_cases he : e1 = nELSE
 ·have d1 : ((ByteArray.mk e1.toArray).toList != (ByteArray.mk #[69, 76, 83, 69]).toList) = false := by rw [bne, bs_eq e1 [69, 76, 83, 69]]; exact congrArg (! ·) (decide_eq_true he)
  rw [if_pos he]
  refine FnL.of_awp (T := tt) (ok := tok) Tryz.func55 (by kernel_rfl) rfl (by kernel_rfl) (by kernel_rfl) (fun w0 st0 lent c0 => ?_)
  dsimp only [frOf, hpFrom, List.length_cons, List.length_nil]
  (repeat' (first | refine goA ?_ | refine ARun.nilCheckP rfl rfl (guardF_spec rfl) ?_ | refine callK 1000 0 26 (encPl v ws p) (encPl v ws q1) (c1) (encPl_closed v ws _) (encPl_closed v ws _) (RelL.cons (.ptr (j := 0) 0 0 rfl) (RelL.cons (.wk (by first | exact .same _ | exact .weak _ _ _) (closed_nms _)) (RelL.cons (.wk (.same _) (.val _)) (RelL.cons (.wk (.same _) (.val _)) (RelL.nil _))))) (.same _ (.tup (closedL_cons (closed_tr _) (closedL_cons (.val _) closedL_nil)))) ?_ | refine callK 1000 0 26 (encPl v ws q1) (encPl v ws q2) (c2) (encPl_closed v ws _) (encPl_closed v ws _) (RelL.cons (.ptr (j := 0) 0 0 rfl) (RelL.cons (.wk (by first | exact .same _ | exact .weak _ _ _) (closed_nms _)) (RelL.cons (.wk (.same _) (.val _)) (RelL.cons (.wk (.same _) (.val _)) (RelL.nil _))))) (.same _ (.tup (closedL_cons (closed_tr _) (closedL_cons (.val _) closedL_nil)))) ?_ | refine goB ?_ | fail))
  exact awp_ret ⟨_, ResL.cons (ResA.agg rfl rfl rfl rfl rfl rfl rfl resT) .nil, rfl, ⟨_, rfl, RlR.closed (one_cl (encPl_closed v ws q2))⟩, trivial⟩
 ·have d1 : ((ByteArray.mk e1.toArray).toList != (ByteArray.mk #[69, 76, 83, 69]).toList) = true := by rw [bne, bs_eq e1 [69, 76, 83, 69]]; exact congrArg (! ·) (decide_eq_false he)
  rw [if_neg he]
  refine FnL.of_awp (T := tt) (ok := tok) Tryz.func55 (by kernel_rfl) rfl (by kernel_rfl) (by kernel_rfl) (fun w0 st0 lent c0 => ?_)
  dsimp only [frOf, hpFrom, List.length_cons, List.length_nil]
  (repeat' (first | refine goA ?_ | refine ARun.nilCheckP rfl rfl (guardF_spec rfl) ?_ | refine callK 1000 0 26 (encPl v ws p) (encPl v ws q1) (c1) (encPl_closed v ws _) (encPl_closed v ws _) (RelL.cons (.ptr (j := 0) 0 0 rfl) (RelL.cons (.wk (by first | exact .same _ | exact .weak _ _ _) (closed_nms _)) (RelL.cons (.wk (.same _) (.val _)) (RelL.cons (.wk (.same _) (.val _)) (RelL.nil _))))) (.same _ (.tup (closedL_cons (closed_tr _) (closedL_cons (.val _) closedL_nil)))) ?_ | refine goB ?_ | fail))
  exact awp_ret ⟨_, ResL.cons (ResA.agg rfl rfl rfl rfl rfl rfl rfl resT) .nil, rfl, ⟨_, rfl, RlR.closed (one_cl (encPl_closed v ws q1))⟩, trivial⟩
end Go.Proofs.YtfphgelollhdhaaGreat
namespace Go.Proofs.YtfphgelollhdhaaGreat
open Go Go.RowKit
open Go.Proofs.YtfphgelollhdhaaGreat.Dict (St Bs bs_eq Wd encW encWs closed_ws findD encFd NameIn)
open Go.Proofs.YtfphgelollhdhaaGreat.Mem (Mm encM encBs closed_bs encP encP_closed closed_m storeD fetchD)
open Go.Proofs.YtfphgelollhdhaaGreat.Stk (encS closed_s encI_closed)
open Gen (Nod encD encD_closed encD_eq encTr closed_tr NC NC_closed)
set_option maxRecDepth 100000
theorem failp_2 (p : Ps) : failp (failp p (-22)) (-32) = failp p (-22) := by
 have h : (failp p (-22)).bad ≠ 0 := failp_bad (by decide)
 exact if_neg h
attribute [local irreducible] Decidable.decide awp ARun regK toK
set_option maxHeartbeats 8000000 in
theorem begin_l (v : V) (ws : List Bs) (p : Ps) (R : RowF) (n : Nat) (hR : RowC v ws R n) (hM : MonoR R) (hH : HiR ws.length R) (op loops : Int) (h0 : 0 ≤ loops) (h1 : loops ≤ op) (h2 : op ≤ 16) (hp : p.at' ≤ ws.length) (hn : ws.length - p.at' < n) :
  FnL Tryz.prog 55 [.ptr 1000 0 0 0, St nBEGIN, .val (.int .i64 op), .val (.int .i64 loops)] [(26, [encPl v ws p])] (.agg (NC (beginP R op loops p).1)) [[encPl v ws (beginP R op loops p).2]] := by
 have n0 := Dict.eqF nBEGIN [73, 70] (by decide)
 have n1 := Dict.eqT nBEGIN [66, 69, 71, 73, 78] rfl
 unfold beginP
 have c1 := hR [nUNTIL, nAGAIN, nWHILE] op loops p (by decide) h0 h1 h2 hp hn
 have c2 := fun q hq hq2 => hR [nREPEAT] op loops q (by decide) h0 h1 h2 hq hq2
 have m1 := hM [nUNTIL, nAGAIN, nWHILE] op loops p
 have m2 := hH [nUNTIL, nAGAIN, nWHILE] op loops p hp
 generalize R [nUNTIL, nAGAIN, nWHILE] op loops p = r1 at *
 have c2 := c2 r1.2 m2 (by omega)
 generalize R [nREPEAT] op loops r1.2 = r2 at *
 obtain ⟨⟨t1, e1⟩, q1⟩ := r1
 obtain ⟨⟨t2, e2⟩, q2⟩ := r2
 dsimp only at *
 by_cases he : e1 = nUNTIL
 ·have d1 := Dict.eqT e1 [85, 78, 84, 73, 76] he
  rw [if_pos he]
  refine FnL.of_awp (T := tt) (ok := tok) Tryz.func55 (by kernel_rfl) rfl (by kernel_rfl) (by kernel_rfl) (fun w0 st0 lent c0 => ?_)
  dsimp only [frOf, hpFrom, List.length_cons, List.length_nil]
  (repeat' (first | refine goA ?_ | refine ARun.nilCheckP rfl rfl (guardF_spec rfl) ?_ | refine callK 1000 0 26 (encPl v ws p) (encPl v ws q1) (c1) (encPl_closed v ws _) (encPl_closed v ws _) (RelL.cons (.ptr (j := 0) 0 0 rfl) (RelL.cons (.wk (by first | exact .same _ | exact .weak _ _ _) (closed_nms _)) (RelL.cons (.wk (.same _) (.val _)) (RelL.cons (.wk (.same _) (.val _)) (RelL.nil _))))) (.same _ (.tup (closedL_cons (closed_tr _) (closedL_cons (.val _) closedL_nil)))) ?_ | refine goB ?_ | fail))
  exact awp_ret ⟨_, ResL.cons (ResA.agg rfl rfl rfl rfl rfl rfl rfl resT) .nil, rfl, ⟨_, rfl, RlR.closed (one_cl (encPl_closed v ws q1))⟩, trivial⟩
 have d1 := Dict.eqF e1 [85, 78, 84, 73, 76] he
 rw [if_neg he]
 by_cases hg : e1 = nAGAIN
 ·have d2 := Dict.eqT e1 [65, 71, 65, 73, 78] hg
  rw [if_pos hg]
  refine FnL.of_awp (T := tt) (ok := tok) Tryz.func55 (by kernel_rfl) rfl (by kernel_rfl) (by kernel_rfl) (fun w0 st0 lent c0 => ?_)
  dsimp only [frOf, hpFrom, List.length_cons, List.length_nil]
  (repeat' (first | refine goA ?_ | refine ARun.nilCheckP rfl rfl (guardF_spec rfl) ?_ | refine callK 1000 0 26 (encPl v ws p) (encPl v ws q1) (c1) (encPl_closed v ws _) (encPl_closed v ws _) (RelL.cons (.ptr (j := 0) 0 0 rfl) (RelL.cons (.wk (by first | exact .same _ | exact .weak _ _ _) (closed_nms _)) (RelL.cons (.wk (.same _) (.val _)) (RelL.cons (.wk (.same _) (.val _)) (RelL.nil _))))) (.same _ (.tup (closedL_cons (closed_tr _) (closedL_cons (.val _) closedL_nil)))) ?_ | refine goB ?_ | fail))
  exact awp_ret ⟨_, ResL.cons (ResA.agg rfl rfl rfl rfl rfl rfl rfl resT) .nil, rfl, ⟨_, rfl, RlR.closed (one_cl (encPl_closed v ws q1))⟩, trivial⟩
 have d2 := Dict.eqF e1 [65, 71, 65, 73, 78] hg
 rw [if_neg hg]
 refine FnL.of_awp (T := tt) (ok := tok) Tryz.func55 (by kernel_rfl) rfl (by kernel_rfl) (by kernel_rfl) (fun w0 st0 lent c0 => ?_)
 dsimp only [frOf, hpFrom, List.length_cons, List.length_nil]
 (repeat' (first | refine goA ?_ | refine ARun.nilCheckP rfl rfl (guardF_spec rfl) ?_ | refine callK 1000 0 26 (encPl v ws p) (encPl v ws q1) (c1) (encPl_closed v ws _) (encPl_closed v ws _) (RelL.cons (.ptr (j := 0) 0 0 rfl) (RelL.cons (.wk (by first | exact .same _ | exact .weak _ _ _) (closed_nms _)) (RelL.cons (.wk (.same _) (.val _)) (RelL.cons (.wk (.same _) (.val _)) (RelL.nil _))))) (.same _ (.tup (closedL_cons (closed_tr _) (closedL_cons (.val _) closedL_nil)))) ?_ | refine callK 1000 0 26 (encPl v ws q1) (encPl v ws q2) (c2) (encPl_closed v ws _) (encPl_closed v ws _) (RelL.cons (.ptr (j := 0) 0 0 rfl) (RelL.cons (.wk (by first | exact .same _ | exact .weak _ _ _) (closed_nms _)) (RelL.cons (.wk (.same _) (.val _)) (RelL.cons (.wk (.same _) (.val _)) (RelL.nil _))))) (.same _ (.tup (closedL_cons (closed_tr _) (closedL_cons (.val _) closedL_nil)))) ?_ | refine goB ?_ | fail))
 exact awp_ret ⟨_, ResL.cons (ResA.agg rfl rfl rfl rfl rfl rfl rfl resT) .nil, rfl, ⟨_, rfl, RlR.closed (one_cl (encPl_closed v ws q2))⟩, trivial⟩
set_option maxHeartbeats 8000000 in
theorem do_l (v : V) (ws : List Bs) (p : Ps) (R : RowF) (n : Nat) (hR : RowC v ws R n) (hM : MonoR R) (hH : HiR ws.length R) (op loops : Int) (h0 : 0 ≤ loops) (h1 : loops ≤ op) (h2 : op ≤ 16) (hp : p.at' ≤ ws.length) (hn : ws.length - p.at' < n) (name : Bs) (hnm : name = nDOW ∨ name = nQDO) (hlo : loops + 1 ≤ op) :
  FnL Tryz.prog 55 [.ptr 1000 0 0 0, St name, .val (.int .i64 op), .val (.int .i64 loops)] [(26, [encPl v ws p])] (.agg (NC (doP R name op loops p).1)) [[encPl v ws (doP R name op loops p).2]] := by
 have k0 : name ≠ nIF := by rcases hnm with rfl | rfl <;> decide
 have k1 : name ≠ nBEGIN := by rcases hnm with rfl | rfl <;> decide
 have n0 := Dict.eqF name [73, 70] k0
 have n1 := Dict.eqF name [66, 69, 71, 73, 78] k1
 unfold doP
 have c1 := hR [nLOOP, nPLOOP] op (loops + 1) p (by decide) (by omega) hlo h2 hp hn
 generalize R [nLOOP, nPLOOP] op (loops + 1) p = r1 at *
 obtain ⟨⟨t1, e1⟩, q1⟩ := r1
 dsimp only at *
 by_cases he : e1 = nPLOOP
 ·have d1 := Dict.eqT e1 [43, 76, 79, 79, 80] he
  by_cases hq : name = nQDO
  ·have d2 := Dict.eqT name [63, 68, 79] hq
   rw [if_pos he, if_pos hq]
   refine FnL.of_awp (T := tt) (ok := tok) Tryz.func55 (by kernel_rfl) rfl (by kernel_rfl) (by kernel_rfl) (fun w0 st0 lent c0 => ?_)
   dsimp only [frOf, hpFrom, List.length_cons, List.length_nil]
   (repeat' (first | refine goA ?_ | refine ARun.nilCheckP rfl rfl (guardF_spec rfl) ?_ | refine callK 1000 0 26 (encPl v ws p) (encPl v ws q1) (c1) (encPl_closed v ws _) (encPl_closed v ws _) (RelL.cons (.ptr (j := 0) 0 0 rfl) (RelL.cons (.wk (by first | exact .same _ | exact .weak _ _ _) (closed_nms _)) (RelL.cons (.wk (.same _) (.val _)) (RelL.cons (.wk (.same _) (.val _)) (RelL.nil _))))) (.same _ (.tup (closedL_cons (closed_tr _) (closedL_cons (.val _) closedL_nil)))) ?_ | refine goB ?_ | fail))
   exact awp_ret ⟨_, ResL.cons (ResA.agg rfl rfl rfl rfl rfl rfl rfl resT) .nil, rfl, ⟨_, rfl, RlR.closed (one_cl (encPl_closed v ws q1))⟩, trivial⟩
  ·have d2 := Dict.eqF name [63, 68, 79] hq
   rw [if_pos he, if_neg hq]
   refine FnL.of_awp (T := tt) (ok := tok) Tryz.func55 (by kernel_rfl) rfl (by kernel_rfl) (by kernel_rfl) (fun w0 st0 lent c0 => ?_)
   dsimp only [frOf, hpFrom, List.length_cons, List.length_nil]
   (repeat' (first | refine goA ?_ | refine ARun.nilCheckP rfl rfl (guardF_spec rfl) ?_ | refine callK 1000 0 26 (encPl v ws p) (encPl v ws q1) (c1) (encPl_closed v ws _) (encPl_closed v ws _) (RelL.cons (.ptr (j := 0) 0 0 rfl) (RelL.cons (.wk (by first | exact .same _ | exact .weak _ _ _) (closed_nms _)) (RelL.cons (.wk (.same _) (.val _)) (RelL.cons (.wk (.same _) (.val _)) (RelL.nil _))))) (.same _ (.tup (closedL_cons (closed_tr _) (closedL_cons (.val _) closedL_nil)))) ?_ | refine goB ?_ | fail))
   exact awp_ret ⟨_, ResL.cons (ResA.agg rfl rfl rfl rfl rfl rfl rfl resT) .nil, rfl, ⟨_, rfl, RlR.closed (one_cl (encPl_closed v ws q1))⟩, trivial⟩
 ·have d1 := Dict.eqF e1 [43, 76, 79, 79, 80] he
  by_cases hq : name = nQDO
  ·have d2 := Dict.eqT name [63, 68, 79] hq
   rw [if_neg he, if_pos hq]
   refine FnL.of_awp (T := tt) (ok := tok) Tryz.func55 (by kernel_rfl) rfl (by kernel_rfl) (by kernel_rfl) (fun w0 st0 lent c0 => ?_)
   dsimp only [frOf, hpFrom, List.length_cons, List.length_nil]
   (repeat' (first | refine goA ?_ | refine ARun.nilCheckP rfl rfl (guardF_spec rfl) ?_ | refine callK 1000 0 26 (encPl v ws p) (encPl v ws q1) (c1) (encPl_closed v ws _) (encPl_closed v ws _) (RelL.cons (.ptr (j := 0) 0 0 rfl) (RelL.cons (.wk (by first | exact .same _ | exact .weak _ _ _) (closed_nms _)) (RelL.cons (.wk (.same _) (.val _)) (RelL.cons (.wk (.same _) (.val _)) (RelL.nil _))))) (.same _ (.tup (closedL_cons (closed_tr _) (closedL_cons (.val _) closedL_nil)))) ?_ | refine goB ?_ | fail))
   exact awp_ret ⟨_, ResL.cons (ResA.agg rfl rfl rfl rfl rfl rfl rfl resT) .nil, rfl, ⟨_, rfl, RlR.closed (one_cl (encPl_closed v ws q1))⟩, trivial⟩
  ·have d2 := Dict.eqF name [63, 68, 79] hq
   rw [if_neg he, if_neg hq]
   refine FnL.of_awp (T := tt) (ok := tok) Tryz.func55 (by kernel_rfl) rfl (by kernel_rfl) (by kernel_rfl) (fun w0 st0 lent c0 => ?_)
   dsimp only [frOf, hpFrom, List.length_cons, List.length_nil]
   (repeat' (first | refine goA ?_ | refine ARun.nilCheckP rfl rfl (guardF_spec rfl) ?_ | refine callK 1000 0 26 (encPl v ws p) (encPl v ws q1) (c1) (encPl_closed v ws _) (encPl_closed v ws _) (RelL.cons (.ptr (j := 0) 0 0 rfl) (RelL.cons (.wk (by first | exact .same _ | exact .weak _ _ _) (closed_nms _)) (RelL.cons (.wk (.same _) (.val _)) (RelL.cons (.wk (.same _) (.val _)) (RelL.nil _))))) (.same _ (.tup (closedL_cons (closed_tr _) (closedL_cons (.val _) closedL_nil)))) ?_ | refine goB ?_ | fail))
   exact awp_ret ⟨_, ResL.cons (ResA.agg rfl rfl rfl rfl rfl rfl rfl resT) .nil, rfl, ⟨_, rfl, RlR.closed (one_cl (encPl_closed v ws q1))⟩, trivial⟩
set_option maxHeartbeats 4000000 in
theorem part_leave0 (v : V) (ws : List Bs) (p : Ps) (R : RowF) (n : Nat) (hv : VOk v) (hws : ws.length ≤ 1000 ∧ ∀ w, w ∈ ws → w.length ≤ 1000) (hR : RowC v ws R n) (hM : MonoR R) (hH : HiR ws.length R) (op loops : Int) (h0 : 0 ≤ loops) (h1 : loops ≤ op) (h2 : op ≤ 16) (hp : p.at' ≤ ws.length) (hn : ws.length - p.at' < n) (hl : loops = 0) : FnL Tryz.prog 32 [.ptr 1000 0 0 0, St nLEAVE, .val (.int .i64 op), .val (.int .i64 loops)] [(26, [encPl v ws p])] (.agg (NC (partP ws R nLEAVE op loops p).1)) [[encPl v ws (partP ws R nLEAVE op loops p).2]] := by
 have s0 := Dict.eqT nLEAVE [76, 69, 65, 86, 69] rfl
 have d1 : (loops == 0) = true := beq_iff_eq.2 hl
 have c4 := pfail_l v ws p (-22)
 unfold partP
 rw [if_pos rfl, if_pos hl]
 generalize failp p (-22) = q at *
 refine FnL.of_awp (T := tt) (ok := tok) Tryz.func32 (by kernel_rfl) rfl (by kernel_rfl) (by kernel_rfl) (fun w0 st0 lent c0 => ?_)
 dsimp only [frOf, hpFrom, List.length_cons, List.length_nil]
 (repeat' (first | refine goA ?_ | refine ARun.nilCheckP rfl rfl (guardF_spec rfl) ?_ | refine callK 1000 0 26 (encPl v ws p) (encPl v ws q) (c4) (encPl_closed v ws _) (encPl_closed v ws _) (RelL.cons (.ptr (j := 0) 0 0 rfl) (RelL.cons (.wk (.same _) (.val _)) (RelL.nil _))) smT ?_ | refine goB ?_ | fail))
 exact awp_ret ⟨_, ResL.cons (ResA.agg rfl rfl rfl rfl rfl rfl rfl resT) .nil, rfl, ⟨_, rfl, RlR.closed (one_cl (encPl_closed v ws q))⟩, trivial⟩
set_option maxHeartbeats 4000000 in
theorem part_leave1 (v : V) (ws : List Bs) (p : Ps) (R : RowF) (n : Nat) (hv : VOk v) (hws : ws.length ≤ 1000 ∧ ∀ w, w ∈ ws → w.length ≤ 1000) (hR : RowC v ws R n) (hM : MonoR R) (hH : HiR ws.length R) (op loops : Int) (h0 : 0 ≤ loops) (h1 : loops ≤ op) (h2 : op ≤ 16) (hp : p.at' ≤ ws.length) (hn : ws.length - p.at' < n) (hl : loops ≠ 0) : FnL Tryz.prog 32 [.ptr 1000 0 0 0, St nLEAVE, .val (.int .i64 op), .val (.int .i64 loops)] [(26, [encPl v ws p])] (.agg (NC (partP ws R nLEAVE op loops p).1)) [[encPl v ws (partP ws R nLEAVE op loops p).2]] := by
 have s0 := Dict.eqT nLEAVE [76, 69, 65, 86, 69] rfl
 have d1 : (loops == 0) = false := beq_eq_false_iff_ne.2 hl
 unfold partP
 rw [if_pos rfl, if_neg hl]
 refine FnL.of_awp (T := tt) (ok := tok) Tryz.func32 (by kernel_rfl) rfl (by kernel_rfl) (by kernel_rfl) (fun w0 st0 lent c0 => ?_)
 dsimp only [frOf, hpFrom, List.length_cons, List.length_nil]
 (repeat' (first | refine goA ?_ | refine ARun.nilCheckP rfl rfl (guardF_spec rfl) ?_ | refine goB ?_ | fail))
 exact awp_ret ⟨_, ResL.cons (ResA.agg rfl rfl rfl rfl rfl rfl rfl resT) .nil, rfl, ⟨_, rfl, RlR.closed (one_cl (encPl_closed v ws p))⟩, trivial⟩
set_option maxHeartbeats 4000000 in
theorem part_exit0 (v : V) (ws : List Bs) (p : Ps) (R : RowF) (n : Nat) (hv : VOk v) (hws : ws.length ≤ 1000 ∧ ∀ w, w ∈ ws → w.length ≤ 1000) (hR : RowC v ws R n) (hM : MonoR R) (hH : HiR ws.length R) (op loops : Int) (h0 : 0 ≤ loops) (h1 : loops ≤ op) (h2 : op ≤ 16) (hp : p.at' ≤ ws.length) (hn : ws.length - p.at' < n) (hl : 0 < loops) : FnL Tryz.prog 32 [.ptr 1000 0 0 0, St nEXIT, .val (.int .i64 op), .val (.int .i64 loops)] [(26, [encPl v ws p])] (.agg (NC (partP ws R nEXIT op loops p).1)) [[encPl v ws (partP ws R nEXIT op loops p).2]] := by
 have s0 := Dict.eqF nEXIT [76, 69, 65, 86, 69] (by decide)
 have s1 := Dict.eqT nEXIT [69, 88, 73, 84] rfl
 have d1 : decide (0 < loops) = true := decide_eq_true hl
 have c4 := pfail_l v ws p (-32)
 unfold partP
 rw [if_neg (by decide)]
 rw [if_pos rfl, if_pos hl]
 generalize failp p (-32) = q at *
 refine FnL.of_awp (T := tt) (ok := tok) Tryz.func32 (by kernel_rfl) rfl (by kernel_rfl) (by kernel_rfl) (fun w0 st0 lent c0 => ?_)
 dsimp only [frOf, hpFrom, List.length_cons, List.length_nil]
 (repeat' (first | refine goA ?_ | refine ARun.nilCheckP rfl rfl (guardF_spec rfl) ?_ | refine callK 1000 0 26 (encPl v ws p) (encPl v ws q) (c4) (encPl_closed v ws _) (encPl_closed v ws _) (RelL.cons (.ptr (j := 0) 0 0 rfl) (RelL.cons (.wk (.same _) (.val _)) (RelL.nil _))) smT ?_ | refine goB ?_ | fail))
 exact awp_ret ⟨_, ResL.cons (ResA.agg rfl rfl rfl rfl rfl rfl rfl resT) .nil, rfl, ⟨_, rfl, RlR.closed (one_cl (encPl_closed v ws q))⟩, trivial⟩
set_option maxHeartbeats 4000000 in
theorem part_exit1 (v : V) (ws : List Bs) (p : Ps) (R : RowF) (n : Nat) (hv : VOk v) (hws : ws.length ≤ 1000 ∧ ∀ w, w ∈ ws → w.length ≤ 1000) (hR : RowC v ws R n) (hM : MonoR R) (hH : HiR ws.length R) (op loops : Int) (h0 : 0 ≤ loops) (h1 : loops ≤ op) (h2 : op ≤ 16) (hp : p.at' ≤ ws.length) (hn : ws.length - p.at' < n) (hl : ¬ 0 < loops) : FnL Tryz.prog 32 [.ptr 1000 0 0 0, St nEXIT, .val (.int .i64 op), .val (.int .i64 loops)] [(26, [encPl v ws p])] (.agg (NC (partP ws R nEXIT op loops p).1)) [[encPl v ws (partP ws R nEXIT op loops p).2]] := by
 have s0 := Dict.eqF nEXIT [76, 69, 65, 86, 69] (by decide)
 have s1 := Dict.eqT nEXIT [69, 88, 73, 84] rfl
 have d1 : decide (0 < loops) = false := decide_eq_false hl
 unfold partP
 rw [if_neg (by decide)]
 rw [if_pos rfl, if_neg hl]
 refine FnL.of_awp (T := tt) (ok := tok) Tryz.func32 (by kernel_rfl) rfl (by kernel_rfl) (by kernel_rfl) (fun w0 st0 lent c0 => ?_)
 dsimp only [frOf, hpFrom, List.length_cons, List.length_nil]
 (repeat' (first | refine goA ?_ | refine ARun.nilCheckP rfl rfl (guardF_spec rfl) ?_ | refine goB ?_ | fail))
 exact awp_ret ⟨_, ResL.cons (ResA.agg rfl rfl rfl rfl rfl rfl rfl resT) .nil, rfl, ⟨_, rfl, RlR.closed (one_cl (encPl_closed v ws p))⟩, trivial⟩
set_option maxHeartbeats 4000000 in
theorem part_recurse (v : V) (ws : List Bs) (p : Ps) (R : RowF) (n : Nat) (hv : VOk v) (hws : ws.length ≤ 1000 ∧ ∀ w, w ∈ ws → w.length ≤ 1000) (hR : RowC v ws R n) (hM : MonoR R) (hH : HiR ws.length R) (op loops : Int) (h0 : 0 ≤ loops) (h1 : loops ≤ op) (h2 : op ≤ 16) (hp : p.at' ≤ ws.length) (hn : ws.length - p.at' < n) : FnL Tryz.prog 32 [.ptr 1000 0 0 0, St nRECURSE, .val (.int .i64 op), .val (.int .i64 loops)] [(26, [encPl v ws p])] (.agg (NC (partP ws R nRECURSE op loops p).1)) [[encPl v ws (partP ws R nRECURSE op loops p).2]] := by
 have s0 := Dict.eqF nRECURSE [76, 69, 65, 86, 69] (by decide)
 have s1 := Dict.eqF nRECURSE [69, 88, 73, 84] (by decide)
 have s2 := Dict.eqT nRECURSE [82, 69, 67, 85, 82, 83, 69] rfl
 unfold partP
 rw [if_neg (by decide)]
 rw [if_neg (by decide)]
 rw [if_pos rfl]
 refine FnL.of_awp (T := tt) (ok := tok) Tryz.func32 (by kernel_rfl) rfl (by kernel_rfl) (by kernel_rfl) (fun w0 st0 lent c0 => ?_)
 dsimp only [frOf, hpFrom, List.length_cons, List.length_nil]
 (repeat' (first | refine goA ?_ | refine ARun.nilCheckP rfl rfl (guardF_spec rfl) ?_ | refine goB ?_ | fail))
 exact awp_ret ⟨_, ResL.cons (ResA.agg rfl rfl rfl rfl rfl rfl rfl resT) .nil, rfl, ⟨_, rfl, RlR.closed (one_cl (encPl_closed v ws p))⟩, trivial⟩
set_option maxHeartbeats 4000000 in
theorem part_char (v : V) (ws : List Bs) (p : Ps) (R : RowF) (n : Nat) (hv : VOk v) (hws : ws.length ≤ 1000 ∧ ∀ w, w ∈ ws → w.length ≤ 1000) (hR : RowC v ws R n) (hM : MonoR R) (hH : HiR ws.length R) (op loops : Int) (h0 : 0 ≤ loops) (h1 : loops ≤ op) (h2 : op ≤ 16) (hp : p.at' ≤ ws.length) (hn : ws.length - p.at' < n) : FnL Tryz.prog 32 [.ptr 1000 0 0 0, St nBCHAR, .val (.int .i64 op), .val (.int .i64 loops)] [(26, [encPl v ws p])] (.agg (NC (partP ws R nBCHAR op loops p).1)) [[encPl v ws (partP ws R nBCHAR op loops p).2]] := by
 have s0 := Dict.eqF nBCHAR [76, 69, 65, 86, 69] (by decide)
 have s1 := Dict.eqF nBCHAR [69, 88, 73, 84] (by decide)
 have s2 := Dict.eqF nBCHAR [82, 69, 67, 85, 82, 83, 69] (by decide)
 have s3 := Dict.eqT nBCHAR [91, 67, 72, 65, 82, 93] rfl
 have c1 := behind_l v ws p hws.1 hp
 unfold partP
 rw [if_neg (by decide)]
 rw [if_neg (by decide)]
 rw [if_neg (by decide)]
 rw [if_pos rfl]
 generalize behindP ws p = r at *
 obtain ⟨w, q⟩ := r
 cases w with
 | nil =>
  dsimp only at *
  have d1 : ((ByteArray.mk ([] : Bs).toArray).toList == (ByteArray.mk #[]).toList) = true := by rw [bs_eq [] []]; exact decide_eq_true rfl
  refine FnL.of_awp (T := tt) (ok := tok) Tryz.func32 (by kernel_rfl) rfl (by kernel_rfl) (by kernel_rfl) (fun w0 st0 lent c0 => ?_)
  dsimp only [frOf, hpFrom, List.length_cons, List.length_nil]
  (repeat' (first | refine goA ?_ | refine ARun.nilCheckP rfl rfl (guardF_spec rfl) ?_ | refine callK 1000 0 26 (encPl v ws p) (encPl v ws q) (c1) (encPl_closed v ws _) (encPl_closed v ws _) (RelL.cons (.ptr (j := 0) 0 0 rfl) (RelL.nil _)) smT ?_ | refine goB ?_ | fail))
  exact awp_ret ⟨_, ResL.cons (ResA.agg rfl rfl rfl rfl rfl rfl rfl resT) .nil, rfl, ⟨_, rfl, RlR.closed (one_cl (encPl_closed v ws q))⟩, trivial⟩
 | cons c w =>
  dsimp only at *
  have d1 := Dict.eqF (c :: w) [] (by simp)
  have hs : (ByteArray.mk (c :: w).toArray).data[(0 : Int).toNat]? = some c := by simp
  have hc8 := c.toNat_lt
  refine FnL.of_awp (T := tt) (ok := tok) Tryz.func32 (by kernel_rfl) rfl (by kernel_rfl) (by kernel_rfl) (fun w0 st0 lent c0 => ?_)
  dsimp only [frOf, hpFrom, List.length_cons, List.length_nil]
  (repeat' (first | refine goA ?_ | refine ARun.nilCheckP rfl rfl (guardF_spec rfl) ?_ | refine callK 1000 0 26 (encPl v ws p) (encPl v ws q) (c1) (encPl_closed v ws _) (encPl_closed v ws _) (RelL.cons (.ptr (j := 0) 0 0 rfl) (RelL.nil _)) smT ?_ | refine ARun.index_str rfl rfl (by omega) hs rfl rfl rfl (guardF_spec rfl) ?_ | refine goB ?_ | fail))
  exact awp_ret ⟨_, ResL.cons (ResA.agg rfl rfl rfl rfl rfl rfl rfl resT) .nil, rfl, ⟨_, rfl, RlR.closed (one_cl (encPl_closed v ws q))⟩, trivial⟩
set_option maxHeartbeats 4000000 in
theorem part_tick (v : V) (ws : List Bs) (p : Ps) (R : RowF) (n : Nat) (hv : VOk v) (hws : ws.length ≤ 1000 ∧ ∀ w, w ∈ ws → w.length ≤ 1000) (hR : RowC v ws R n) (hM : MonoR R) (hH : HiR ws.length R) (op loops : Int) (h0 : 0 ≤ loops) (h1 : loops ≤ op) (h2 : op ≤ 16) (hp : p.at' ≤ ws.length) (hn : ws.length - p.at' < n) : FnL Tryz.prog 32 [.ptr 1000 0 0 0, St nBTICK, .val (.int .i64 op), .val (.int .i64 loops)] [(26, [encPl v ws p])] (.agg (NC (partP ws R nBTICK op loops p).1)) [[encPl v ws (partP ws R nBTICK op loops p).2]] := by
 have s0 := Dict.eqF nBTICK [76, 69, 65, 86, 69] (by decide)
 have s1 := Dict.eqF nBTICK [69, 88, 73, 84] (by decide)
 have s2 := Dict.eqF nBTICK [82, 69, 67, 85, 82, 83, 69] (by decide)
 have s3 := Dict.eqF nBTICK [91, 67, 72, 65, 82, 93] (by decide)
 have s4 := Dict.eqT nBTICK [91, 39, 93] rfl
 have c1 := behind_l v ws p hws.1 hp
 have hw : (behindP ws p).1.length ≤ 1000000 := by
  unfold behindP
  cases hq : ws[p.at']? with
  | none => exact Nat.zero_le _
  | some w =>
   dsimp only
   split
   ·exact Nat.zero_le _
   ·have := hws.2 w (List.mem_of_getElem? hq); dsimp only; omega
 have nf : (!false) = true := rfl
 have nt : (!true) = false := rfl
 unfold partP
 rw [if_neg (by decide)]
 rw [if_neg (by decide)]
 rw [if_neg (by decide)]
 rw [if_neg (by decide)]
 rw [if_pos rfl]
 dsimp only
 generalize behindP ws p = r at *
 obtain ⟨w, q⟩ := r
 dsimp only at *
 have c2 := Dict.ref_find_c v.dict w (by rw [hv.dict, d0_len]; omega) hw (by rw [hv.dict]; exact d0_in)
 rw [show findD v.dict w = findD D0 w by rw [hv.dict]] at c2
 unfold encFd at c2
 have c4 := pfail_l v ws q (-13)
 cases hf : (findD D0 w).2.2 with
 | true =>
  rw [hf] at c2
  rw [if_pos rfl]
  generalize findD D0 w = fd at *
  refine FnL.of_awp (T := tt) (ok := tok) Tryz.func32 (by kernel_rfl) rfl (by kernel_rfl) (by kernel_rfl) (fun w0 st0 lent c0 => ?_)
  dsimp only [frOf, hpFrom, List.length_cons, List.length_nil]
  (repeat' (first | refine goA ?_ | refine ARun.nilCheckP rfl rfl (guardF_spec rfl) ?_ | refine cX c2 ?_ | refine callK 1000 0 26 (encPl v ws p) (encPl v ws q) (c1) (encPl_closed v ws _) (encPl_closed v ws _) (RelL.cons (.ptr (j := 0) 0 0 rfl) (RelL.nil _)) smT ?_ | refine goB ?_ | fail))
  exact awp_ret ⟨_, ResL.cons (ResA.agg rfl rfl rfl rfl rfl rfl rfl resT) .nil, rfl, ⟨_, rfl, RlR.closed (one_cl (encPl_closed v ws q))⟩, trivial⟩
 | false =>
  rw [hf] at c2
  rw [if_neg (by decide)]
  generalize findD D0 w = fd at *
  generalize failp q (-13) = q2 at *
  refine FnL.of_awp (T := tt) (ok := tok) Tryz.func32 (by kernel_rfl) rfl (by kernel_rfl) (by kernel_rfl) (fun w0 st0 lent c0 => ?_)
  dsimp only [frOf, hpFrom, List.length_cons, List.length_nil]
  (repeat' (first | refine goA ?_ | refine ARun.nilCheckP rfl rfl (guardF_spec rfl) ?_ | refine cX c2 ?_ | refine callK 1000 0 26 (encPl v ws p) (encPl v ws q) (c1) (encPl_closed v ws _) (encPl_closed v ws _) (RelL.cons (.ptr (j := 0) 0 0 rfl) (RelL.nil _)) smT ?_ | refine callK 1000 0 26 (encPl v ws q) (encPl v ws q2) (c4) (encPl_closed v ws _) (encPl_closed v ws _) (RelL.cons (.ptr (j := 0) 0 0 rfl) (RelL.cons (.wk (.same _) (.val _)) (RelL.nil _))) smT ?_ | refine goB ?_ | fail))
  exact awp_ret ⟨_, ResL.cons (ResA.agg rfl rfl rfl rfl rfl rfl rfl resT) .nil, rfl, ⟨_, rfl, RlR.closed (one_cl (encPl_closed v ws q2))⟩, trivial⟩
set_option maxHeartbeats 4000000 in
theorem part_IF0 (v : V) (ws : List Bs) (p : Ps) (R : RowF) (n : Nat) (hv : VOk v) (hws : ws.length ≤ 1000 ∧ ∀ w, w ∈ ws → w.length ≤ 1000) (hR : RowC v ws R n) (hM : MonoR R) (hH : HiR ws.length R) (op loops : Int) (h0 : 0 ≤ loops) (h1 : loops ≤ op) (h2 : op ≤ 16) (hp : p.at' ≤ ws.length) (hn : ws.length - p.at' < n) (ho : 16 ≤ op) : FnL Tryz.prog 32 [.ptr 1000 0 0 0, St nIF, .val (.int .i64 op), .val (.int .i64 loops)] [(26, [encPl v ws p])] (.agg (NC (partP ws R nIF op loops p).1)) [[encPl v ws (partP ws R nIF op loops p).2]] := by
 have s0 := Dict.eqF nIF [76, 69, 65, 86, 69] (by decide)
 have s1 := Dict.eqF nIF [69, 88, 73, 84] (by decide)
 have s2 := Dict.eqF nIF [82, 69, 67, 85, 82, 83, 69] (by decide)
 have s3 := Dict.eqF nIF [91, 67, 72, 65, 82, 93] (by decide)
 have s4 := Dict.eqF nIF [91, 39, 93] (by decide)
 have s5 := Dict.eqT nIF [73, 70] rfl
 have d1 : decide (16 ≤ op) = true := decide_eq_true ho
 have c4 := pfail_l v ws p (-22)
 unfold partP
 rw [if_neg (by decide)]
 rw [if_neg (by decide)]
 rw [if_neg (by decide)]
 rw [if_neg (by decide)]
 rw [if_neg (by decide)]
 rw [if_pos (by decide), if_pos ho]
 generalize failp p (-22) = q at *
 refine FnL.of_awp (T := tt) (ok := tok) Tryz.func32 (by kernel_rfl) rfl (by kernel_rfl) (by kernel_rfl) (fun w0 st0 lent c0 => ?_)
 dsimp only [frOf, hpFrom, List.length_cons, List.length_nil]
 (repeat' (first | refine goA ?_ | refine ARun.nilCheckP rfl rfl (guardF_spec rfl) ?_ | refine callK 1000 0 26 (encPl v ws p) (encPl v ws q) (c4) (encPl_closed v ws _) (encPl_closed v ws _) (RelL.cons (.ptr (j := 0) 0 0 rfl) (RelL.cons (.wk (.same _) (.val _)) (RelL.nil _))) smT ?_ | refine goB ?_ | fail))
 exact awp_ret ⟨_, ResL.cons (ResA.agg rfl rfl rfl rfl rfl rfl rfl resT) .nil, rfl, ⟨_, rfl, RlR.closed (one_cl (encPl_closed v ws q))⟩, trivial⟩
set_option maxHeartbeats 4000000 in
theorem part_IF1 (v : V) (ws : List Bs) (p : Ps) (R : RowF) (n : Nat) (hv : VOk v) (hws : ws.length ≤ 1000 ∧ ∀ w, w ∈ ws → w.length ≤ 1000) (hR : RowC v ws R n) (hM : MonoR R) (hH : HiR ws.length R) (op loops : Int) (h0 : 0 ≤ loops) (h1 : loops ≤ op) (h2 : op ≤ 16) (hp : p.at' ≤ ws.length) (hn : ws.length - p.at' < n) (ho : ¬ 16 ≤ op) : FnL Tryz.prog 32 [.ptr 1000 0 0 0, St nIF, .val (.int .i64 op), .val (.int .i64 loops)] [(26, [encPl v ws p])] (.agg (NC (partP ws R nIF op loops p).1)) [[encPl v ws (partP ws R nIF op loops p).2]] := by
 have s0 := Dict.eqF nIF [76, 69, 65, 86, 69] (by decide)
 have s1 := Dict.eqF nIF [69, 88, 73, 84] (by decide)
 have s2 := Dict.eqF nIF [82, 69, 67, 85, 82, 83, 69] (by decide)
 have s3 := Dict.eqF nIF [91, 67, 72, 65, 82, 93] (by decide)
 have s4 := Dict.eqF nIF [91, 39, 93] (by decide)
 have s5 := Dict.eqT nIF [73, 70] rfl
 have d1 : decide (16 ≤ op) = false := decide_eq_false ho
 have c1 := if_l v ws p R n hR hM hH (op + 1) loops h0 (by omega) (by omega) hp hn
 unfold partP
 rw [if_neg (by decide)]
 rw [if_neg (by decide)]
 rw [if_neg (by decide)]
 rw [if_neg (by decide)]
 rw [if_neg (by decide)]
 rw [if_pos (by decide), if_neg ho, show brP R nIF (op + 1) loops p = ifP R (op + 1) loops p from rfl]
 generalize ifP R (op + 1) loops p = r at *
 obtain ⟨x, q⟩ := r
 dsimp only at *
 refine FnL.of_awp (T := tt) (ok := tok) Tryz.func32 (by kernel_rfl) rfl (by kernel_rfl) (by kernel_rfl) (fun w0 st0 lent c0 => ?_)
 dsimp only [frOf, hpFrom, List.length_cons, List.length_nil]
 (repeat' (first | refine goA ?_ | refine ARun.nilCheckP rfl rfl (guardF_spec rfl) ?_ | refine callK 1000 0 26 (encPl v ws p) (encPl v ws q) (c1) (encPl_closed v ws _) (encPl_closed v ws _) (RelL.cons (.ptr (j := 0) 0 0 rfl) (RelL.cons (.wk (.same _) (.val _)) (RelL.cons (.wk (.same _) (.val _)) (RelL.cons (.wk (.same _) (.val _)) (RelL.nil _))))) (.same _ (.agg (NC_closed _))) ?_ | refine goB ?_ | fail))
 exact awp_ret ⟨_, ResL.cons (ResA.agg rfl rfl rfl rfl rfl rfl rfl resT) .nil, rfl, ⟨_, rfl, RlR.closed (one_cl (encPl_closed v ws q))⟩, trivial⟩
set_option maxHeartbeats 4000000 in
theorem part_BEGIN0 (v : V) (ws : List Bs) (p : Ps) (R : RowF) (n : Nat) (hv : VOk v) (hws : ws.length ≤ 1000 ∧ ∀ w, w ∈ ws → w.length ≤ 1000) (hR : RowC v ws R n) (hM : MonoR R) (hH : HiR ws.length R) (op loops : Int) (h0 : 0 ≤ loops) (h1 : loops ≤ op) (h2 : op ≤ 16) (hp : p.at' ≤ ws.length) (hn : ws.length - p.at' < n) (ho : 16 ≤ op) : FnL Tryz.prog 32 [.ptr 1000 0 0 0, St nBEGIN, .val (.int .i64 op), .val (.int .i64 loops)] [(26, [encPl v ws p])] (.agg (NC (partP ws R nBEGIN op loops p).1)) [[encPl v ws (partP ws R nBEGIN op loops p).2]] := by
 have s0 := Dict.eqF nBEGIN [76, 69, 65, 86, 69] (by decide)
 have s1 := Dict.eqF nBEGIN [69, 88, 73, 84] (by decide)
 have s2 := Dict.eqF nBEGIN [82, 69, 67, 85, 82, 83, 69] (by decide)
 have s3 := Dict.eqF nBEGIN [91, 67, 72, 65, 82, 93] (by decide)
 have s4 := Dict.eqF nBEGIN [91, 39, 93] (by decide)
 have s5 := Dict.eqF nBEGIN [73, 70] (by decide)
 have s6 := Dict.eqT nBEGIN [66, 69, 71, 73, 78] rfl
 have d1 : decide (16 ≤ op) = true := decide_eq_true ho
 have c4 := pfail_l v ws p (-22)
 unfold partP
 rw [if_neg (by decide)]
 rw [if_neg (by decide)]
 rw [if_neg (by decide)]
 rw [if_neg (by decide)]
 rw [if_neg (by decide)]
 rw [if_pos (by decide), if_pos ho]
 generalize failp p (-22) = q at *
 refine FnL.of_awp (T := tt) (ok := tok) Tryz.func32 (by kernel_rfl) rfl (by kernel_rfl) (by kernel_rfl) (fun w0 st0 lent c0 => ?_)
 dsimp only [frOf, hpFrom, List.length_cons, List.length_nil]
 (repeat' (first | refine goA ?_ | refine ARun.nilCheckP rfl rfl (guardF_spec rfl) ?_ | refine callK 1000 0 26 (encPl v ws p) (encPl v ws q) (c4) (encPl_closed v ws _) (encPl_closed v ws _) (RelL.cons (.ptr (j := 0) 0 0 rfl) (RelL.cons (.wk (.same _) (.val _)) (RelL.nil _))) smT ?_ | refine goB ?_ | fail))
 exact awp_ret ⟨_, ResL.cons (ResA.agg rfl rfl rfl rfl rfl rfl rfl resT) .nil, rfl, ⟨_, rfl, RlR.closed (one_cl (encPl_closed v ws q))⟩, trivial⟩
set_option maxHeartbeats 4000000 in
theorem part_BEGIN1 (v : V) (ws : List Bs) (p : Ps) (R : RowF) (n : Nat) (hv : VOk v) (hws : ws.length ≤ 1000 ∧ ∀ w, w ∈ ws → w.length ≤ 1000) (hR : RowC v ws R n) (hM : MonoR R) (hH : HiR ws.length R) (op loops : Int) (h0 : 0 ≤ loops) (h1 : loops ≤ op) (h2 : op ≤ 16) (hp : p.at' ≤ ws.length) (hn : ws.length - p.at' < n) (ho : ¬ 16 ≤ op) : FnL Tryz.prog 32 [.ptr 1000 0 0 0, St nBEGIN, .val (.int .i64 op), .val (.int .i64 loops)] [(26, [encPl v ws p])] (.agg (NC (partP ws R nBEGIN op loops p).1)) [[encPl v ws (partP ws R nBEGIN op loops p).2]] := by
 have s0 := Dict.eqF nBEGIN [76, 69, 65, 86, 69] (by decide)
 have s1 := Dict.eqF nBEGIN [69, 88, 73, 84] (by decide)
 have s2 := Dict.eqF nBEGIN [82, 69, 67, 85, 82, 83, 69] (by decide)
 have s3 := Dict.eqF nBEGIN [91, 67, 72, 65, 82, 93] (by decide)
 have s4 := Dict.eqF nBEGIN [91, 39, 93] (by decide)
 have s5 := Dict.eqF nBEGIN [73, 70] (by decide)
 have s6 := Dict.eqT nBEGIN [66, 69, 71, 73, 78] rfl
 have d1 : decide (16 ≤ op) = false := decide_eq_false ho
 have c1 := begin_l v ws p R n hR hM hH (op + 1) loops h0 (by omega) (by omega) hp hn
 unfold partP
 rw [if_neg (by decide)]
 rw [if_neg (by decide)]
 rw [if_neg (by decide)]
 rw [if_neg (by decide)]
 rw [if_neg (by decide)]
 rw [if_pos (by decide), if_neg ho, show brP R nBEGIN (op + 1) loops p = beginP R (op + 1) loops p from rfl]
 generalize beginP R (op + 1) loops p = r at *
 obtain ⟨x, q⟩ := r
 dsimp only at *
 refine FnL.of_awp (T := tt) (ok := tok) Tryz.func32 (by kernel_rfl) rfl (by kernel_rfl) (by kernel_rfl) (fun w0 st0 lent c0 => ?_)
 dsimp only [frOf, hpFrom, List.length_cons, List.length_nil]
 (repeat' (first | refine goA ?_ | refine ARun.nilCheckP rfl rfl (guardF_spec rfl) ?_ | refine callK 1000 0 26 (encPl v ws p) (encPl v ws q) (c1) (encPl_closed v ws _) (encPl_closed v ws _) (RelL.cons (.ptr (j := 0) 0 0 rfl) (RelL.cons (.wk (.same _) (.val _)) (RelL.cons (.wk (.same _) (.val _)) (RelL.cons (.wk (.same _) (.val _)) (RelL.nil _))))) (.same _ (.agg (NC_closed _))) ?_ | refine goB ?_ | fail))
 exact awp_ret ⟨_, ResL.cons (ResA.agg rfl rfl rfl rfl rfl rfl rfl resT) .nil, rfl, ⟨_, rfl, RlR.closed (one_cl (encPl_closed v ws q))⟩, trivial⟩
set_option maxHeartbeats 4000000 in
theorem part_DOW0 (v : V) (ws : List Bs) (p : Ps) (R : RowF) (n : Nat) (hv : VOk v) (hws : ws.length ≤ 1000 ∧ ∀ w, w ∈ ws → w.length ≤ 1000) (hR : RowC v ws R n) (hM : MonoR R) (hH : HiR ws.length R) (op loops : Int) (h0 : 0 ≤ loops) (h1 : loops ≤ op) (h2 : op ≤ 16) (hp : p.at' ≤ ws.length) (hn : ws.length - p.at' < n) (ho : 16 ≤ op) : FnL Tryz.prog 32 [.ptr 1000 0 0 0, St nDOW, .val (.int .i64 op), .val (.int .i64 loops)] [(26, [encPl v ws p])] (.agg (NC (partP ws R nDOW op loops p).1)) [[encPl v ws (partP ws R nDOW op loops p).2]] := by
 have s0 := Dict.eqF nDOW [76, 69, 65, 86, 69] (by decide)
 have s1 := Dict.eqF nDOW [69, 88, 73, 84] (by decide)
 have s2 := Dict.eqF nDOW [82, 69, 67, 85, 82, 83, 69] (by decide)
 have s3 := Dict.eqF nDOW [91, 67, 72, 65, 82, 93] (by decide)
 have s4 := Dict.eqF nDOW [91, 39, 93] (by decide)
 have s5 := Dict.eqF nDOW [73, 70] (by decide)
 have s6 := Dict.eqF nDOW [66, 69, 71, 73, 78] (by decide)
 have s7 := Dict.eqT nDOW [68, 79] rfl
 have d1 : decide (16 ≤ op) = true := decide_eq_true ho
 have c4 := pfail_l v ws p (-22)
 unfold partP
 rw [if_neg (by decide)]
 rw [if_neg (by decide)]
 rw [if_neg (by decide)]
 rw [if_neg (by decide)]
 rw [if_neg (by decide)]
 rw [if_pos (by decide), if_pos ho]
 generalize failp p (-22) = q at *
 refine FnL.of_awp (T := tt) (ok := tok) Tryz.func32 (by kernel_rfl) rfl (by kernel_rfl) (by kernel_rfl) (fun w0 st0 lent c0 => ?_)
 dsimp only [frOf, hpFrom, List.length_cons, List.length_nil]
 (repeat' (first | refine goA ?_ | refine ARun.nilCheckP rfl rfl (guardF_spec rfl) ?_ | refine callK 1000 0 26 (encPl v ws p) (encPl v ws q) (c4) (encPl_closed v ws _) (encPl_closed v ws _) (RelL.cons (.ptr (j := 0) 0 0 rfl) (RelL.cons (.wk (.same _) (.val _)) (RelL.nil _))) smT ?_ | refine goB ?_ | fail))
 exact awp_ret ⟨_, ResL.cons (ResA.agg rfl rfl rfl rfl rfl rfl rfl resT) .nil, rfl, ⟨_, rfl, RlR.closed (one_cl (encPl_closed v ws q))⟩, trivial⟩
set_option maxHeartbeats 4000000 in
theorem part_DOW1 (v : V) (ws : List Bs) (p : Ps) (R : RowF) (n : Nat) (hv : VOk v) (hws : ws.length ≤ 1000 ∧ ∀ w, w ∈ ws → w.length ≤ 1000) (hR : RowC v ws R n) (hM : MonoR R) (hH : HiR ws.length R) (op loops : Int) (h0 : 0 ≤ loops) (h1 : loops ≤ op) (h2 : op ≤ 16) (hp : p.at' ≤ ws.length) (hn : ws.length - p.at' < n) (ho : ¬ 16 ≤ op) : FnL Tryz.prog 32 [.ptr 1000 0 0 0, St nDOW, .val (.int .i64 op), .val (.int .i64 loops)] [(26, [encPl v ws p])] (.agg (NC (partP ws R nDOW op loops p).1)) [[encPl v ws (partP ws R nDOW op loops p).2]] := by
 have s0 := Dict.eqF nDOW [76, 69, 65, 86, 69] (by decide)
 have s1 := Dict.eqF nDOW [69, 88, 73, 84] (by decide)
 have s2 := Dict.eqF nDOW [82, 69, 67, 85, 82, 83, 69] (by decide)
 have s3 := Dict.eqF nDOW [91, 67, 72, 65, 82, 93] (by decide)
 have s4 := Dict.eqF nDOW [91, 39, 93] (by decide)
 have s5 := Dict.eqF nDOW [73, 70] (by decide)
 have s6 := Dict.eqF nDOW [66, 69, 71, 73, 78] (by decide)
 have s7 := Dict.eqT nDOW [68, 79] rfl
 have d1 : decide (16 ≤ op) = false := decide_eq_false ho
 have c1 := do_l v ws p R n hR hM hH (op + 1) loops h0 (by omega) (by omega) hp hn nDOW (.inl rfl) (by omega)
 unfold partP
 rw [if_neg (by decide)]
 rw [if_neg (by decide)]
 rw [if_neg (by decide)]
 rw [if_neg (by decide)]
 rw [if_neg (by decide)]
 rw [if_pos (by decide), if_neg ho, show brP R nDOW (op + 1) loops p = doP R nDOW (op + 1) loops p from rfl]
 generalize doP R nDOW (op + 1) loops p = r at *
 obtain ⟨x, q⟩ := r
 dsimp only at *
 refine FnL.of_awp (T := tt) (ok := tok) Tryz.func32 (by kernel_rfl) rfl (by kernel_rfl) (by kernel_rfl) (fun w0 st0 lent c0 => ?_)
 dsimp only [frOf, hpFrom, List.length_cons, List.length_nil]
 (repeat' (first | refine goA ?_ | refine ARun.nilCheckP rfl rfl (guardF_spec rfl) ?_ | refine callK 1000 0 26 (encPl v ws p) (encPl v ws q) (c1) (encPl_closed v ws _) (encPl_closed v ws _) (RelL.cons (.ptr (j := 0) 0 0 rfl) (RelL.cons (.wk (.same _) (.val _)) (RelL.cons (.wk (.same _) (.val _)) (RelL.cons (.wk (.same _) (.val _)) (RelL.nil _))))) (.same _ (.agg (NC_closed _))) ?_ | refine goB ?_ | fail))
 exact awp_ret ⟨_, ResL.cons (ResA.agg rfl rfl rfl rfl rfl rfl rfl resT) .nil, rfl, ⟨_, rfl, RlR.closed (one_cl (encPl_closed v ws q))⟩, trivial⟩
set_option maxHeartbeats 4000000 in
theorem part_QDO0 (v : V) (ws : List Bs) (p : Ps) (R : RowF) (n : Nat) (hv : VOk v) (hws : ws.length ≤ 1000 ∧ ∀ w, w ∈ ws → w.length ≤ 1000) (hR : RowC v ws R n) (hM : MonoR R) (hH : HiR ws.length R) (op loops : Int) (h0 : 0 ≤ loops) (h1 : loops ≤ op) (h2 : op ≤ 16) (hp : p.at' ≤ ws.length) (hn : ws.length - p.at' < n) (ho : 16 ≤ op) : FnL Tryz.prog 32 [.ptr 1000 0 0 0, St nQDO, .val (.int .i64 op), .val (.int .i64 loops)] [(26, [encPl v ws p])] (.agg (NC (partP ws R nQDO op loops p).1)) [[encPl v ws (partP ws R nQDO op loops p).2]] := by
 have s0 := Dict.eqF nQDO [76, 69, 65, 86, 69] (by decide)
 have s1 := Dict.eqF nQDO [69, 88, 73, 84] (by decide)
 have s2 := Dict.eqF nQDO [82, 69, 67, 85, 82, 83, 69] (by decide)
 have s3 := Dict.eqF nQDO [91, 67, 72, 65, 82, 93] (by decide)
 have s4 := Dict.eqF nQDO [91, 39, 93] (by decide)
 have s5 := Dict.eqF nQDO [73, 70] (by decide)
 have s6 := Dict.eqF nQDO [66, 69, 71, 73, 78] (by decide)
 have s7 := Dict.eqF nQDO [68, 79] (by decide)
 have s8 := Dict.eqT nQDO [63, 68, 79] rfl
 have d1 : decide (16 ≤ op) = true := decide_eq_true ho
 have c4 := pfail_l v ws p (-22)
 unfold partP
 rw [if_neg (by decide)]
 rw [if_neg (by decide)]
 rw [if_neg (by decide)]
 rw [if_neg (by decide)]
 rw [if_neg (by decide)]
 rw [if_pos (by decide), if_pos ho]
 generalize failp p (-22) = q at *
 refine FnL.of_awp (T := tt) (ok := tok) Tryz.func32 (by kernel_rfl) rfl (by kernel_rfl) (by kernel_rfl) (fun w0 st0 lent c0 => ?_)
 dsimp only [frOf, hpFrom, List.length_cons, List.length_nil]
 (repeat' (first | refine goA ?_ | refine ARun.nilCheckP rfl rfl (guardF_spec rfl) ?_ | refine callK 1000 0 26 (encPl v ws p) (encPl v ws q) (c4) (encPl_closed v ws _) (encPl_closed v ws _) (RelL.cons (.ptr (j := 0) 0 0 rfl) (RelL.cons (.wk (.same _) (.val _)) (RelL.nil _))) smT ?_ | refine goB ?_ | fail))
 exact awp_ret ⟨_, ResL.cons (ResA.agg rfl rfl rfl rfl rfl rfl rfl resT) .nil, rfl, ⟨_, rfl, RlR.closed (one_cl (encPl_closed v ws q))⟩, trivial⟩
set_option maxHeartbeats 4000000 in
theorem part_QDO1 (v : V) (ws : List Bs) (p : Ps) (R : RowF) (n : Nat) (hv : VOk v) (hws : ws.length ≤ 1000 ∧ ∀ w, w ∈ ws → w.length ≤ 1000) (hR : RowC v ws R n) (hM : MonoR R) (hH : HiR ws.length R) (op loops : Int) (h0 : 0 ≤ loops) (h1 : loops ≤ op) (h2 : op ≤ 16) (hp : p.at' ≤ ws.length) (hn : ws.length - p.at' < n) (ho : ¬ 16 ≤ op) : FnL Tryz.prog 32 [.ptr 1000 0 0 0, St nQDO, .val (.int .i64 op), .val (.int .i64 loops)] [(26, [encPl v ws p])] (.agg (NC (partP ws R nQDO op loops p).1)) [[encPl v ws (partP ws R nQDO op loops p).2]] := by
 have s0 := Dict.eqF nQDO [76, 69, 65, 86, 69] (by decide)
 have s1 := Dict.eqF nQDO [69, 88, 73, 84] (by decide)
 have s2 := Dict.eqF nQDO [82, 69, 67, 85, 82, 83, 69] (by decide)
 have s3 := Dict.eqF nQDO [91, 67, 72, 65, 82, 93] (by decide)
 have s4 := Dict.eqF nQDO [91, 39, 93] (by decide)
 have s5 := Dict.eqF nQDO [73, 70] (by decide)
 have s6 := Dict.eqF nQDO [66, 69, 71, 73, 78] (by decide)
 have s7 := Dict.eqF nQDO [68, 79] (by decide)
 have s8 := Dict.eqT nQDO [63, 68, 79] rfl
 have d1 : decide (16 ≤ op) = false := decide_eq_false ho
 have c1 := do_l v ws p R n hR hM hH (op + 1) loops h0 (by omega) (by omega) hp hn nQDO (.inr rfl) (by omega)
 unfold partP
 rw [if_neg (by decide)]
 rw [if_neg (by decide)]
 rw [if_neg (by decide)]
 rw [if_neg (by decide)]
 rw [if_neg (by decide)]
 rw [if_pos (by decide), if_neg ho, show brP R nQDO (op + 1) loops p = doP R nQDO (op + 1) loops p from rfl]
 generalize doP R nQDO (op + 1) loops p = r at *
 obtain ⟨x, q⟩ := r
 dsimp only at *
 refine FnL.of_awp (T := tt) (ok := tok) Tryz.func32 (by kernel_rfl) rfl (by kernel_rfl) (by kernel_rfl) (fun w0 st0 lent c0 => ?_)
 dsimp only [frOf, hpFrom, List.length_cons, List.length_nil]
 (repeat' (first | refine goA ?_ | refine ARun.nilCheckP rfl rfl (guardF_spec rfl) ?_ | refine callK 1000 0 26 (encPl v ws p) (encPl v ws q) (c1) (encPl_closed v ws _) (encPl_closed v ws _) (RelL.cons (.ptr (j := 0) 0 0 rfl) (RelL.cons (.wk (.same _) (.val _)) (RelL.cons (.wk (.same _) (.val _)) (RelL.cons (.wk (.same _) (.val _)) (RelL.nil _))))) (.same _ (.agg (NC_closed _))) ?_ | refine goB ?_ | fail))
 exact awp_ret ⟨_, ResL.cons (ResA.agg rfl rfl rfl rfl rfl rfl rfl resT) .nil, rfl, ⟨_, rfl, RlR.closed (one_cl (encPl_closed v ws q))⟩, trivial⟩
set_option maxHeartbeats 4000000 in
theorem part_ELSE (v : V) (ws : List Bs) (p : Ps) (R : RowF) (n : Nat) (hv : VOk v) (hws : ws.length ≤ 1000 ∧ ∀ w, w ∈ ws → w.length ≤ 1000) (hR : RowC v ws R n) (hM : MonoR R) (hH : HiR ws.length R) (op loops : Int) (h0 : 0 ≤ loops) (h1 : loops ≤ op) (h2 : op ≤ 16) (hp : p.at' ≤ ws.length) (hn : ws.length - p.at' < n) : FnL Tryz.prog 32 [.ptr 1000 0 0 0, St nELSE, .val (.int .i64 op), .val (.int .i64 loops)] [(26, [encPl v ws p])] (.agg (NC (partP ws R nELSE op loops p).1)) [[encPl v ws (partP ws R nELSE op loops p).2]] := by
 have s0 := Dict.eqF nELSE [76, 69, 65, 86, 69] (by decide)
 have s1 := Dict.eqF nELSE [69, 88, 73, 84] (by decide)
 have s2 := Dict.eqF nELSE [82, 69, 67, 85, 82, 83, 69] (by decide)
 have s3 := Dict.eqF nELSE [91, 67, 72, 65, 82, 93] (by decide)
 have s4 := Dict.eqF nELSE [91, 39, 93] (by decide)
 have s5 := Dict.eqF nELSE [73, 70] (by decide)
 have s6 := Dict.eqF nELSE [66, 69, 71, 73, 78] (by decide)
 have s7 := Dict.eqF nELSE [68, 79] (by decide)
 have s8 := Dict.eqF nELSE [63, 68, 79] (by decide)
 have s9 := Dict.eqT nELSE [69, 76, 83, 69] rfl
 have c4 := pfail_l v ws p (-22)
 have c5 := pfail_l v ws (failp p (-22)) (-32)
 rw [failp_2] at c5
 unfold partP
 rw [if_neg (by decide)]
 rw [if_neg (by decide)]
 rw [if_neg (by decide)]
 rw [if_neg (by decide)]
 rw [if_neg (by decide)]
 rw [if_neg (by decide), if_pos (by decide)]
 generalize failp p (-22) = q at *
 refine FnL.of_awp (T := tt) (ok := tok) Tryz.func32 (by kernel_rfl) rfl (by kernel_rfl) (by kernel_rfl) (fun w0 st0 lent c0 => ?_)
 dsimp only [frOf, hpFrom, List.length_cons, List.length_nil]
 (repeat' (first | refine goA ?_ | refine ARun.nilCheckP rfl rfl (guardF_spec rfl) ?_ | refine callK 1000 0 26 (encPl v ws p) (encPl v ws q) (c4) (encPl_closed v ws _) (encPl_closed v ws _) (RelL.cons (.ptr (j := 0) 0 0 rfl) (RelL.cons (.wk (.same _) (.val _)) (RelL.nil _))) smT ?_ | refine callK 1000 0 26 (encPl v ws q) (encPl v ws q) (c5) (encPl_closed v ws _) (encPl_closed v ws _) (RelL.cons (.ptr (j := 0) 0 0 rfl) (RelL.cons (.wk (.same _) (.val _)) (RelL.nil _))) smT ?_ | refine goB ?_ | fail))
 exact awp_ret ⟨_, ResL.cons (ResA.agg rfl rfl rfl rfl rfl rfl rfl resT) .nil, rfl, ⟨_, rfl, RlR.closed (one_cl (encPl_closed v ws q))⟩, trivial⟩
set_option maxHeartbeats 4000000 in
theorem part_THEN (v : V) (ws : List Bs) (p : Ps) (R : RowF) (n : Nat) (hv : VOk v) (hws : ws.length ≤ 1000 ∧ ∀ w, w ∈ ws → w.length ≤ 1000) (hR : RowC v ws R n) (hM : MonoR R) (hH : HiR ws.length R) (op loops : Int) (h0 : 0 ≤ loops) (h1 : loops ≤ op) (h2 : op ≤ 16) (hp : p.at' ≤ ws.length) (hn : ws.length - p.at' < n) : FnL Tryz.prog 32 [.ptr 1000 0 0 0, St nTHEN, .val (.int .i64 op), .val (.int .i64 loops)] [(26, [encPl v ws p])] (.agg (NC (partP ws R nTHEN op loops p).1)) [[encPl v ws (partP ws R nTHEN op loops p).2]] := by
 have s0 := Dict.eqF nTHEN [76, 69, 65, 86, 69] (by decide)
 have s1 := Dict.eqF nTHEN [69, 88, 73, 84] (by decide)
 have s2 := Dict.eqF nTHEN [82, 69, 67, 85, 82, 83, 69] (by decide)
 have s3 := Dict.eqF nTHEN [91, 67, 72, 65, 82, 93] (by decide)
 have s4 := Dict.eqF nTHEN [91, 39, 93] (by decide)
 have s5 := Dict.eqF nTHEN [73, 70] (by decide)
 have s6 := Dict.eqF nTHEN [66, 69, 71, 73, 78] (by decide)
 have s7 := Dict.eqF nTHEN [68, 79] (by decide)
 have s8 := Dict.eqF nTHEN [63, 68, 79] (by decide)
 have s9 := Dict.eqF nTHEN [69, 76, 83, 69] (by decide)
 have s10 := Dict.eqT nTHEN [84, 72, 69, 78] rfl
 have c4 := pfail_l v ws p (-22)
 have c5 := pfail_l v ws (failp p (-22)) (-32)
 rw [failp_2] at c5
 unfold partP
 rw [if_neg (by decide)]
 rw [if_neg (by decide)]
 rw [if_neg (by decide)]
 rw [if_neg (by decide)]
 rw [if_neg (by decide)]
 rw [if_neg (by decide), if_pos (by decide)]
 generalize failp p (-22) = q at *
 refine FnL.of_awp (T := tt) (ok := tok) Tryz.func32 (by kernel_rfl) rfl (by kernel_rfl) (by kernel_rfl) (fun w0 st0 lent c0 => ?_)
 dsimp only [frOf, hpFrom, List.length_cons, List.length_nil]
 (repeat' (first | refine goA ?_ | refine ARun.nilCheckP rfl rfl (guardF_spec rfl) ?_ | refine callK 1000 0 26 (encPl v ws p) (encPl v ws q) (c4) (encPl_closed v ws _) (encPl_closed v ws _) (RelL.cons (.ptr (j := 0) 0 0 rfl) (RelL.cons (.wk (.same _) (.val _)) (RelL.nil _))) smT ?_ | refine callK 1000 0 26 (encPl v ws q) (encPl v ws q) (c5) (encPl_closed v ws _) (encPl_closed v ws _) (RelL.cons (.ptr (j := 0) 0 0 rfl) (RelL.cons (.wk (.same _) (.val _)) (RelL.nil _))) smT ?_ | refine goB ?_ | fail))
 exact awp_ret ⟨_, ResL.cons (ResA.agg rfl rfl rfl rfl rfl rfl rfl resT) .nil, rfl, ⟨_, rfl, RlR.closed (one_cl (encPl_closed v ws q))⟩, trivial⟩
set_option maxHeartbeats 4000000 in
theorem part_WHILE (v : V) (ws : List Bs) (p : Ps) (R : RowF) (n : Nat) (hv : VOk v) (hws : ws.length ≤ 1000 ∧ ∀ w, w ∈ ws → w.length ≤ 1000) (hR : RowC v ws R n) (hM : MonoR R) (hH : HiR ws.length R) (op loops : Int) (h0 : 0 ≤ loops) (h1 : loops ≤ op) (h2 : op ≤ 16) (hp : p.at' ≤ ws.length) (hn : ws.length - p.at' < n) : FnL Tryz.prog 32 [.ptr 1000 0 0 0, St nWHILE, .val (.int .i64 op), .val (.int .i64 loops)] [(26, [encPl v ws p])] (.agg (NC (partP ws R nWHILE op loops p).1)) [[encPl v ws (partP ws R nWHILE op loops p).2]] := by
 have s0 := Dict.eqF nWHILE [76, 69, 65, 86, 69] (by decide)
 have s1 := Dict.eqF nWHILE [69, 88, 73, 84] (by decide)
 have s2 := Dict.eqF nWHILE [82, 69, 67, 85, 82, 83, 69] (by decide)
 have s3 := Dict.eqF nWHILE [91, 67, 72, 65, 82, 93] (by decide)
 have s4 := Dict.eqF nWHILE [91, 39, 93] (by decide)
 have s5 := Dict.eqF nWHILE [73, 70] (by decide)
 have s6 := Dict.eqF nWHILE [66, 69, 71, 73, 78] (by decide)
 have s7 := Dict.eqF nWHILE [68, 79] (by decide)
 have s8 := Dict.eqF nWHILE [63, 68, 79] (by decide)
 have s9 := Dict.eqF nWHILE [69, 76, 83, 69] (by decide)
 have s10 := Dict.eqF nWHILE [84, 72, 69, 78] (by decide)
 have s11 := Dict.eqT nWHILE [87, 72, 73, 76, 69] rfl
 have c4 := pfail_l v ws p (-22)
 have c5 := pfail_l v ws (failp p (-22)) (-32)
 rw [failp_2] at c5
 unfold partP
 rw [if_neg (by decide)]
 rw [if_neg (by decide)]
 rw [if_neg (by decide)]
 rw [if_neg (by decide)]
 rw [if_neg (by decide)]
 rw [if_neg (by decide), if_pos (by decide)]
 generalize failp p (-22) = q at *
 refine FnL.of_awp (T := tt) (ok := tok) Tryz.func32 (by kernel_rfl) rfl (by kernel_rfl) (by kernel_rfl) (fun w0 st0 lent c0 => ?_)
 dsimp only [frOf, hpFrom, List.length_cons, List.length_nil]
 (repeat' (first | refine goA ?_ | refine ARun.nilCheckP rfl rfl (guardF_spec rfl) ?_ | refine callK 1000 0 26 (encPl v ws p) (encPl v ws q) (c4) (encPl_closed v ws _) (encPl_closed v ws _) (RelL.cons (.ptr (j := 0) 0 0 rfl) (RelL.cons (.wk (.same _) (.val _)) (RelL.nil _))) smT ?_ | refine callK 1000 0 26 (encPl v ws q) (encPl v ws q) (c5) (encPl_closed v ws _) (encPl_closed v ws _) (RelL.cons (.ptr (j := 0) 0 0 rfl) (RelL.cons (.wk (.same _) (.val _)) (RelL.nil _))) smT ?_ | refine goB ?_ | fail))
 exact awp_ret ⟨_, ResL.cons (ResA.agg rfl rfl rfl rfl rfl rfl rfl resT) .nil, rfl, ⟨_, rfl, RlR.closed (one_cl (encPl_closed v ws q))⟩, trivial⟩
set_option maxHeartbeats 4000000 in
theorem part_REPEAT (v : V) (ws : List Bs) (p : Ps) (R : RowF) (n : Nat) (hv : VOk v) (hws : ws.length ≤ 1000 ∧ ∀ w, w ∈ ws → w.length ≤ 1000) (hR : RowC v ws R n) (hM : MonoR R) (hH : HiR ws.length R) (op loops : Int) (h0 : 0 ≤ loops) (h1 : loops ≤ op) (h2 : op ≤ 16) (hp : p.at' ≤ ws.length) (hn : ws.length - p.at' < n) : FnL Tryz.prog 32 [.ptr 1000 0 0 0, St nREPEAT, .val (.int .i64 op), .val (.int .i64 loops)] [(26, [encPl v ws p])] (.agg (NC (partP ws R nREPEAT op loops p).1)) [[encPl v ws (partP ws R nREPEAT op loops p).2]] := by
 have s0 := Dict.eqF nREPEAT [76, 69, 65, 86, 69] (by decide)
 have s1 := Dict.eqF nREPEAT [69, 88, 73, 84] (by decide)
 have s2 := Dict.eqF nREPEAT [82, 69, 67, 85, 82, 83, 69] (by decide)
 have s3 := Dict.eqF nREPEAT [91, 67, 72, 65, 82, 93] (by decide)
 have s4 := Dict.eqF nREPEAT [91, 39, 93] (by decide)
 have s5 := Dict.eqF nREPEAT [73, 70] (by decide)
 have s6 := Dict.eqF nREPEAT [66, 69, 71, 73, 78] (by decide)
 have s7 := Dict.eqF nREPEAT [68, 79] (by decide)
 have s8 := Dict.eqF nREPEAT [63, 68, 79] (by decide)
 have s9 := Dict.eqF nREPEAT [69, 76, 83, 69] (by decide)
 have s10 := Dict.eqF nREPEAT [84, 72, 69, 78] (by decide)
 have s11 := Dict.eqF nREPEAT [87, 72, 73, 76, 69] (by decide)
 have s12 := Dict.eqT nREPEAT [82, 69, 80, 69, 65, 84] rfl
 have c4 := pfail_l v ws p (-22)
 have c5 := pfail_l v ws (failp p (-22)) (-32)
 rw [failp_2] at c5
 unfold partP
 rw [if_neg (by decide)]
 rw [if_neg (by decide)]
 rw [if_neg (by decide)]
 rw [if_neg (by decide)]
 rw [if_neg (by decide)]
 rw [if_neg (by decide), if_pos (by decide)]
 generalize failp p (-22) = q at *
 refine FnL.of_awp (T := tt) (ok := tok) Tryz.func32 (by kernel_rfl) rfl (by kernel_rfl) (by kernel_rfl) (fun w0 st0 lent c0 => ?_)
 dsimp only [frOf, hpFrom, List.length_cons, List.length_nil]
 (repeat' (first | refine goA ?_ | refine ARun.nilCheckP rfl rfl (guardF_spec rfl) ?_ | refine callK 1000 0 26 (encPl v ws p) (encPl v ws q) (c4) (encPl_closed v ws _) (encPl_closed v ws _) (RelL.cons (.ptr (j := 0) 0 0 rfl) (RelL.cons (.wk (.same _) (.val _)) (RelL.nil _))) smT ?_ | refine callK 1000 0 26 (encPl v ws q) (encPl v ws q) (c5) (encPl_closed v ws _) (encPl_closed v ws _) (RelL.cons (.ptr (j := 0) 0 0 rfl) (RelL.cons (.wk (.same _) (.val _)) (RelL.nil _))) smT ?_ | refine goB ?_ | fail))
 exact awp_ret ⟨_, ResL.cons (ResA.agg rfl rfl rfl rfl rfl rfl rfl resT) .nil, rfl, ⟨_, rfl, RlR.closed (one_cl (encPl_closed v ws q))⟩, trivial⟩
set_option maxHeartbeats 4000000 in
theorem part_UNTIL (v : V) (ws : List Bs) (p : Ps) (R : RowF) (n : Nat) (hv : VOk v) (hws : ws.length ≤ 1000 ∧ ∀ w, w ∈ ws → w.length ≤ 1000) (hR : RowC v ws R n) (hM : MonoR R) (hH : HiR ws.length R) (op loops : Int) (h0 : 0 ≤ loops) (h1 : loops ≤ op) (h2 : op ≤ 16) (hp : p.at' ≤ ws.length) (hn : ws.length - p.at' < n) : FnL Tryz.prog 32 [.ptr 1000 0 0 0, St nUNTIL, .val (.int .i64 op), .val (.int .i64 loops)] [(26, [encPl v ws p])] (.agg (NC (partP ws R nUNTIL op loops p).1)) [[encPl v ws (partP ws R nUNTIL op loops p).2]] := by
 have s0 := Dict.eqF nUNTIL [76, 69, 65, 86, 69] (by decide)
 have s1 := Dict.eqF nUNTIL [69, 88, 73, 84] (by decide)
 have s2 := Dict.eqF nUNTIL [82, 69, 67, 85, 82, 83, 69] (by decide)
 have s3 := Dict.eqF nUNTIL [91, 67, 72, 65, 82, 93] (by decide)
 have s4 := Dict.eqF nUNTIL [91, 39, 93] (by decide)
 have s5 := Dict.eqF nUNTIL [73, 70] (by decide)
 have s6 := Dict.eqF nUNTIL [66, 69, 71, 73, 78] (by decide)
 have s7 := Dict.eqF nUNTIL [68, 79] (by decide)
 have s8 := Dict.eqF nUNTIL [63, 68, 79] (by decide)
 have s9 := Dict.eqF nUNTIL [69, 76, 83, 69] (by decide)
 have s10 := Dict.eqF nUNTIL [84, 72, 69, 78] (by decide)
 have s11 := Dict.eqF nUNTIL [87, 72, 73, 76, 69] (by decide)
 have s12 := Dict.eqF nUNTIL [82, 69, 80, 69, 65, 84] (by decide)
 have s13 := Dict.eqT nUNTIL [85, 78, 84, 73, 76] rfl
 have c4 := pfail_l v ws p (-22)
 have c5 := pfail_l v ws (failp p (-22)) (-32)
 rw [failp_2] at c5
 unfold partP
 rw [if_neg (by decide)]
 rw [if_neg (by decide)]
 rw [if_neg (by decide)]
 rw [if_neg (by decide)]
 rw [if_neg (by decide)]
 rw [if_neg (by decide), if_pos (by decide)]
 generalize failp p (-22) = q at *
 refine FnL.of_awp (T := tt) (ok := tok) Tryz.func32 (by kernel_rfl) rfl (by kernel_rfl) (by kernel_rfl) (fun w0 st0 lent c0 => ?_)
 dsimp only [frOf, hpFrom, List.length_cons, List.length_nil]
 (repeat' (first | refine goA ?_ | refine ARun.nilCheckP rfl rfl (guardF_spec rfl) ?_ | refine callK 1000 0 26 (encPl v ws p) (encPl v ws q) (c4) (encPl_closed v ws _) (encPl_closed v ws _) (RelL.cons (.ptr (j := 0) 0 0 rfl) (RelL.cons (.wk (.same _) (.val _)) (RelL.nil _))) smT ?_ | refine callK 1000 0 26 (encPl v ws q) (encPl v ws q) (c5) (encPl_closed v ws _) (encPl_closed v ws _) (RelL.cons (.ptr (j := 0) 0 0 rfl) (RelL.cons (.wk (.same _) (.val _)) (RelL.nil _))) smT ?_ | refine goB ?_ | fail))
 exact awp_ret ⟨_, ResL.cons (ResA.agg rfl rfl rfl rfl rfl rfl rfl resT) .nil, rfl, ⟨_, rfl, RlR.closed (one_cl (encPl_closed v ws q))⟩, trivial⟩
set_option maxHeartbeats 4000000 in
theorem part_AGAIN (v : V) (ws : List Bs) (p : Ps) (R : RowF) (n : Nat) (hv : VOk v) (hws : ws.length ≤ 1000 ∧ ∀ w, w ∈ ws → w.length ≤ 1000) (hR : RowC v ws R n) (hM : MonoR R) (hH : HiR ws.length R) (op loops : Int) (h0 : 0 ≤ loops) (h1 : loops ≤ op) (h2 : op ≤ 16) (hp : p.at' ≤ ws.length) (hn : ws.length - p.at' < n) : FnL Tryz.prog 32 [.ptr 1000 0 0 0, St nAGAIN, .val (.int .i64 op), .val (.int .i64 loops)] [(26, [encPl v ws p])] (.agg (NC (partP ws R nAGAIN op loops p).1)) [[encPl v ws (partP ws R nAGAIN op loops p).2]] := by
 have s0 := Dict.eqF nAGAIN [76, 69, 65, 86, 69] (by decide)
 have s1 := Dict.eqF nAGAIN [69, 88, 73, 84] (by decide)
 have s2 := Dict.eqF nAGAIN [82, 69, 67, 85, 82, 83, 69] (by decide)
 have s3 := Dict.eqF nAGAIN [91, 67, 72, 65, 82, 93] (by decide)
 have s4 := Dict.eqF nAGAIN [91, 39, 93] (by decide)
 have s5 := Dict.eqF nAGAIN [73, 70] (by decide)
 have s6 := Dict.eqF nAGAIN [66, 69, 71, 73, 78] (by decide)
 have s7 := Dict.eqF nAGAIN [68, 79] (by decide)
 have s8 := Dict.eqF nAGAIN [63, 68, 79] (by decide)
 have s9 := Dict.eqF nAGAIN [69, 76, 83, 69] (by decide)
 have s10 := Dict.eqF nAGAIN [84, 72, 69, 78] (by decide)
 have s11 := Dict.eqF nAGAIN [87, 72, 73, 76, 69] (by decide)
 have s12 := Dict.eqF nAGAIN [82, 69, 80, 69, 65, 84] (by decide)
 have s13 := Dict.eqF nAGAIN [85, 78, 84, 73, 76] (by decide)
 have s14 := Dict.eqT nAGAIN [65, 71, 65, 73, 78] rfl
 have c4 := pfail_l v ws p (-22)
 have c5 := pfail_l v ws (failp p (-22)) (-32)
 rw [failp_2] at c5
 unfold partP
 rw [if_neg (by decide)]
 rw [if_neg (by decide)]
 rw [if_neg (by decide)]
 rw [if_neg (by decide)]
 rw [if_neg (by decide)]
 rw [if_neg (by decide), if_pos (by decide)]
 generalize failp p (-22) = q at *
 refine FnL.of_awp (T := tt) (ok := tok) Tryz.func32 (by kernel_rfl) rfl (by kernel_rfl) (by kernel_rfl) (fun w0 st0 lent c0 => ?_)
 dsimp only [frOf, hpFrom, List.length_cons, List.length_nil]
 (repeat' (first | refine goA ?_ | refine ARun.nilCheckP rfl rfl (guardF_spec rfl) ?_ | refine callK 1000 0 26 (encPl v ws p) (encPl v ws q) (c4) (encPl_closed v ws _) (encPl_closed v ws _) (RelL.cons (.ptr (j := 0) 0 0 rfl) (RelL.cons (.wk (.same _) (.val _)) (RelL.nil _))) smT ?_ | refine callK 1000 0 26 (encPl v ws q) (encPl v ws q) (c5) (encPl_closed v ws _) (encPl_closed v ws _) (RelL.cons (.ptr (j := 0) 0 0 rfl) (RelL.cons (.wk (.same _) (.val _)) (RelL.nil _))) smT ?_ | refine goB ?_ | fail))
 exact awp_ret ⟨_, ResL.cons (ResA.agg rfl rfl rfl rfl rfl rfl rfl resT) .nil, rfl, ⟨_, rfl, RlR.closed (one_cl (encPl_closed v ws q))⟩, trivial⟩
set_option maxHeartbeats 4000000 in
theorem part_LOOP (v : V) (ws : List Bs) (p : Ps) (R : RowF) (n : Nat) (hv : VOk v) (hws : ws.length ≤ 1000 ∧ ∀ w, w ∈ ws → w.length ≤ 1000) (hR : RowC v ws R n) (hM : MonoR R) (hH : HiR ws.length R) (op loops : Int) (h0 : 0 ≤ loops) (h1 : loops ≤ op) (h2 : op ≤ 16) (hp : p.at' ≤ ws.length) (hn : ws.length - p.at' < n) : FnL Tryz.prog 32 [.ptr 1000 0 0 0, St nLOOP, .val (.int .i64 op), .val (.int .i64 loops)] [(26, [encPl v ws p])] (.agg (NC (partP ws R nLOOP op loops p).1)) [[encPl v ws (partP ws R nLOOP op loops p).2]] := by
 have s0 := Dict.eqF nLOOP [76, 69, 65, 86, 69] (by decide)
 have s1 := Dict.eqF nLOOP [69, 88, 73, 84] (by decide)
 have s2 := Dict.eqF nLOOP [82, 69, 67, 85, 82, 83, 69] (by decide)
 have s3 := Dict.eqF nLOOP [91, 67, 72, 65, 82, 93] (by decide)
 have s4 := Dict.eqF nLOOP [91, 39, 93] (by decide)
 have s5 := Dict.eqF nLOOP [73, 70] (by decide)
 have s6 := Dict.eqF nLOOP [66, 69, 71, 73, 78] (by decide)
 have s7 := Dict.eqF nLOOP [68, 79] (by decide)
 have s8 := Dict.eqF nLOOP [63, 68, 79] (by decide)
 have s9 := Dict.eqF nLOOP [69, 76, 83, 69] (by decide)
 have s10 := Dict.eqF nLOOP [84, 72, 69, 78] (by decide)
 have s11 := Dict.eqF nLOOP [87, 72, 73, 76, 69] (by decide)
 have s12 := Dict.eqF nLOOP [82, 69, 80, 69, 65, 84] (by decide)
 have s13 := Dict.eqF nLOOP [85, 78, 84, 73, 76] (by decide)
 have s14 := Dict.eqF nLOOP [65, 71, 65, 73, 78] (by decide)
 have s15 := Dict.eqT nLOOP [76, 79, 79, 80] rfl
 have c4 := pfail_l v ws p (-22)
 have c5 := pfail_l v ws (failp p (-22)) (-32)
 rw [failp_2] at c5
 unfold partP
 rw [if_neg (by decide)]
 rw [if_neg (by decide)]
 rw [if_neg (by decide)]
 rw [if_neg (by decide)]
 rw [if_neg (by decide)]
 rw [if_neg (by decide), if_pos (by decide)]
 generalize failp p (-22) = q at *
 refine FnL.of_awp (T := tt) (ok := tok) Tryz.func32 (by kernel_rfl) rfl (by kernel_rfl) (by kernel_rfl) (fun w0 st0 lent c0 => ?_)
 dsimp only [frOf, hpFrom, List.length_cons, List.length_nil]
 (repeat' (first | refine goA ?_ | refine ARun.nilCheckP rfl rfl (guardF_spec rfl) ?_ | refine callK 1000 0 26 (encPl v ws p) (encPl v ws q) (c4) (encPl_closed v ws _) (encPl_closed v ws _) (RelL.cons (.ptr (j := 0) 0 0 rfl) (RelL.cons (.wk (.same _) (.val _)) (RelL.nil _))) smT ?_ | refine callK 1000 0 26 (encPl v ws q) (encPl v ws q) (c5) (encPl_closed v ws _) (encPl_closed v ws _) (RelL.cons (.ptr (j := 0) 0 0 rfl) (RelL.cons (.wk (.same _) (.val _)) (RelL.nil _))) smT ?_ | refine goB ?_ | fail))
 exact awp_ret ⟨_, ResL.cons (ResA.agg rfl rfl rfl rfl rfl rfl rfl resT) .nil, rfl, ⟨_, rfl, RlR.closed (one_cl (encPl_closed v ws q))⟩, trivial⟩
set_option maxHeartbeats 4000000 in
theorem part_PLOOP (v : V) (ws : List Bs) (p : Ps) (R : RowF) (n : Nat) (hv : VOk v) (hws : ws.length ≤ 1000 ∧ ∀ w, w ∈ ws → w.length ≤ 1000) (hR : RowC v ws R n) (hM : MonoR R) (hH : HiR ws.length R) (op loops : Int) (h0 : 0 ≤ loops) (h1 : loops ≤ op) (h2 : op ≤ 16) (hp : p.at' ≤ ws.length) (hn : ws.length - p.at' < n) : FnL Tryz.prog 32 [.ptr 1000 0 0 0, St nPLOOP, .val (.int .i64 op), .val (.int .i64 loops)] [(26, [encPl v ws p])] (.agg (NC (partP ws R nPLOOP op loops p).1)) [[encPl v ws (partP ws R nPLOOP op loops p).2]] := by
 have s0 := Dict.eqF nPLOOP [76, 69, 65, 86, 69] (by decide)
 have s1 := Dict.eqF nPLOOP [69, 88, 73, 84] (by decide)
 have s2 := Dict.eqF nPLOOP [82, 69, 67, 85, 82, 83, 69] (by decide)
 have s3 := Dict.eqF nPLOOP [91, 67, 72, 65, 82, 93] (by decide)
 have s4 := Dict.eqF nPLOOP [91, 39, 93] (by decide)
 have s5 := Dict.eqF nPLOOP [73, 70] (by decide)
 have s6 := Dict.eqF nPLOOP [66, 69, 71, 73, 78] (by decide)
 have s7 := Dict.eqF nPLOOP [68, 79] (by decide)
 have s8 := Dict.eqF nPLOOP [63, 68, 79] (by decide)
 have s9 := Dict.eqF nPLOOP [69, 76, 83, 69] (by decide)
 have s10 := Dict.eqF nPLOOP [84, 72, 69, 78] (by decide)
 have s11 := Dict.eqF nPLOOP [87, 72, 73, 76, 69] (by decide)
 have s12 := Dict.eqF nPLOOP [82, 69, 80, 69, 65, 84] (by decide)
 have s13 := Dict.eqF nPLOOP [85, 78, 84, 73, 76] (by decide)
 have s14 := Dict.eqF nPLOOP [65, 71, 65, 73, 78] (by decide)
 have s15 := Dict.eqF nPLOOP [76, 79, 79, 80] (by decide)
 have s16 := Dict.eqT nPLOOP [43, 76, 79, 79, 80] rfl
 have c4 := pfail_l v ws p (-22)
 have c5 := pfail_l v ws (failp p (-22)) (-32)
 rw [failp_2] at c5
 unfold partP
 rw [if_neg (by decide)]
 rw [if_neg (by decide)]
 rw [if_neg (by decide)]
 rw [if_neg (by decide)]
 rw [if_neg (by decide)]
 rw [if_neg (by decide), if_pos (by decide)]
 generalize failp p (-22) = q at *
 refine FnL.of_awp (T := tt) (ok := tok) Tryz.func32 (by kernel_rfl) rfl (by kernel_rfl) (by kernel_rfl) (fun w0 st0 lent c0 => ?_)
 dsimp only [frOf, hpFrom, List.length_cons, List.length_nil]
 (repeat' (first | refine goA ?_ | refine ARun.nilCheckP rfl rfl (guardF_spec rfl) ?_ | refine callK 1000 0 26 (encPl v ws p) (encPl v ws q) (c4) (encPl_closed v ws _) (encPl_closed v ws _) (RelL.cons (.ptr (j := 0) 0 0 rfl) (RelL.cons (.wk (.same _) (.val _)) (RelL.nil _))) smT ?_ | refine callK 1000 0 26 (encPl v ws q) (encPl v ws q) (c5) (encPl_closed v ws _) (encPl_closed v ws _) (RelL.cons (.ptr (j := 0) 0 0 rfl) (RelL.cons (.wk (.same _) (.val _)) (RelL.nil _))) smT ?_ | refine goB ?_ | fail))
 exact awp_ret ⟨_, ResL.cons (ResA.agg rfl rfl rfl rfl rfl rfl rfl resT) .nil, rfl, ⟨_, rfl, RlR.closed (one_cl (encPl_closed v ws q))⟩, trivial⟩
set_option maxHeartbeats 4000000 in
theorem part_other (v : V) (ws : List Bs) (p : Ps) (R : RowF) (n : Nat) (hv : VOk v) (hws : ws.length ≤ 1000 ∧ ∀ w, w ∈ ws → w.length ≤ 1000) (hR : RowC v ws R n) (hM : MonoR R) (hH : HiR ws.length R) (op loops : Int) (h0 : 0 ≤ loops) (h1 : loops ≤ op) (h2 : op ≤ 16) (hp : p.at' ≤ ws.length) (hn : ws.length - p.at' < n) (name : Bs) (k0 : name ≠ nLEAVE) (k1 : name ≠ nEXIT) (k2 : name ≠ nRECURSE) (k3 : name ≠ nBCHAR) (k4 : name ≠ nBTICK) (k5 : name ≠ nIF) (k6 : name ≠ nBEGIN) (k7 : name ≠ nDOW) (k8 : name ≠ nQDO) (k9 : name ≠ nELSE) (k10 : name ≠ nTHEN) (k11 : name ≠ nWHILE) (k12 : name ≠ nREPEAT) (k13 : name ≠ nUNTIL) (k14 : name ≠ nAGAIN) (k15 : name ≠ nLOOP) (k16 : name ≠ nPLOOP) : FnL Tryz.prog 32 [.ptr 1000 0 0 0, St name, .val (.int .i64 op), .val (.int .i64 loops)] [(26, [encPl v ws p])] (.agg (NC (partP ws R name op loops p).1)) [[encPl v ws (partP ws R name op loops p).2]] := by
 have s0 := Dict.eqF name [76, 69, 65, 86, 69] k0
 have s1 := Dict.eqF name [69, 88, 73, 84] k1
 have s2 := Dict.eqF name [82, 69, 67, 85, 82, 83, 69] k2
 have s3 := Dict.eqF name [91, 67, 72, 65, 82, 93] k3
 have s4 := Dict.eqF name [91, 39, 93] k4
 have s5 := Dict.eqF name [73, 70] k5
 have s6 := Dict.eqF name [66, 69, 71, 73, 78] k6
 have s7 := Dict.eqF name [68, 79] k7
 have s8 := Dict.eqF name [63, 68, 79] k8
 have s9 := Dict.eqF name [69, 76, 83, 69] k9
 have s10 := Dict.eqF name [84, 72, 69, 78] k10
 have s11 := Dict.eqF name [87, 72, 73, 76, 69] k11
 have s12 := Dict.eqF name [82, 69, 80, 69, 65, 84] k12
 have s13 := Dict.eqF name [85, 78, 84, 73, 76] k13
 have s14 := Dict.eqF name [65, 71, 65, 73, 78] k14
 have s15 := Dict.eqF name [76, 79, 79, 80] k15
 have s16 := Dict.eqF name [43, 76, 79, 79, 80] k16
 have c4 := pfail_l v ws p (-32)
 unfold partP
 rw [if_neg k0]
 rw [if_neg k1]
 rw [if_neg k2]
 rw [if_neg k3]
 rw [if_neg k4]
 rw [if_neg (by simp [k5, k6, k7, k8]), if_neg (by simp [k9, k10, k11, k12, k13, k14, k15, k16])]
 generalize failp p (-32) = q at *
 refine FnL.of_awp (T := tt) (ok := tok) Tryz.func32 (by kernel_rfl) rfl (by kernel_rfl) (by kernel_rfl) (fun w0 st0 lent c0 => ?_)
 dsimp only [frOf, hpFrom, List.length_cons, List.length_nil]
 (repeat' (first | refine goA ?_ | refine ARun.nilCheckP rfl rfl (guardF_spec rfl) ?_ | refine callK 1000 0 26 (encPl v ws p) (encPl v ws q) (c4) (encPl_closed v ws _) (encPl_closed v ws _) (RelL.cons (.ptr (j := 0) 0 0 rfl) (RelL.cons (.wk (.same _) (.val _)) (RelL.nil _))) smT ?_ | refine goB ?_ | fail))
 exact awp_ret ⟨_, ResL.cons (ResA.agg rfl rfl rfl rfl rfl rfl rfl resT) .nil, rfl, ⟨_, rfl, RlR.closed (one_cl (encPl_closed v ws q))⟩, trivial⟩
theorem part_l (v : V) (ws : List Bs) (p : Ps) (R : RowF) (n : Nat) (hv : VOk v) (hws : ws.length ≤ 1000 ∧ ∀ w, w ∈ ws → w.length ≤ 1000) (hR : RowC v ws R n) (hM : MonoR R) (hH : HiR ws.length R) (op loops : Int) (h0 : 0 ≤ loops) (h1 : loops ≤ op) (h2 : op ≤ 16) (hp : p.at' ≤ ws.length) (hn : ws.length - p.at' < n) (name : Bs) : FnL Tryz.prog 32 [.ptr 1000 0 0 0, St name, .val (.int .i64 op), .val (.int .i64 loops)] [(26, [encPl v ws p])] (.agg (NC (partP ws R name op loops p).1)) [[encPl v ws (partP ws R name op loops p).2]] := by
 by_cases k0 : name = nLEAVE
 ·subst k0
  by_cases ho : loops = 0
  ·exact part_leave0 v ws p R n hv hws hR hM hH op loops h0 h1 h2 hp hn ho
  ·exact part_leave1 v ws p R n hv hws hR hM hH op loops h0 h1 h2 hp hn ho
 by_cases k1 : name = nEXIT
 ·subst k1
  by_cases ho : 0 < loops
  ·exact part_exit0 v ws p R n hv hws hR hM hH op loops h0 h1 h2 hp hn ho
  ·exact part_exit1 v ws p R n hv hws hR hM hH op loops h0 h1 h2 hp hn ho
 by_cases k2 : name = nRECURSE
 ·subst k2
  exact part_recurse v ws p R n hv hws hR hM hH op loops h0 h1 h2 hp hn
 by_cases k3 : name = nBCHAR
 ·subst k3
  exact part_char v ws p R n hv hws hR hM hH op loops h0 h1 h2 hp hn
 by_cases k4 : name = nBTICK
 ·subst k4
  exact part_tick v ws p R n hv hws hR hM hH op loops h0 h1 h2 hp hn
 by_cases k5 : name = nIF
 ·subst k5
  by_cases ho : 16 ≤ op
  ·exact part_IF0 v ws p R n hv hws hR hM hH op loops h0 h1 h2 hp hn ho
  ·exact part_IF1 v ws p R n hv hws hR hM hH op loops h0 h1 h2 hp hn ho
 by_cases k6 : name = nBEGIN
 ·subst k6
  by_cases ho : 16 ≤ op
  ·exact part_BEGIN0 v ws p R n hv hws hR hM hH op loops h0 h1 h2 hp hn ho
  ·exact part_BEGIN1 v ws p R n hv hws hR hM hH op loops h0 h1 h2 hp hn ho
 by_cases k7 : name = nDOW
 ·subst k7
  by_cases ho : 16 ≤ op
  ·exact part_DOW0 v ws p R n hv hws hR hM hH op loops h0 h1 h2 hp hn ho
  ·exact part_DOW1 v ws p R n hv hws hR hM hH op loops h0 h1 h2 hp hn ho
 by_cases k8 : name = nQDO
 ·subst k8
  by_cases ho : 16 ≤ op
  ·exact part_QDO0 v ws p R n hv hws hR hM hH op loops h0 h1 h2 hp hn ho
  ·exact part_QDO1 v ws p R n hv hws hR hM hH op loops h0 h1 h2 hp hn ho
 by_cases k9 : name = nELSE
 ·subst k9
  exact part_ELSE v ws p R n hv hws hR hM hH op loops h0 h1 h2 hp hn
 by_cases k10 : name = nTHEN
 ·subst k10
  exact part_THEN v ws p R n hv hws hR hM hH op loops h0 h1 h2 hp hn
 by_cases k11 : name = nWHILE
 ·subst k11
  exact part_WHILE v ws p R n hv hws hR hM hH op loops h0 h1 h2 hp hn
 by_cases k12 : name = nREPEAT
 ·subst k12
  exact part_REPEAT v ws p R n hv hws hR hM hH op loops h0 h1 h2 hp hn
 by_cases k13 : name = nUNTIL
 ·subst k13
  exact part_UNTIL v ws p R n hv hws hR hM hH op loops h0 h1 h2 hp hn
 by_cases k14 : name = nAGAIN
 ·subst k14
  exact part_AGAIN v ws p R n hv hws hR hM hH op loops h0 h1 h2 hp hn
 by_cases k15 : name = nLOOP
 ·subst k15
  exact part_LOOP v ws p R n hv hws hR hM hH op loops h0 h1 h2 hp hn
 by_cases k16 : name = nPLOOP
 ·subst k16
  exact part_PLOOP v ws p R n hv hws hR hM hH op loops h0 h1 h2 hp hn
 exact part_other v ws p R n hv hws hR hM hH op loops h0 h1 h2 hp hn name k0 k1 k2 k3 k4 k5 k6 k7 k8 k9 k10 k11 k12 k13 k14 k15 k16
end Go.Proofs.YtfphgelollhdhaaGreat
namespace Go.Proofs.YtfphgelollhdhaaGreat
open Go Go.RowKit
open Go.Proofs.YtfphgelollhdhaaGreat.Dict (St Bs bs_eq Wd encW encWs closed_ws findD encFd NameIn)
open Go.Proofs.YtfphgelollhdhaaGreat.Mem (Mm encM encBs closed_bs encP encP_closed closed_m storeD fetchD)
open Go.Proofs.YtfphgelollhdhaaGreat.Stk (encS closed_s encI_closed)
open Gen (Nod encD encD_closed encD_eq encTr closed_tr NC NC_closed)
set_option maxRecDepth 100000
theorem encD_snoc (acc : List Nod) (x : Nod) : acc.map encD ++ [[.val (.int .i64 x.k), .val (.int .i64 x.n), .sl 4 false (x.a.map encD), .sl 4 false (x.b.map encD)]] = (acc ++ [x]).map encD := by
 rw [List.map_append]
 show _ = acc.map encD ++ [encD x]
 rw [encD_eq]
 rfl
theorem rowP_none {ws : List Bs} {m : Nat} {ends : List Bs} {op loops : Int} {q : Ps} {acc : List Nod} (hb : q.bad = 0) (hw : ws[q.at']? = none) : rowP ws (m + 1) ends op loops q acc = ((acc, []), if [] ∈ ends then q else failp q (-22)) := by
 rw [rowP, if_neg (fun e => e hb), hw]
theorem rowP_some {ws : List Bs} {m : Nat} {ends : List Bs} {op loops : Int} {q : Ps} {acc : List Nod} {w : Bs} (hb : q.bad = 0) (hw : ws[q.at']? = some w) {W : (Nod × Bs) × Ps} (hW : wordP w loops ⟨q.at' + 1, q.bad⟩ = W) : rowP ws (m + 1) ends op loops q acc =
  if W.2.bad ≠ 0 then (([], []), W.2)
  else if W.1.2 = [] then rowP ws m ends op loops W.2 (acc ++ [W.1.1])
  else if W.1.2 ∈ ends then ((acc, W.1.2), W.2)
  else rowP ws m ends op loops (partP ws (fun e o l q => rowP ws m e o l q []) W.1.2 op loops W.2).2 (acc ++ [(partP ws (fun e o l q => rowP ws m e o l q []) W.1.2 op loops W.2).1]) := by
 subst hW
 rw [rowP, if_neg (fun e => e hb), hw]
attribute [local irreducible] Decidable.decide awp ARun regK toK
set_option maxHeartbeats 16000000 in
theorem row_all (v : V) (ws : List Bs) (hv : VOk v) (hl : ws.length ≤ 1000) (hws : ∀ w, w ∈ ws → w.length ≤ 1000 ∧ w ≠ []) : ∀ n : Nat, RowC v ws (fun e o l q => rowP ws n e o l q []) n := by
 intro n
 induction n using Nat.strongRecOn with
 | ind n ih =>
 intro ends op loops p hends h0 h1 h2 hp hn
 have e0 : (((ws.map encN).length : Nat) : Int) = ws.length := by rw [List.length_map]
 dsimp only
 generalize hR : rowP ws n ends op loops p [] = RR
 refine FnL.of_awp (T := tt) (ok := tok) Tryz.func14 (by kernel_rfl) rfl (by kernel_rfl) (by kernel_rfl) (fun w0 st0 lent c0 => ?_)
 dsimp only [frOf, hpFrom, List.length_cons, List.length_nil]
 (repeat' (first | refine goN ?_ | refine awp_region_ne 2 rfl (fun _ => hmix) ?_ | refine ARun.o rfl ?_ | refine goB ?_ | ((fail_if_success refine ARun.plain rfl ?_); refine ARun.fork rfl rfl rfl (fun h => ?_) (fun h => ?_)) | refine awp_cond rfl (fun h => ?_) (fun h => ?_)))
 refine awp_newRow 90 4 ?_
 refine awp_nilF 10 90 rfl rfl rfl ?_
 (repeat' (first | refine goA ?_ | refine goB ?_ | ((fail_if_success refine ARun.plain rfl ?_); refine ARun.fork rfl rfl rfl (fun h => ?_) (fun h => ?_)) | refine awp_cond rfl (fun h => ?_) (fun h => ?_)))
 refine awp_loopT (T := Nat × Ps × List Nod × Nat × Nat) (fun t => ⟨[(0, .ptr 1000 0 0 0), (1, .sl 1 false (ends.map encN)), (2, .val (.int .i64 op)), (3, .val (.int .i64 loops)), (10, .own 90 t.2.2.2.1 0 (t.2.2.1.map encD).length)], [(1000, some ⟨0, 26, [encPl v ws t.2.1]⟩), (90, some ⟨t.2.2.2.1, 4, t.2.2.1.map encD⟩)], t.2.2.2.2⟩) (fun t => t.1 ≤ n ∧ t.2.1.at' ≤ ws.length ∧ ws.length - t.2.1.at' < t.1 ∧ t.2.2.1.length ≤ t.2.1.at' ∧ rowP ws t.1 ends op loops t.2.1 t.2.2.1 = RR) (fun t => t.1) (n, p, [], _, _) ⟨Nat.le_refl _, hp, hn, Nat.zero_le _, hR⟩ ⟨⟨rfl, rfl, rfl, rfl, rfl, trivial⟩, ⟨rfl, rfl, trivial⟩, Nat.le_refl _⟩ (fun t ht => ?_)
 obtain ⟨m, q, acc, g, gc⟩ := t
 obtain ⟨ht1, ht2, ht3, ht4, hA⟩ := ht
 dsimp only at ht1 ht2 ht3 ht4 hA ⊢
 have za : (acc.map encD).length = acc.length := List.length_map _
 obtain ⟨m, rfl⟩ : ∃ k, m = k + 1 := ⟨m - 1, by omega⟩
 by_cases hb : q.bad = 0
 case neg =>
  have d1 : (q.bad == 0) = false := beq_eq_false_iff_ne.2 hb
  rw [rowP, if_pos hb] at hA
  subst hA
  (repeat' (first | refine goA ?_ | refine ARun.nilCheckP rfl rfl (guardF_spec rfl) ?_ | refine goB ?_ | fail))
  exact awp_ret ⟨_, ResL.cons (ResA.tmp Reif.nilSl) (ResL.cons (ResA.tmp (.val _)) .nil), rfl, ⟨_, by rfl, RlR.closed (one_cl (encPl_closed v ws _))⟩, trivial⟩
 have d1 : (q.bad == 0) = true := beq_iff_eq.2 hb
 cases hw : ws[q.at']? with
 | none =>
  have hlen := List.getElem?_eq_none_iff.1 hw
  have d2 : decide ((((ws.map encN).length : Nat) : Int) ≤ ((q.at' : Nat) : Int)) = true := decide_eq_true (by omega)
  rw [rowP_none hb hw] at hA
  have c1 := in16_c ends [] (by omega)
  have c2 := pfail_l v ws q (-22)
  by_cases he : [] ∈ ends
  ·rw [pD_yes he] at c1
   rw [if_pos he] at hA
   subst hA
   have nt : (!true) = false := rfl
   (repeat' (first | refine goA ?_ | refine ARun.nilCheckP rfl rfl (guardF_spec rfl) ?_ | refine cX c1 ?_ | refine goB ?_ | fail))
   exact awp_ret ⟨_, ResL.cons (ResA.tmp (.owned rfl rfl rfl (own_closed_map encD_closed))) (ResL.cons (ResA.tmp (.val _)) .nil), rfl, ⟨_, by rfl, RlR.closed (one_cl (encPl_closed v ws _))⟩, trivial⟩
  ·rw [pD_no he] at c1
   rw [if_neg he] at hA
   subst hA
   have nf : (!false) = true := rfl
   generalize failp q (-22) = q2 at *
   (repeat' (first | refine goA ?_ | refine ARun.nilCheckP rfl rfl (guardF_spec rfl) ?_ | refine cX c1 ?_ | refine callK 1000 0 26 (encPl v ws q) (encPl v ws q2) (c2) (encPl_closed v ws _) (encPl_closed v ws _) (RelL.cons (.ptr (j := 0) 0 0 rfl) (RelL.cons (.wk (.same _) (.val _)) (RelL.nil _))) smT ?_ | refine goB ?_ | fail))
   exact awp_ret ⟨_, ResL.cons (ResA.tmp (.owned rfl rfl rfl (own_closed_map encD_closed))) (ResL.cons (ResA.tmp (.val _)) .nil), rfl, ⟨_, by rfl, RlR.closed (one_cl (encPl_closed v ws _))⟩, trivial⟩
 | some w =>
  have hlt := (List.getElem?_eq_some_iff.1 hw).1
  have hwin := hws w (List.mem_of_getElem? hw)
  have d2 : decide ((((ws.map encN).length : Nat) : Int) ≤ ((q.at' : Nat) : Int)) = false := decide_eq_false (by omega)
  have c1 := pword_l v ws ⟨q.at' + 1, q.bad⟩ w loops hv hwin.1 hwin.2 hb ⟨h0, by omega⟩
  have hWat := wordP_at w loops ⟨q.at' + 1, q.bad⟩
  obtain ⟨W, hW⟩ : ∃ W, wordP w loops ⟨q.at' + 1, q.bad⟩ = W := ⟨_, rfl⟩
  rw [rowP_some hb hw hW] at hA
  rw [hW] at c1 hWat
  obtain ⟨⟨x, nm⟩, q2⟩ := W
  dsimp only at c1 hA hWat
  clear hW
  by_cases hb2 : q2.bad = 0
  case neg =>
   have d3 : (q2.bad != 0) = true := by simp [hb2]
   rw [if_pos hb2] at hA
   subst hA
   (repeat' (first | refine goA ?_ | refine ARun.nilCheckP rfl rfl (guardF_spec rfl) ?_ | refine ARun.indexAddr rfl rfl (by omega) (by first | with_reducible exact get_map hw | with_reducible exact get_map hw) rfl rfl rfl rfl rfl (guardF_spec rfl) ?_ | refine callK 1000 0 26 (encPl v ws ⟨q.at' + 1, q.bad⟩) (encPl v ws q2) (c1) (encPl_closed v ws _) (encPl_closed v ws _) (RelL.cons (.ptr (j := 0) 0 0 rfl) (RelL.cons (.wk (.same _) (.val _)) (RelL.cons (.wk (.same _) (.val _)) (RelL.nil _)))) (.same _ (.tup (closedL_cons (.agg (NC_closed _)) (closedL_cons (.val _) closedL_nil)))) ?_ | refine goB ?_ | fail))
   exact awp_ret ⟨_, ResL.cons (ResA.tmp Reif.nilSl) (ResL.cons (ResA.tmp (.val _)) .nil), rfl, ⟨_, by rfl, RlR.closed (one_cl (encPl_closed v ws _))⟩, trivial⟩
  have d3 : (q2.bad != 0) = false := by simp [hb2]
  rw [if_neg (fun e => e hb2)] at hA
  have hM := encD_snoc acc x
  by_cases hn0 : nm = []
  ·have d4 := Dict.eqT nm [] hn0
   rw [if_pos hn0] at hA
   (repeat' (first | refine goA ?_ | refine ARun.nilCheckP rfl rfl (guardF_spec rfl) ?_ | refine ARun.indexAddr rfl rfl (by omega) (by first | with_reducible exact get_map hw | with_reducible exact get_map hw) rfl rfl rfl rfl rfl (guardF_spec rfl) ?_ | refine callK 1000 0 26 (encPl v ws ⟨q.at' + 1, q.bad⟩) (encPl v ws q2) (c1) (encPl_closed v ws _) (encPl_closed v ws _) (RelL.cons (.ptr (j := 0) 0 0 rfl) (RelL.cons (.wk (.same _) (.val _)) (RelL.cons (.wk (.same _) (.val _)) (RelL.nil _)))) (.same _ (.tup (closedL_cons (.agg (NC_closed _)) (closedL_cons (.val _) closedL_nil)))) ?_ | refine appO rfl ?_ | refine goB ?_ | fail))
   rw [hM]
   refine (if_pos rfl).mpr ?_
   exact ⟨(m, q2, acc ++ [x], _, _), ⟨⟨rfl, rfl, rfl, rfl, rfl, trivial⟩, ⟨rfl, rfl, trivial⟩, Nat.le_refl _⟩, ⟨by dsimp only; omega, by dsimp only; omega, by dsimp only; omega, by dsimp only; rw [List.length_append, List.length_singleton]; omega, hA⟩, (by dsimp only; omega)⟩
  have d4 := Dict.eqF nm [] hn0
  rw [if_neg hn0] at hA
  have c2 := in16_c ends nm (by omega)
  by_cases he : nm ∈ ends
  ·rw [pD_yes he] at c2
   rw [if_pos he] at hA
   subst hA
   (repeat' (first | refine goA ?_ | refine ARun.nilCheckP rfl rfl (guardF_spec rfl) ?_ | refine cX c2 ?_ | refine ARun.indexAddr rfl rfl (by omega) (by first | with_reducible exact get_map hw | with_reducible exact get_map hw) rfl rfl rfl rfl rfl (guardF_spec rfl) ?_ | refine callK 1000 0 26 (encPl v ws ⟨q.at' + 1, q.bad⟩) (encPl v ws q2) (c1) (encPl_closed v ws _) (encPl_closed v ws _) (RelL.cons (.ptr (j := 0) 0 0 rfl) (RelL.cons (.wk (.same _) (.val _)) (RelL.cons (.wk (.same _) (.val _)) (RelL.nil _)))) (.same _ (.tup (closedL_cons (.agg (NC_closed _)) (closedL_cons (.val _) closedL_nil)))) ?_ | refine goB ?_ | fail))
   exact awp_ret ⟨_, ResL.cons (ResA.tmp (.owned rfl rfl rfl (own_closed_map encD_closed))) (ResL.cons (ResA.tmp (.val _)) .nil), rfl, ⟨_, by rfl, RlR.closed (one_cl (encPl_closed v ws _))⟩, trivial⟩
  rw [pD_no he] at c2
  rw [if_neg he] at hA
  have hM0 : MonoR (fun e o l q => rowP ws m e o l q []) := fun e o l q => rowP_at ws m e o l q []
  have hH0 : HiR ws.length (fun e o l q => rowP ws m e o l q []) := fun e o l q hq => rowP_hi ws m e o l q [] hq
  have c3 := part_l v ws q2 (fun e o l q => rowP ws m e o l q []) m hv ⟨hl, fun w hw => (hws w hw).1⟩ (ih m (by omega)) hM0 hH0 op loops h0 h1 h2 (by omega) (by omega) nm
  have hpa := partP_at ws hM0 nm op loops q2
  have hph := partP_hi ws hH0 nm op loops q2 (by omega)
  generalize partP ws (fun e o l q => rowP ws m e o l q []) nm op loops q2 = Y at *
  obtain ⟨y, q3⟩ := Y
  dsimp only at c3 hA hpa hph
  have hM := encD_snoc acc y
  (repeat' (first | refine goA ?_ | refine ARun.nilCheckP rfl rfl (guardF_spec rfl) ?_ | refine cX c2 ?_ | refine ARun.indexAddr rfl rfl (by omega) (by first | with_reducible exact get_map hw | with_reducible exact get_map hw) rfl rfl rfl rfl rfl (guardF_spec rfl) ?_ | refine callK 1000 0 26 (encPl v ws ⟨q.at' + 1, q.bad⟩) (encPl v ws q2) (c1) (encPl_closed v ws _) (encPl_closed v ws _) (RelL.cons (.ptr (j := 0) 0 0 rfl) (RelL.cons (.wk (.same _) (.val _)) (RelL.cons (.wk (.same _) (.val _)) (RelL.nil _)))) (.same _ (.tup (closedL_cons (.agg (NC_closed _)) (closedL_cons (.val _) closedL_nil)))) ?_ | refine callK 1000 0 26 (encPl v ws q2) (encPl v ws q3) (c3) (encPl_closed v ws _) (encPl_closed v ws _) (RelL.cons (.ptr (j := 0) 0 0 rfl) (RelL.cons (.wk (.same _) (.val _)) (RelL.cons (.wk (.same _) (.val _)) (RelL.cons (.wk (.same _) (.val _)) (RelL.nil _))))) (.same _ (.agg (NC_closed _))) ?_ | refine appO rfl ?_ | refine goB ?_ | fail))
  rw [hM]
  exact ⟨(m, q3, acc ++ [y], _, _), ⟨⟨rfl, rfl, rfl, rfl, rfl, trivial⟩, ⟨rfl, rfl, trivial⟩, Nat.le_refl _⟩, ⟨by dsimp only; omega, by dsimp only; omega, by dsimp only; omega, by dsimp only; rw [List.length_append, List.length_singleton]; omega, hA⟩, (by dsimp only; omega)⟩
end Go.Proofs.YtfphgelollhdhaaGreat
