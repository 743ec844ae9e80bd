/- zK5, zK6, zK7, zT1, zG1. -/
import Derived.Test.YtpkkplojpjakiaaGreatW1
import Derived.Test.YtpkkplojpjakiaaGreatW2
import Derived.Test.YtpkkplojpjakiaaGreatW3
import Derived.Test.YtpkkplojpjakiaaGreatW4
import Derived.Test.YtpkkplojpjakiaaGreatzW5
import Derived.Test.YtpkkplojpjakiaaGreatzW6
import Derived.Test.YtpkkplojpjakiaaGreatzW7
import Derived.Test.YtpkkplojpjakiaaGreatzW8
set_option linter.unusedVariables false
set_option linter.unusedSimpArgs false
namespace Go.Proofs.YtpkkplojpjakiaaGreat.Dict
open Go Go.RowKit
set_option maxRecDepth 100000
attribute [local irreducible] Decidable.decide awp ARun regK toK
def lastAt (p : Wd → Bool) (l : List Wd) : Nat → Option Nat
 | 0 => none
 | n + 1 => match l[n]? with
  | some w => if p w then some n else lastAt p l n
  | none => lastAt p l n
abbrev Fd := Wd × Int × Bool
def foundD (l : List Wd) : Option Nat → Fd
 | some i => match l[i]? with
  | some w => (w, (i : Int), true)
  | none => (⟨[], 0, 0⟩, 0, false)
 | none => (⟨[], 0, 0⟩, 0, false)
def encFd (r : Fd) : AV := .tup [.agg (encW r.1), .val (.int .i64 r.2.1), .val (.bool r.2.2)]
end Go.Proofs.YtpkkplojpjakiaaGreat.Dict
namespace Go.Proofs.YtpkkplojpjakiaaGreat.Dict
open Go Go.RowKit
set_option maxRecDepth 100000
attribute [local irreducible] Decidable.decide awp ARun regK toK
def findP (name : Bs) (w : Wd) : Bool := !hidD w && alikeD w.name name
def findD (l : List Wd) (name : Bs) : Fd := foundD l (lastAt (findP name) l l.length)
end Go.Proofs.YtpkkplojpjakiaaGreat.Dict
namespace Go.Proofs.YtpkkplojpjakiaaGreat.Dict
open Go Go.RowKit
set_option maxRecDepth 100000
attribute [local irreducible] Decidable.decide awp ARun regK toK
def addD (l : List Wd) (name : Bs) (xt fl limit : Int) : List Wd × Int :=
 if namedD name ≠ 0 then (l, namedD name) else if ¬(0 ≤ fl ∧ fl ≤ 7) then (l, -24) else if limit ≤ l.length ∨ 1024 ≤ l.length then (l, -8) else (l ++ [⟨name, xt, fl⟩], 0)
end Go.Proofs.YtpkkplojpjakiaaGreat.Dict
namespace Go.Proofs.YtpkkplojpjakiaaGreat.Stk
open Go Go.RowKit
set_option maxRecDepth 100000
attribute [local irreducible] Decidable.decide awp ARun regK toK
def encS (s : List Int) : AV := .sl 1 false (s.map encI)
theorem encI_closed (n : Int) : ∀ x, x ∈ encI n → Closed x := fun x hx => by rw [List.mem_singleton.1 hx]; exact .val _
theorem closed_s (s : List Int) : Closed (encS s) := closed_map encI_closed
theorem clip_c (s : List Int) (hl : s.length ≤ 1000000) : FnC Tryz.prog 83 [encS s] (.sl 1 true (s.map encI)) := by
 refine goF Tryz.func83 (closedL_cons (closed_s s) closedL_nil) (fun w0 st0 => ?_)
 dsimp only [frOf]
 (repeat' (first | refine goA ?_ | refine ARun.sliceClip rfl rfl rfl rfl rfl rfl (by first | exact .inr rfl | exact .inl rfl | (right; simp; done)) rfl (guardF_spec rfl) ?_ | refine goB ?_ | ((fail_if_success refine ARun.plain rfl ?_); refine ARun.fork rfl rfl rfl (fun h => ?_) (fun h => ?_)) | refine awp_cond rfl (fun h => ?_) (fun h => ?_)))
 refine awp_ret ⟨_, ResL.cons (ResA.tmp (.closed _ (closed_map encI_closed))) .nil, rfl⟩
def pushD (s : List Int) (n limit : Int) : List Int × Int := if limit ≤ (s.length : Int) then (s, -3) else (s ++ [n], 0)
theorem pushD_over {s : List Int} {n limit : Int} (h : limit ≤ (s.length : Int)) : pushD s n limit = (s, -3) := if_pos h
theorem pushD_ok {s : List Int} {n limit : Int} (h : ¬ limit ≤ (s.length : Int)) : pushD s n limit = (s ++ [n], 0) := if_neg h
theorem ref_push_c (s : List Int) (n limit : Int) (hl : s.length ≤ 1000000) : FnC Tryz.prog 100 [encS s, .val (.int .i64 n), .val (.int .i64 limit)] (.tup [encS (pushD s n limit).1, .val (.int .i64 (pushD s n limit).2)]) := by
 refine goF Tryz.func100 (closedL_cons (closed_s s) (closedL_cons (.val _) (closedL_cons (.val _) closedL_nil))) (fun w0 st0 => ?_)
 dsimp only [frOf]
 (repeat' (first | refine goA ?_ | refine appF rfl ?_ | refine appO rfl ?_ | refine goB ?_ | ((fail_if_success refine ARun.plain rfl ?_); refine ARun.fork rfl rfl rfl (fun h => ?_) (fun h => ?_)) | refine awp_cond rfl (fun h => ?_) (fun h => ?_)))
 ·(simp only [decide_eq_true_eq, decide_eq_false_iff_not, List.length_map] at *)
  rw [pushD_over h]
  refine awp_ret ⟨_, ResL.cons (ResA.tmp (.closed _ (closed_map encI_closed))) (ResL.cons (ResA.tmp (.val _)) .nil), rfl⟩
 ·(simp only [decide_eq_true_eq, decide_eq_false_iff_not, List.length_map] at *)
  rw [pushD_ok h]
  refine awp_ret ⟨_, ResL.cons (ResA.tmp (.owned rfl rfl rfl (own_closed_app encI_closed (encI_closed n)))) (ResL.cons (ResA.tmp (.val _)) .nil), ?_⟩
  simp [retAV, encS, lkA, encI]
def popD (s : List Int) : Int × List Int × Int := match s.getLast? with | none => (0, s, -4) | some x => (x, s.dropLast, 0)
theorem popD_nil : popD [] = (0, [], -4) := rfl
theorem popD_snoc (p : List Int) (x : Int) : popD (p ++ [x]) = (x, p, 0) := by unfold popD; simp
theorem snoc_of {s : List Int} (h : s ≠ []) : ∃ p x, s = p ++ [x] := ⟨s.dropLast, s.getLast h, (List.dropLast_concat_getLast h).symm⟩
theorem snoc_ix (p : List Int) (x : Int) : ((p ++ [x]).map encI)[(((((p ++ [x]).map encI).length : Nat) : Int) - 1).toNat]? = some (encI x) := by
 rw [List.length_map, List.length_append, List.length_singleton, List.map_append, show (((p.length + 1 : Nat) : Int) - 1).toNat = (p.map encI).length by rw [List.length_map]; omega]
 simp
def sameD (a b : List Int) : Bool := decide (a = b)
theorem ref_same_c (a b : List Int) (ha : a.length ≤ 1000000) (hb : b.length ≤ 1000000) : FnC Tryz.prog 11 [encS a, encS b] (.val (.bool (sameD a b))) := by
 refine goF Tryz.func11 (closedL_cons (closed_s a) (closedL_cons (closed_s b) closedL_nil)) (fun w0 st0 => ?_)
 dsimp only [frOf]
 by_cases hne : a.length = b.length
 ·have hc0 : ((((a.map encI).length : Nat) : Int) != (((b.map encI).length : Nat) : Int)) = false := by simp [hne]
  (repeat' (first | refine goA ?_ | refine goB ?_ | ((fail_if_success refine ARun.plain rfl ?_); refine ARun.fork rfl rfl rfl (fun h => ?_) (fun h => ?_)) | refine awp_cond rfl (fun h => ?_) (fun h => ?_)))
  refine awp_loopT (T := Nat × Nat) (fun t => ⟨[(0, encS a), (1, encS b), (4, .val (.bool false)), (5, .val (.int .i64 (t.1 : Nat)))], [], t.2⟩)
   (fun t => t.1 ≤ a.length ∧ a.take t.1 = b.take t.1) (fun t => a.length - t.1) (0, _) ⟨Nat.zero_le _, rfl⟩ ⟨⟨rfl, rfl, rfl, rfl, trivial⟩, trivial, Nat.le_refl _⟩ (fun t ht => ?_)
  obtain ⟨k, gc⟩ := t
  obtain ⟨hk, hA⟩ := ht
  dsimp only at hk hA ⊢
  by_cases hlt : k < a.length
  ·have h1 : a[k]? = some a[k] := List.getElem?_eq_getElem hlt
   have h2 : b[k]? = some b[k] := List.getElem?_eq_getElem (by omega)
   have hc : decide (((k : Nat) : Int) < (((a.map encI).length : Nat) : Int)) = true := by rw [List.length_map]; simp; omega
   have e1 := take_succ' h1
   have e2 := take_succ' h2
   by_cases heq : a[k] = b[k]
   ·have hd : (a[k] != b[k]) = false := by simp [heq]
    (repeat' (first | refine goA ?_ | refine ARun.indexAddr rfl rfl (by omega) (by first | with_reducible exact get_map h1 | with_reducible exact get_map h2) rfl rfl rfl rfl rfl (guardF_spec rfl) ?_ | refine goB ?_ | ((fail_if_success refine ARun.plain rfl ?_); refine ARun.fork rfl rfl rfl (fun h => ?_) (fun h => ?_)) | refine awp_cond rfl (fun h => ?_) (fun h => ?_)))
    refine ⟨(k + 1, _), ⟨⟨rfl, rfl, rfl, succI k, trivial⟩, trivial, Nat.le_refl _⟩, ⟨hlt, ?_⟩, (by dsimp only; omega)⟩
    dsimp only
    rw [e1, e2, hA, heq]
   ·have hd : (a[k] != b[k]) = true := by simp [heq]
    (repeat' (first | refine goA ?_ | refine ARun.indexAddr rfl rfl (by omega) (by first | with_reducible exact get_map h1 | with_reducible exact get_map h2) rfl rfl rfl rfl rfl (guardF_spec rfl) ?_ | refine goB ?_ | ((fail_if_success refine ARun.plain rfl ?_); refine ARun.fork rfl rfl rfl (fun h => ?_) (fun h => ?_)) | refine awp_cond rfl (fun h => ?_) (fun h => ?_)))
    have : sameD a b = false := by
     unfold sameD
     rw [decide_eq_false_iff_not]
     intro e
     subst e
     exact heq rfl
    rw [this]
    refine awp_ret ⟨_, ResL.cons (ResA.tmp (.val _)) .nil, rfl⟩
  ·have hk : k = a.length := by omega
   subst hk
   have hc : decide (((a.length : Nat) : Int) < (((a.map encI).length : Nat) : Int)) = false := by rw [List.length_map]; simp
   (repeat' (first | refine goA ?_ | refine goB ?_ | ((fail_if_success refine ARun.plain rfl ?_); refine ARun.fork rfl rfl rfl (fun h => ?_) (fun h => ?_)) | refine awp_cond rfl (fun h => ?_) (fun h => ?_)))
   have : sameD a b = true := by
    unfold sameD
    rw [decide_eq_true_eq]
    rw [List.take_length, hne, List.take_length] at hA
    exact hA
   rw [this]
   refine awp_ret ⟨_, ResL.cons (ResA.tmp (.val _)) .nil, rfl⟩
 ·have hc0 : ((((a.map encI).length : Nat) : Int) != (((b.map encI).length : Nat) : Int)) = true := by simp; omega
  (repeat' (first | refine goA ?_ | refine goB ?_ | ((fail_if_success refine ARun.plain rfl ?_); refine ARun.fork rfl rfl rfl (fun h => ?_) (fun h => ?_)) | refine awp_cond rfl (fun h => ?_) (fun h => ?_)))
  have : sameD a b = false := by
   unfold sameD
   rw [decide_eq_false_iff_not]
   intro e
   subst e
   exact hne rfl
  rw [this]
  refine awp_ret ⟨_, ResL.cons (ResA.tmp (.val _)) .nil, rfl⟩
end Go.Proofs.YtpkkplojpjakiaaGreat.Stk
namespace Go.Proofs.YtpkkplojpjakiaaGreat
open Go Go.RowKit
open Dict (St Bs bs_eq)
set_option maxRecDepth 100000
def nmsV : List Bs := [
 [40, 101, 120, 105, 116, 41], [40, 108, 105, 116, 41], [40, 98, 114, 97, 110, 99, 104, 41], [40, 48, 98, 114, 97, 110, 99, 104, 41],
 [40, 100, 111, 41], [40, 63, 100, 111, 41], [40, 108, 111, 111, 112, 41], [40, 43, 108, 111, 111, 112, 41], [40, 104, 97, 108, 116, 41],
 [40, 99, 97, 117, 103, 104, 116, 41], [40, 100, 111, 101, 115, 41], [40, 115, 116, 114, 41], [69, 88, 69, 67, 85, 84, 69], [67, 65, 84, 67, 72],
 [84, 72, 82, 79, 87], [73], [74], [85, 78, 76, 79, 79, 80], [62, 82], [82, 62], [82, 64], [50, 62, 82], [50, 82, 62], [68, 85, 80],
 [68, 82, 79, 80], [83, 87, 65, 80], [79, 86, 69, 82], [82, 79, 84], [45, 82, 79, 84], [78, 73, 80], [84, 85, 67, 75], [63, 68, 85, 80],
 [50, 68, 85, 80], [50, 68, 82, 79, 80], [50, 83, 87, 65, 80], [50, 79, 86, 69, 82], [80, 73, 67, 75], [82, 79, 76, 76], [68, 69, 80, 84, 72], [43],
 [45], [42], [47], [77, 79, 68], [65, 78, 68], [79, 82], [88, 79, 82], [76, 83, 72, 73, 70, 84], [82, 83, 72, 73, 70, 84], [77, 73, 78],
 [77, 65, 88], [61], [60, 62], [60], [62], [60, 61], [62, 61], [85, 60], [85, 62], [78, 69, 71, 65, 84, 69], [65, 66, 83], [73, 78, 86, 69, 82, 84],
 [49, 43], [49, 45], [50, 42], [50, 47], [48, 61], [48, 60], [48, 60, 62], [48, 62], [67, 69, 76, 76, 83], [67, 69, 76, 76, 43],
 [65, 76, 73, 71, 78, 69, 68], [47, 77, 79, 68], [42, 47], [42, 47, 77, 79, 68], [85, 77, 42], [85, 77, 47, 77, 79, 68], [77, 42],
 [83, 77, 47, 82, 69, 77], [70, 77, 47, 77, 79, 68], [83, 62, 68], [87, 73, 84, 72, 73, 78], [64], [33], [43, 33], [67, 64], [67, 33], [50, 64],
 [50, 33], [70, 73, 76, 76], [77, 79, 86, 69], [67, 79, 85, 78, 84], [72, 69, 82, 69], [65, 76, 76, 79, 84], [44], [67, 44], [65, 76, 73, 71, 78],
 [66, 65, 83, 69], [83, 84, 65, 84, 69], [84, 82, 85, 69], [70, 65, 76, 83, 69], [66, 76], [68, 69, 67, 73, 77, 65, 76], [72, 69, 88],
 [69, 77, 73, 84], [67, 82], [83, 80, 65, 67, 69], [83, 80, 65, 67, 69, 83], [84, 89, 80, 69], [46], [85, 46], [60, 35], [35], [35, 83],
 [72, 79, 76, 68], [83, 73, 71, 78], [35, 62], [62, 66, 79, 68, 89], [65, 66, 79, 82, 84], [80, 79, 83, 84], [65, 70, 84, 69, 82],
 [69, 86, 69, 82, 89], [67, 65, 78, 67, 69, 76], [65, 82, 71], [83, 69, 76, 70], [78, 79, 87], [83, 69, 84, 45, 83, 84, 65, 84, 69],
 [65, 84, 45, 83, 84, 65, 84, 69], [71, 69, 84, 45, 83, 84, 65, 84, 69]]
def spcV : List Bs := [
 [58], [59], [67, 82, 69, 65, 84, 69], [68, 79, 69, 83, 62], [86, 65, 82, 73, 65, 66, 76, 69], [67, 79, 78, 83, 84, 65, 78, 84],
 [73, 77, 77, 69, 68, 73, 65, 84, 69], [39], [91, 39, 93], [67, 72, 65, 82], [91, 67, 72, 65, 82, 93], [76, 73, 84, 69, 82, 65, 76],
 [80, 79, 83, 84, 80, 79, 78, 69], [82, 69, 67, 85, 82, 83, 69], [73, 70], [69, 76, 83, 69], [84, 72, 69, 78], [66, 69, 71, 73, 78],
 [87, 72, 73, 76, 69], [82, 69, 80, 69, 65, 84], [85, 78, 84, 73, 76], [65, 71, 65, 73, 78], [68, 79], [63, 68, 79], [76, 79, 79, 80],
 [43, 76, 79, 79, 80], [76, 69, 65, 86, 69], [83, 34], [46, 34], [40], [92], [91], [93], [70, 79, 82, 71, 69, 84], [77, 65, 67, 72, 73, 78, 69],
 [79, 78, 58], [69, 88, 73, 84]]
def onlyV : List Bs := [
 [73], [74], [85, 78, 76, 79, 79, 80], [62, 82], [82, 62], [82, 64], [50, 62, 82], [50, 82, 62]]
def nowV : List Bs := [
 [46, 34], [40], [92], [91]]
def bothV : List Bs := [
 [59], [68, 79, 69, 83, 62], [91, 39, 93], [91, 67, 72, 65, 82, 93], [76, 73, 84, 69, 82, 65, 76], [80, 79, 83, 84, 80, 79, 78, 69],
 [82, 69, 67, 85, 82, 83, 69], [73, 70], [69, 76, 83, 69], [84, 72, 69, 78], [66, 69, 71, 73, 78], [87, 72, 73, 76, 69], [82, 69, 80, 69, 65, 84],
 [85, 78, 84, 73, 76], [65, 71, 65, 73, 78], [68, 79], [63, 68, 79], [76, 79, 79, 80], [43, 76, 79, 79, 80], [76, 69, 65, 86, 69], [83, 34],
 [69, 88, 73, 84]]
def encN (l : Bs) : List AV := [St l]
theorem encN_closed (l : Bs) : ∀ x, x ∈ encN l → Closed x := fun x hx => by rw [List.mem_singleton.1 hx]; exact .val _
theorem closed_ns (l : List Bs) : Closed (.sl 1 false (l.map encN)) := closed_map encN_closed
attribute [local irreducible] Decidable.decide awp ARun regK toK
set_option maxHeartbeats 4000000 in
theorem names_c : FnC Tryz.prog 41 [] (.sl 1 true (nmsV.map encN)) := by
 refine goF Tryz.func41 closedL_nil (fun w0 st0 => ?_)
 dsimp only [frOf]
 (repeat' (first | refine goA ?_ | refine goB ?_ | ((fail_if_success refine ARun.plain rfl ?_); refine ARun.fork rfl rfl rfl (fun h => ?_) (fun h => ?_)) | refine awp_cond rfl (fun h => ?_) (fun h => ?_)))
 refine awp_ret ⟨_, ResL.cons (ResA.tmp (.closed (.sl 1 true (nmsV.map encN)) (closed_map encN_closed))) .nil, rfl⟩
set_option maxHeartbeats 4000000 in
theorem ref_names_c : FnC Tryz.prog 36 [] (.sl 1 true (nmsV.map encN)) := by
 refine goF Tryz.func36 closedL_nil (fun w0 st0 => ?_)
 dsimp only [frOf]
 (repeat' (first | refine goA ?_ | refine goB ?_ | ((fail_if_success refine ARun.plain rfl ?_); refine ARun.fork rfl rfl rfl (fun h => ?_) (fun h => ?_)) | refine awp_cond rfl (fun h => ?_) (fun h => ?_)))
 refine awp_ret ⟨_, ResL.cons (ResA.tmp (.closed (.sl 1 true (nmsV.map encN)) (closed_map encN_closed))) .nil, rfl⟩
set_option maxHeartbeats 4000000 in
theorem ref_specials_c : FnC Tryz.prog 37 [] (.sl 1 true (spcV.map encN)) := by
 refine goF Tryz.func37 closedL_nil (fun w0 st0 => ?_)
 dsimp only [frOf]
 (repeat' (first | refine goA ?_ | refine goB ?_ | ((fail_if_success refine ARun.plain rfl ?_); refine ARun.fork rfl rfl rfl (fun h => ?_) (fun h => ?_)) | refine awp_cond rfl (fun h => ?_) (fun h => ?_)))
 refine awp_ret ⟨_, ResL.cons (ResA.tmp (.closed (.sl 1 true (spcV.map encN)) (closed_map encN_closed))) .nil, rfl⟩
theorem len_nms : (nmsV.map encN).length = 130 := by rw [List.length_map]; rfl
theorem len_spc : (spcV.map encN).length = 37 := by rw [List.length_map]; rfl
structure Cf where
 mem : Int
 data : Int
 ret : Int
 words : Int
 out : Int
def encC (c : Cf) : List AV := [.val (.int .i64 c.mem), .val (.int .i64 c.data), .val (.int .i64 c.ret), .val (.int .i64 c.words), .val (.int .i64 c.out)]
theorem encC_closed (c : Cf) : ∀ x, x ∈ encC c → Closed x := closedL_cons (.val _) (closedL_cons (.val _) (closedL_cons (.val _) (closedL_cons (.val _) (closedL_cons (.val _) closedL_nil))))
def FitsP (c : Cf) : Prop := (2048 ≤ c.mem ∧ c.mem ≤ 65536) ∧ c.mem.tmod 8 = 0 ∧ (1 ≤ c.data ∧ c.data ≤ 256) ∧ (1 ≤ c.ret ∧ c.ret ≤ 256) ∧ (200 ≤ c.words ∧ c.words ≤ 1024) ∧ 0 ≤ c.out ∧ c.out ≤ 65536
open Classical in
noncomputable def fitsD (c : Cf) : Bool := if FitsP c then true else false
theorem fits_yes {c : Cf} (h : FitsP c) : fitsD c = true := by unfold fitsD; exact if_pos h
theorem fits_no {c : Cf} (h : ¬ FitsP c) : fitsD c = false := by unfold fitsD; exact if_neg h
set_option maxHeartbeats 8000000 in
theorem ref_fits_c (c : Cf) : FnC Tryz.prog 35 [.agg (encC c)] (.val (.bool (fitsD c))) := by
  by_cases hF : FitsP c
  · have h' := hF
    obtain ⟨⟨h1, h2⟩, h3, ⟨h4, h5⟩, ⟨h6, h7⟩, ⟨h8, h9⟩, h10, h11⟩ := h'
    have d1 := decide_eq_true h1
    have d2 := decide_eq_true h2
    have d3 : (c.mem.tmod 8 == 0) = true := beq_iff_eq.2 h3
    have d4 := decide_eq_true h4
    have d5 := decide_eq_true h5
    have d6 := decide_eq_true h6
    have d7 := decide_eq_true h7
    have d8 := decide_eq_true h8
    have d9 := decide_eq_true h9
    have d10 := decide_eq_true h10
    have d11 := decide_eq_true h11
    rw [fits_yes hF]
    refine goF Tryz.func35 (closedL_cons (.agg (encC_closed _)) closedL_nil) (fun w0 st0 => ?_)
    dsimp only [frOf]
    (repeat' (first | refine goA ?_ | refine goB ?_ | fail))
    exact awp_ret ⟨_, ResL.cons (ResA.tmp (.val _)) .nil, congrArg (fun b => AV.val (.bool b)) d11.symm⟩
  · rw [fits_no hF]
    refine goF Tryz.func35 (closedL_cons (.agg (encC_closed _)) closedL_nil) (fun w0 st0 => ?_)
    dsimp only [frOf]
    (repeat' (first | refine goA ?_ | refine goB ?_ | ((fail_if_success refine ARun.plain rfl ?_); refine ARun.fork rfl rfl rfl (fun h => ?_) (fun h => ?_)) | refine awp_cond rfl (fun h => ?_) (fun h => ?_)))
    all_goals
      refine awp_ret ⟨_, ResL.cons (ResA.tmp (.val _)) .nil, congrArg (fun b => AV.val (.bool b)) ?_⟩
      first
        | rfl
        | (symm
           simp only [decide_eq_true_eq, decide_eq_false_iff_not, beq_iff_eq] at *
           exact fun q => hF ⟨⟨by assumption, by assumption⟩, by assumption, ⟨by assumption, by assumption⟩, ⟨by assumption, by assumption⟩, ⟨by assumption, by assumption⟩, by assumption, q⟩)
end Go.Proofs.YtpkkplojpjakiaaGreat
