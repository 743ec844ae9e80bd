/- yG17, yG20, yG21, yX1, yX2. -/
import Derived.Test.YtfphgelollhdhaaGreatW1
import Derived.Test.YtfphgelollhdhaaGreatW2
import Derived.Test.YtfphgelollhdhaaGreatW3
import Derived.Test.YtfphgelollhdhaaGreatW4
import Derived.Test.YtfphgelollhdhaaGreatyW5
import Derived.Test.YtfphgelollhdhaaGreatyW6
import Derived.Test.YtfphgelollhdhaaGreatyW7
import Derived.Test.YtfphgelollhdhaaGreatyW8
import Derived.Test.YtfphgelollhdhaaGreatyW9
import Derived.Test.YtfphgelollhdhaaGreatyW10
import Derived.Test.YtfphgelollhdhaaGreatyW11
import Derived.Test.YtfphgelollhdhaaGreatyW12
set_option linter.unusedVariables false
set_option linter.unusedSimpArgs false
namespace Go.Proofs.YtfphgelollhdhaaGreat
open Go Go.RowKit
open Dict (St Bs bs_eq Wd encW encWs closed_ws addD namedD findD encFd)
open Mem (Mm encM encBs closed_bs encP_closed storeD fetchD newD freeD)
open Stk (encS closed_s popD pushD pushD_ok)
set_option maxRecDepth 100000
def conf0 : Cf := ⟨2048, 32, 32, 200, 500⟩
attribute [local irreducible] Decidable.decide awp ARun regK toK
end Go.Proofs.YtfphgelollhdhaaGreat
namespace Go.Proofs.YtfphgelollhdhaaGreat
open Go Go.RowKit
open Dict (St Bs bs_eq Wd encW encWs closed_ws encW_closed addD namedD)
open Mem (Mm encM encBs closed_bs putB putB_len byteAt uAt)
open Stk (encS)
set_option maxRecDepth 100000
def nmR (i : Nat) : Int := if i < 130 then (i : Int) else (i : Int) + 170
def valR (i : Nat) : Nat → Int := fun k => if k = 0 then 10 else if k = 2 then (if 9 ≤ i then 96 else 0) else if k = 3 then (if 10 ≤ i then 104 else 0) else if 4 ≤ k ∧ k < 4 + i then nmR (k - 4) else 0
def bothL : List Bs := nmsV ++ spcV
def wR (p : Bs × Nat) : Wd := ⟨p.1, 32 + 8 * (p.2 : Nat), flagsD p.1 (p.2 : Nat)⟩
def dictR (i : Nat) : List Wd := (bothL.take i).zipIdx.map wR
theorem dictR_end : dictR 167 = dictS 37 := by kernel_rfl
theorem bothL_len : bothL.length = 167 := by rfl
theorem bothL_short : (bothL.all fun nm => decide (nm.length ≤ 31)) = true := by kernel_rfl
theorem bothL_at : ((List.range 167).all fun i => match bothL[i]? with | some nm => (decide (nm = nHalt) == decide (i = 8)) && (decide (nm = nCaught) == decide (i = 9)) | none => false) = true := by kernel_rfl
theorem all_at {i : Nat} {nm : Bs} (h : bothL[i]? = some nm) : (nm = nHalt ↔ i = 8) ∧ (nm = nCaught ↔ i = 9) := by
 have hi : i < 167 := (List.getElem?_eq_some_iff.1 h).1
 have := List.all_eq_true.1 bothL_at i (List.mem_range.2 hi)
 rw [h] at this
 simp only [Bool.and_eq_true, beq_iff_eq] at this
 exact ⟨by simpa using this.1, by simpa using this.2⟩
theorem valR_end (k : Nat) : valR 167 k = updC (valS 37) 0 10 k := by
 unfold valR updC valS valN nmR
 repeat' split
 all_goals first | omega | rfl
theorem dictR_step {i : Nat} {nm : Bs} (h : bothL[i]? = some nm) : (dictR (i + 1)).map encW = (dictR i).map encW ++ [encW (wR (nm, i))] := by
 unfold dictR
 rw [zip_step h wR, List.map_append]
 rfl
theorem two_end {l : List UInt8} {k : Nat} {v : Int} (hk : l.length = 8 * k) (h0 : 0 ≤ v) (h1 : v < 65536) : ((l ++ putB 0).set (8 * k) (UInt8.ofNat (v % 256).toNat)).set (8 * k + 1) (UInt8.ofNat (v / 256).toNat) = l ++ putB v := by
 rw [show putB 0 = [0, 0, 0, 0, 0, 0, 0, 0] from rfl]
 have e : putB v = [UInt8.ofNat (v % 256).toNat, UInt8.ofNat (v / 256).toNat, 0, 0, 0, 0, 0, 0] := by
  have x0 : uAt v 0 % 256 = v % 256 := by show (v % 18446744073709551616) % 256 = _; omega
  have x1 : uAt v 1 % 256 = v / 256 := by show (v % 18446744073709551616 / 256) % 256 = _; omega
  have x2 : uAt v 2 % 256 = 0 := by show (v % 18446744073709551616 / 256 / 256) % 256 = _; omega
  have x3 : uAt v 3 % 256 = 0 := by show (v % 18446744073709551616 / 256 / 256 / 256) % 256 = _; omega
  have x4 : uAt v 4 % 256 = 0 := by show (v % 18446744073709551616 / 256 / 256 / 256 / 256) % 256 = _; omega
  have x5 : uAt v 5 % 256 = 0 := by show (v % 18446744073709551616 / 256 / 256 / 256 / 256 / 256) % 256 = _; omega
  have x6 : uAt v 6 % 256 = 0 := by show (v % 18446744073709551616 / 256 / 256 / 256 / 256 / 256 / 256) % 256 = _; omega
  have x7 : uAt v 7 % 256 = 0 := by show (v % 18446744073709551616 / 256 / 256 / 256 / 256 / 256 / 256 / 256) % 256 = _; omega
  show [byteAt v 0, byteAt v 1, byteAt v 2, byteAt v 3, byteAt v 4, byteAt v 5, byteAt v 6, byteAt v 7] = _
  unfold byteAt
  rw [x0, x1, x2, x3, x4, x5, x6, x7]
  rfl
 rw [e, List.set_append_right _ _ (by omega), List.set_append_right _ _ (by omega), hk]
 simp
theorem two_set {f : Nat → Int} {k : Nat} {v : Int} (hf : f k = 0) (h0 : 0 ≤ v) (h1 : v < 65536) : ∀ {n : Nat}, k < n → ((cellsC f n).set (8 * k) (UInt8.ofNat (v % 256).toNat)).set (8 * k + 1) (UInt8.ofNat (v / 256).toNat) = cellsC (updC f k v) n
 | 0, h => by omega
 | n + 1, h => by
  rw [cellsC, cellsC]
  by_cases hk : k = n
  ·subst hk
   rw [hf, two_end (cellsC_len f k) h0 h1, cellsC_congr (f := updC f k v) (g := f) (fun j hj => if_neg (by omega)), show updC f k v k = v from if_pos rfl]
  ·have hl := cellsC_len f n
   rw [List.set_append_left _ _ (by omega), List.set_append_left _ _ (by rw [List.length_set]; omega), two_set hf h0 h1 (by omega), show updC f k v n = f n from if_neg (by omega)]
theorem two_rows {f : Nat → Int} {n k : Nat} {v a b : Int} (hk : k < n) (hf : f k = 0) (h0 : 0 ≤ v) (h1 : v < 65536) (ha : a = v % 256) (hb : b = v / 256) {i j : Nat} (hi : i = 8 * k) (hj : j = 8 * k + 1) :
  (((cellsC f n).map encB).set i [.val (.int .u8 a)]).set j [.val (.int .u8 b)] = (cellsC (updC f k v) n).map encB := by
 subst hi hj
 rw [← two_set hf h0 h1 hk, List.map_set, List.map_set]
 have e1 : encB (UInt8.ofNat (v % 256).toNat) = [.val (.int .u8 a)] := by
  unfold encB
  rw [UInt8.toNat_ofNat', ha]
  have : (((v % 256).toNat % 2 ^ 8 : Nat) : Int) = v % 256 := by omega
  rw [this]
 have e2 : encB (UInt8.ofNat (v / 256).toNat) = [.val (.int .u8 b)] := by
  unfold encB
  rw [UInt8.toNat_ofNat', hb]
  have : (((v / 256).toNat % 2 ^ 8 : Nat) : Int) = v / 256 := by omega
  rw [this]
 rw [e1, e2]
theorem two_rows2 {f : Nat → Int} {n k : Nat} (v : Int) (hk : k < n) (hf : f k = 0) (h0 : 0 ≤ v) (h1 : v < 65536) {i j : Nat} (hi : i = 8 * k) (hj : j = 8 * k + 1) :
  ∃ l1 : List UInt8, l1.length = 8 * n ∧ ((cellsC f n).map encB).set i [.val (.int .u8 (IntKind.u8.wrap (v.tmod 256)))] = l1.map encB ∧ (l1.map encB).set j [.val (.int .u8 (IntKind.u8.wrap (IntKind.i64.wrap (v.tdiv 256))))] = (cellsC (updC f k v) n).map encB := by
 have ha : IntKind.u8.wrap (v.tmod 256) = v % 256 := by rw [Int.tmod_eq_emod_of_nonneg h0, IntKind.wrap_u8]; omega
 have hb : IntKind.u8.wrap (IntKind.i64.wrap (v.tdiv 256)) = v / 256 := by rw [Int.tdiv_eq_ediv_of_nonneg h0, show IntKind.i64.wrap (v / 256) = v / 256 by (rw [IntKind.wrap_i64]; omega), IntKind.wrap_u8]; omega
 have e1 : encB (UInt8.ofNat (v % 256).toNat) = [.val (.int .u8 (v % 256))] := by
  unfold encB
  rw [UInt8.toNat_ofNat']
  have : (((v % 256).toNat % 2 ^ 8 : Nat) : Int) = v % 256 := by omega
  rw [this]
 refine ⟨(cellsC f n).set i (UInt8.ofNat (v % 256).toNat), by rw [List.length_set, cellsC_len], ?_, ?_⟩
 ·rw [ha, ← e1, List.map_set]
 ·rw [hb, ← two_rows hk hf h0 h1 rfl rfl hi hj, List.map_set, e1]
end Go.Proofs.YtfphgelollhdhaaGreat
namespace Go.Proofs.YtfphgelollhdhaaGreat
open Go Go.RowKit
open Dict (St Bs bs_eq Wd encW encWs closed_ws encW_closed addD namedD)
open Mem (Mm encM encBs closed_bs putB putB_len byteAt encP)
open Stk (encS)
set_option maxRecDepth 100000
theorem valR_zero (q : Nat) (hq : 0 < q) : (List.replicate (8 * q) ([Value.int .u8 0].map zv)).set 0 [.val (.int .u8 10)] = (cellsC (valR 0) q).map encB := by
 have e : cellsC (fun _ => 0) q = List.replicate (8 * q) 0 := cellsC_zero q
 have h := two_rows (f := fun _ => 0) (n := q) (k := 0) (v := 10) (a := 10) (b := 0) hq rfl (by omega) (by omega) rfl rfl (i := 0) (j := 1) rfl rfl
 rw [e] at h
 have h2 : (cellsC (updC (fun _ => 0) 0 10) q) = cellsC (valR 0) q := cellsC_congr (fun j _ => by
  unfold updC valR
  repeat' split
  all_goals first | omega | rfl)
 rw [h2] at h
 rw [← h]
 have e3 : (List.replicate (8 * q) (0 : UInt8)).map encB = List.replicate (8 * q) ([Value.int .u8 0].map zv) := by rw [List.map_replicate]; rfl
 rw [e3]
 refine (List.ext_getElem? fun i => ?_)
 rw [List.getElem?_set (i := 1)]
 split
 ·rename_i h1
  subst h1
  rw [List.getElem?_set_ne (by omega), List.getElem?_replicate]
  simp
  rfl
 ·rfl
attribute [local irreducible] Decidable.decide awp ARun regK toK
set_option maxHeartbeats 16000000 in
theorem ref_new_c (c : Cf) : FnC Tryz.prog 13 [.agg (encC c)] (.tup [.agg (encV (newV c).1), .val (.int .i64 (newV c).2)]) := by
 have c1 := ref_fits_c c
 by_cases hF : FitsP c
 case neg =>
  rw [fits_no hF] at c1
  rw [newV_no hF]
  refine goF Tryz.func13 (closedL_cons (.agg (encC_closed _)) closedL_nil) (fun w0 st0 => ?_)
  dsimp only [frOf]
  (repeat' (first | refine goA ?_ | refine cX c1 ?_ | refine goB ?_ | fail))
  exact awp_ret ⟨_, ResL.cons (ResA.agg rfl rfl rfl rfl rfl rfl rfl (RL.cons (.val _) (RL.cons (.val _) (RL.cons (.val _) (RL.cons (.val _) (RL.cons (.val _) (RL.cons (.nilSl (sz' := 1)) (RL.cons (.nilSl (sz' := 2)) (RL.cons (.val _) (RL.cons (.nilSl (sz' := 1)) (RL.cons (.nilSl (sz' := 1)) (RL.cons (.nilSl (sz' := 3)) (RL.cons (.nilSl (sz' := 3)) (RL.cons (.val _) (RL.cons (.nilSl (sz' := 1)) (RL.cons (.nilSl (sz' := 1)) (RL.cons (.val _) (RL.cons (.nilSl (sz' := 6)) (RL.cons (.val _) (RL.cons (.val _) (RL.cons (.val _) (RL.cons (.val _) (RL.cons (.val _) (RL.cons (.nilSl (sz' := 4)) (RL.nil _))))))))))))))))))))))))) (ResL.cons (ResA.tmp (.val _)) .nil), rfl⟩
 rw [fits_yes hF] at c1
 rw [newV_new hF]
 have c2 := ref_names_c
 have c3 := ref_specials_c
 have len1 := len_nms
 have len2 := len_spc
 have lenA := bothL_len
 have hm1 := hF.1
 have hm2 := hF.2.1
 cases c with
 | mk mem data ret words out =>
 dsimp only at hm1 hm2
 rw [Int.tmod_eq_emod_of_nonneg (by omega)] at hm2
 obtain ⟨q, rfl⟩ : ∃ q : Nat, mem = ((8 * q : Nat) : Int) := ⟨(mem / 8).toNat, by omega⟩
 have hq : 256 ≤ q ∧ q ≤ 8192 := by omega
 have hs0 : (List.replicate (8 * q) ([Value.int .u8 0].map zv)).set (0 + Int.toNat 0) [.val (.int .u8 10)] = (cellsC (valR 0) q).map encB := valR_zero q (by omega)
 have hA : nmsV.map encN ++ spcV.map encN = bothL.map encN := by unfold bothL; rw [List.map_append]
 have hne : spcV.map encN ≠ [] := by rw [Ne, List.map_eq_nil_iff]; exact fun e => by have := congrArg List.length e; cases this
 refine goF Tryz.func13 (closedL_cons (.agg (encC_closed _)) closedL_nil) (fun w0 st0 => ?_)
 dsimp only [frOf]
 (repeat' (first | refine goA ?_ | refine cX c1 ?_ | refine cX c2 ?_ | refine cX c3 ?_ | refine ARun.makeSliceN rfl rfl rfl rfl rfl rfl rfl rfl rfl rfl lensT rfl (guardF_spec rfl) lensT ?_ | refine ARun.indexAddr_own rfl rfl rfl rfl lensT lensT rfl rfl rfl rfl rfl (guardF_spec rfl) ?_ | refine ARun.storeEl rfl rfl rfl (by rw [List.length_replicate]; omega) (fun el h => by rw [(List.mem_replicate.1 h).2]; rfl) rfl rfl rfl rfl rfl hs0 (guardF_spec rfl) ?_ | refine ARun.append_fullS rfl (by first | exact SrcA.sl rfl (.inr rfl) | exact SrcA.sl rfl (.inl rfl) | exact SrcA.ownW rfl rfl rfl rfl) rfl rfl rfl (.inr rfl) (.inr hne) rfl rfl lensT lensT rfl (guardF_spec rfl) ?_ | refine goB ?_ | ((fail_if_success refine ARun.plain rfl ?_); refine ARun.fork rfl rfl rfl (fun h => ?_) (fun h => ?_)) | refine awp_cond rfl (fun h => ?_) (fun h => ?_)))
 clear c1 hne hs0
 refine awp_freeze 23 _ 1 (bothL.map encN) (by rw [← hA]; rfl) (own_closed_map encN_closed) (fr' := [(8, .val (.int .i64 ((0 : Nat) : Int))), (7, .sl 0 true []), (6, .sl 1 false (bothL.map encN)), (5, .own 18 10 0 (8 * q)), (1, .ptr 1 0 0 0), (2, .ptr 2 1 0 0)]) (hp' := [(18, some ⟨10, 1, (cellsC (valR 0) q).map encB⟩), (1, some ⟨0, 5, [encC ⟨((8 * q : Nat) : Int), data, ret, words, out⟩]⟩), (2, some ⟨1, 23, [[.val (.int .i64 0), .val (.int .i64 0), .val (.int .i64 0), .val (.int .i64 0), .val (.int .i64 0), .sl 0 true [], .sl 0 true [], .val (.int .i64 0), .sl 0 true [], .sl 0 true [], .sl 0 true [], .sl 0 true [], .val (.int .i64 0), .sl 0 true [], .sl 0 true [], .val (.bool false), .sl 0 true [], .val (.int .i64 0), .val (.int .i64 0), .val (.int .i64 0), .val (.int .i64 0), .val (.int .i64 0), .sl 0 true []]]⟩)]) ⟨.inl rfl, .inl rfl, .inr ⟨_, rfl, by rw [← hA], rfl⟩, .inl rfl, .inl rfl, .inl rfl, trivial⟩ ⟨⟨rfl, rfl⟩, ⟨rfl, rfl⟩, ⟨rfl, rfl⟩, trivial⟩ ?_
 refine awp_ownNil 7 3 rfl rfl rfl ?_
 refine awp_loopT (T := Nat × Nat × Nat) (fun t => ⟨[(8, .val (.int .i64 (t.1 : Nat))), (6, .sl 1 false (bothL.map encN)), (5, .own 18 10 0 (8 * q)), (7, .own 7 t.2.1 0 ((dictR t.1).map encW).length), (1, .ptr 1 0 0 0), (2, .ptr 2 1 0 0)], [(18, some ⟨10, 1, (cellsC (valR t.1) q).map encB⟩), (7, some ⟨t.2.1, 3, (dictR t.1).map encW⟩), (1, some ⟨0, 5, [encC ⟨((8 * q : Nat) : Int), data, ret, words, out⟩]⟩), (2, some ⟨1, 23, [[.val (.int .i64 0), .val (.int .i64 0), .val (.int .i64 0), .val (.int .i64 0), .val (.int .i64 0), .sl 0 true [], .sl 0 true [], .val (.int .i64 0), .sl 0 true [], .sl 0 true [], .sl 0 true [], .sl 0 true [], .val (.int .i64 0), .sl 0 true [], .sl 0 true [], .val (.bool false), .sl 0 true [], .val (.int .i64 0), .val (.int .i64 0), .val (.int .i64 0), .val (.int .i64 0), .val (.int .i64 0), .sl 0 true []]]⟩)], t.2.2⟩) (fun t => t.1 ≤ 167) (fun t => 167 - t.1) (0, _, _) (Nat.zero_le _) ⟨⟨rfl, rfl, rfl, rfl, rfl, rfl, trivial⟩, ⟨rfl, rfl, rfl, rfl, trivial⟩, Nat.le_refl _⟩ (fun t ht => ?_)
 obtain ⟨i, g, gc⟩ := t
 dsimp only at ht ⊢
 have hmapL : (bothL.map encN).length = 167 := by rw [List.length_map]; exact lenA
 have hcl := cellsC_len (valR i) q
 by_cases hlt : i < 167
 ·have hc : decide (((i : Nat) : Int) < ((bothL.map encN).length : Nat)) = true := decide_eq_true (by omega)
  have hp : bothL[i]? = some bothL[i] := List.getElem?_eq_getElem (by omega)
  generalize bothL[i] = nm at hp
  obtain ⟨g1, g2⟩ := all_at hp
  have hnm : nm.length ≤ 31 := of_decide_eq_true (List.all_eq_true.1 bothL_short nm (List.mem_of_getElem? hp))
  have cf := ref_flags_c nm ((i : Nat) : Int)
  have hstep := dictR_step hp
  have hdl : (dictR i).length ≤ 167 := by unfold dictR; rw [List.length_map, List.length_zipIdx, List.length_take]; omega
  have hf1 : valR i (4 + i) = 0 := by unfold valR nmR; rw [if_neg (by omega), if_neg (by omega), if_neg (by omega), if_neg (by omega)]
  have hnr : 0 ≤ nmR i ∧ nmR i < 65536 := by unfold nmR; split <;> omega
  obtain ⟨L1, hl1, hsA, hsB⟩ := two_rows2 (f := valR i) (n := q) (k := 4 + i) (nmR i) (by omega) hf1 hnr.1 hnr.2 (i := 0 + (32 + 8 * ((i : Nat) : Int)).toNat) (j := 0 + (32 + 8 * ((i : Nat) : Int) + 1).toNat) (by omega) (by omega)
  have hcl2 := cellsC_len (updC (valR i) (4 + i) (nmR i)) q
  have q0 : ∀ a b : Bs, ((ByteArray.mk a.toArray).toList == (ByteArray.mk b.toArray).toList) = decide (a = b) := bs_eq
  have hrow : ∀ m : Nat, (m = 2 ∧ i = 8) ∨ (m = 3 ∧ i = 9) → ∀ (x y : Nat), x = 8 * m → y = 8 * m + 1 → ∃ l1 : List UInt8, l1.length = 8 * q ∧ ((cellsC (updC (valR i) (4 + i) (nmR i)) q).map encB).set x [.val (.int .u8 (IntKind.u8.wrap ((32 + 8 * ((i : Nat) : Int)).tmod 256)))] = l1.map encB ∧ (l1.map encB).set y [.val (.int .u8 (IntKind.u8.wrap (IntKind.i64.wrap ((32 + 8 * ((i : Nat) : Int)).tdiv 256))))] = (cellsC (valR (i + 1)) q).map encB := by
   intro m hm x y hx hy
   have := two_rows2 (f := updC (valR i) (4 + i) (nmR i)) (n := q) (k := m) (32 + 8 * ((i : Nat) : Int)) (by omega) (by
    unfold updC valR
    repeat' split
    all_goals first | omega | rfl) (by omega) (by omega) hx hy
   rw [cellsC_congr (f := updC (updC (valR i) (4 + i) (nmR i)) m (32 + 8 * ((i : Nat) : Int))) (g := valR (i + 1)) (fun k _ => by
    unfold updC valR nmR
    repeat' split
    all_goals first | omega | rfl)] at this
   exact this
  have hplain : i ≠ 8 → i ≠ 9 → (cellsC (updC (valR i) (4 + i) (nmR i)) q).map encB = (cellsC (valR (i + 1)) q).map encB := fun n1 n2 => congrArg (List.map encB) (cellsC_congr (fun k _ => by
    unfold updC valR nmR
    repeat' split
    all_goals first | omega | rfl))
  have hwl : (wR (nm, i)) = ⟨nm, 32 + 8 * ((i : Nat) : Int), flagsD nm ((i : Nat) : Int)⟩ := rfl
  rw [hwl] at hstep
  by_cases h130 : i < 130
  ·have d1 : decide ((((nmsV.map encN).length : Nat) : Int) ≤ ((i : Nat) : Int)) = false := decide_eq_false (by omega)
   rw [show nmR i = ((i : Nat) : Int) from if_pos h130] at hsA hsB hrow hplain hcl2
   generalize flagsD nm ((i : Nat) : Int) = fl at cf hstep
   generalize (cellsC (updC (valR i) (4 + i) ((i : Nat) : Int)) q) = R1 at *
   by_cases h1 : nm = nHalt
   ·have d2 : ((ByteArray.mk nm.toArray).toList == (ByteArray.mk #[40, 104, 97, 108, 116, 41]).toList) = true := by rw [show ByteArray.mk #[40, 104, 97, 108, 116, 41] = ByteArray.mk nHalt.toArray from rfl, bs_eq]; exact decide_eq_true h1
    have d3 : ((ByteArray.mk nm.toArray).toList == (ByteArray.mk #[40, 99, 97, 117, 103, 104, 116, 41]).toList) = false := by rw [show ByteArray.mk #[40, 99, 97, 117, 103, 104, 116, 41] = ByteArray.mk nCaught.toArray from rfl, bs_eq]; exact decide_eq_false (fun e => by have e1 := g1.1 h1; have e2 := g2.1 e; omega)
    obtain ⟨L2, hl2, hsC, hsD⟩ := hrow 2 (.inl ⟨rfl, g1.1 h1⟩) (0 + Int.toNat 16) (0 + Int.toNat 17) rfl rfl
    clear hrow hplain
    (repeat' (first | refine goA ?_ | refine cX c2 ?_ | refine cX c3 ?_ | refine cX cf ?_ | refine ARun.indexAddr_own rfl rfl rfl rfl lensT lensT rfl rfl rfl rfl rfl (guardF_spec rfl) ?_ | refine ARun.storeEl rfl rfl rfl lensT (by first | exact map_len (fun _ => rfl)) rfl rfl rfl rfl rfl (by assumption) (guardF_spec rfl) ?_ | refine ARun.indexAddr rfl rfl (by omega) (by first | with_reducible exact get_map hp | with_reducible exact get_map hp) rfl rfl rfl rfl rfl (guardF_spec rfl) ?_ | refine ARun.buildSliceO rfl rfl rfl rfl rfl rfl rfl (buildSF_spec rfl) rfl (guardF_spec rfl) ?_ | refine appO rfl ?_ | refine goB ?_ | ((fail_if_success refine ARun.plain rfl ?_); refine ARun.fork rfl rfl rfl (fun h => ?_) (fun h => ?_)) | refine awp_cond rfl (fun h => ?_) (fun h => ?_)))
    exact ⟨(i + 1, _, _), ⟨⟨succI i, rfl, rfl, (by dsimp only; rw [hstep]; rfl), rfl, rfl, trivial⟩, ⟨rfl, (by dsimp only; rw [hstep]; rfl), rfl, rfl, trivial⟩, Nat.le_refl _⟩, hlt, (by dsimp only; omega)⟩
   have d2 : ((ByteArray.mk nm.toArray).toList == (ByteArray.mk #[40, 104, 97, 108, 116, 41]).toList) = false := by rw [show ByteArray.mk #[40, 104, 97, 108, 116, 41] = ByteArray.mk nHalt.toArray from rfl, bs_eq]; exact decide_eq_false h1
   by_cases h2 : nm = nCaught
   ·have d3 : ((ByteArray.mk nm.toArray).toList == (ByteArray.mk #[40, 99, 97, 117, 103, 104, 116, 41]).toList) = true := by rw [show ByteArray.mk #[40, 99, 97, 117, 103, 104, 116, 41] = ByteArray.mk nCaught.toArray from rfl, bs_eq]; exact decide_eq_true h2
    obtain ⟨L2, hl2, hsC, hsD⟩ := hrow 3 (.inr ⟨rfl, g2.1 h2⟩) (0 + Int.toNat 24) (0 + Int.toNat 25) rfl rfl
    clear hrow hplain
    (repeat' (first | refine goA ?_ | refine cX c2 ?_ | refine cX c3 ?_ | refine cX cf ?_ | refine ARun.indexAddr_own rfl rfl rfl rfl lensT lensT rfl rfl rfl rfl rfl (guardF_spec rfl) ?_ | refine ARun.storeEl rfl rfl rfl lensT (by first | exact map_len (fun _ => rfl)) rfl rfl rfl rfl rfl (by assumption) (guardF_spec rfl) ?_ | refine ARun.indexAddr rfl rfl (by omega) (by first | with_reducible exact get_map hp | with_reducible exact get_map hp) rfl rfl rfl rfl rfl (guardF_spec rfl) ?_ | refine ARun.buildSliceO rfl rfl rfl rfl rfl rfl rfl (buildSF_spec rfl) rfl (guardF_spec rfl) ?_ | refine appO rfl ?_ | refine goB ?_ | ((fail_if_success refine ARun.plain rfl ?_); refine ARun.fork rfl rfl rfl (fun h => ?_) (fun h => ?_)) | refine awp_cond rfl (fun h => ?_) (fun h => ?_)))
    exact ⟨(i + 1, _, _), ⟨⟨succI i, rfl, rfl, (by dsimp only; rw [hstep]; rfl), rfl, rfl, trivial⟩, ⟨rfl, (by dsimp only; rw [hstep]; rfl), rfl, rfl, trivial⟩, Nat.le_refl _⟩, hlt, (by dsimp only; omega)⟩
   have d3 : ((ByteArray.mk nm.toArray).toList == (ByteArray.mk #[40, 99, 97, 117, 103, 104, 116, 41]).toList) = false := by rw [show ByteArray.mk #[40, 99, 97, 117, 103, 104, 116, 41] = ByteArray.mk nCaught.toArray from rfl, bs_eq]; exact decide_eq_false h2
   have hpl := hplain (fun e => h1 (g1.2 e)) (fun e => h2 (g2.2 e))
   rw [hpl] at hsB
   clear hrow hplain
   (repeat' (first | refine goA ?_ | refine cX c2 ?_ | refine cX c3 ?_ | refine cX cf ?_ | refine ARun.indexAddr_own rfl rfl rfl rfl lensT lensT rfl rfl rfl rfl rfl (guardF_spec rfl) ?_ | refine ARun.storeEl rfl rfl rfl lensT (by first | exact map_len (fun _ => rfl)) rfl rfl rfl rfl rfl (by assumption) (guardF_spec rfl) ?_ | refine ARun.indexAddr rfl rfl (by omega) (by first | with_reducible exact get_map hp | with_reducible exact get_map hp) rfl rfl rfl rfl rfl (guardF_spec rfl) ?_ | refine ARun.buildSliceO rfl rfl rfl rfl rfl rfl rfl (buildSF_spec rfl) rfl (guardF_spec rfl) ?_ | refine appO rfl ?_ | refine goB ?_ | ((fail_if_success refine ARun.plain rfl ?_); refine ARun.fork rfl rfl rfl (fun h => ?_) (fun h => ?_)) | refine awp_cond rfl (fun h => ?_) (fun h => ?_)))
   exact ⟨(i + 1, _, _), ⟨⟨succI i, rfl, rfl, (by dsimp only; rw [hstep]; rfl), rfl, rfl, trivial⟩, ⟨rfl, (by dsimp only; rw [hstep]; rfl), rfl, rfl, trivial⟩, Nat.le_refl _⟩, hlt, (by dsimp only; omega)⟩
  ·have d1 : decide ((((nmsV.map encN).length : Nat) : Int) ≤ ((i : Nat) : Int)) = true := decide_eq_true (by omega)
   have e130 : nmR i = 300 + ((i : Nat) : Int) - (((nmsV.map encN).length : Nat) : Int) := by rw [show nmR i = ((i : Nat) : Int) + 170 from if_neg h130, len1]; omega
   have h1 : nm ≠ nHalt := fun e => by have := g1.1 e; omega
   have h2 : nm ≠ nCaught := fun e => by have := g2.1 e; omega
   have d2 : ((ByteArray.mk nm.toArray).toList == (ByteArray.mk #[40, 104, 97, 108, 116, 41]).toList) = false := by rw [show ByteArray.mk #[40, 104, 97, 108, 116, 41] = ByteArray.mk nHalt.toArray from rfl, bs_eq]; exact decide_eq_false h1
   have d3 : ((ByteArray.mk nm.toArray).toList == (ByteArray.mk #[40, 99, 97, 117, 103, 104, 116, 41]).toList) = false := by rw [show ByteArray.mk #[40, 99, 97, 117, 103, 104, 116, 41] = ByteArray.mk nCaught.toArray from rfl, bs_eq]; exact decide_eq_false h2
   rw [hplain (by omega) (by omega)] at hsB
   rw [e130] at hsA hsB
   clear hrow hplain
   generalize flagsD nm ((i : Nat) : Int) = fl at cf hstep
   (repeat' (first | refine goA ?_ | refine cX c2 ?_ | refine cX c3 ?_ | refine cX cf ?_ | refine ARun.indexAddr_own rfl rfl rfl rfl lensT lensT rfl rfl rfl rfl rfl (guardF_spec rfl) ?_ | refine ARun.storeEl rfl rfl rfl lensT (by first | exact map_len (fun _ => rfl)) rfl rfl rfl rfl rfl (by assumption) (guardF_spec rfl) ?_ | refine ARun.indexAddr rfl rfl (by omega) (by first | with_reducible exact get_map hp | with_reducible exact get_map hp) rfl rfl rfl rfl rfl (guardF_spec rfl) ?_ | refine ARun.buildSliceO rfl rfl rfl rfl rfl rfl rfl (buildSF_spec rfl) rfl (guardF_spec rfl) ?_ | refine appO rfl ?_ | refine goB ?_ | ((fail_if_success refine ARun.plain rfl ?_); refine ARun.fork rfl rfl rfl (fun h => ?_) (fun h => ?_)) | refine awp_cond rfl (fun h => ?_) (fun h => ?_)))
   exact ⟨(i + 1, _, _), ⟨⟨succI i, rfl, rfl, (by dsimp only; rw [hstep]; rfl), rfl, rfl, trivial⟩, ⟨rfl, (by dsimp only; rw [hstep]; rfl), rfl, rfl, trivial⟩, Nat.le_refl _⟩, hlt, (by dsimp only; omega)⟩
 ·have hii : i = 167 := by omega
  subst hii
  have hc : decide (((167 : Nat) : Int) < ((bothL.map encN).length : Nat)) = false := decide_eq_false (by omega)
  have hbl : ((cellsC (valR 167) q).map encB).length = 8 * q := by rw [List.length_map, hcl]
  have eR : cellsC (valR 167) q = cellsC (updC (valS 37) 0 10) q := cellsC_congr (fun k _ => valR_end k)
  (repeat' (first | refine goA ?_ | refine goB ?_ | ((fail_if_success refine ARun.plain rfl ?_); refine ARun.fork rfl rfl rfl (fun h => ?_) (fun h => ?_)) | refine awp_cond rfl (fun h => ?_) (fun h => ?_)))
  refine awp_ret ⟨_, ResL.cons (ResA.agg rfl rfl rfl rfl rfl rfl rfl (RL.cons (.val _) (RL.cons (.val _) (RL.cons (.val _) (RL.cons (.val _) (RL.cons (.val _) (RL.cons (.owned rfl rfl hbl (own_closed_map encB_closed)) (RL.cons (.nilSl (sz' := 2)) (RL.cons (.val _) (RL.cons (.nilSl (sz' := 1)) (RL.cons (.nilSl (sz' := 1)) (RL.cons (.nilSl (sz' := 3)) (RL.cons (.owned rfl rfl rfl (own_closed_map encW_closed)) (RL.cons (.val _) (RL.cons (.nilSl (sz' := 1)) (RL.cons (.nilSl (sz' := 1)) (RL.cons (.val _) (RL.cons (.nilSl (sz' := 6)) (RL.cons (.val _) (RL.cons (.val _) (RL.cons (.val _) (RL.cons (.val _) (RL.cons (.val _) (RL.cons (.nilSl (sz' := 4)) (RL.nil _))))))))))))))))))))))))) (ResL.cons (ResA.tmp (.val _)) .nil), ?_⟩
  show AV.tup [.agg (encV (vNew ⟨((8 * q : Nat) : Int), data, ret, words, out⟩)), _] = _
  unfold encV vNew
  dsimp only
  rw [show (((8 * q : Nat) : Int)).toNat / 8 = q by omega, ← eR, ← dictR_end]
  rfl
end Go.Proofs.YtfphgelollhdhaaGreat
namespace Go.Proofs.YtfphgelollhdhaaGreat
open Go Go.RowKit
open Dict (St Bs bs_eq Wd encW encWs closed_ws)
open Mem (Mm encM encBs closed_bs encP encP_closed closed_m storeD fetchD writeD commaD alignD enc3m putB putB_len thereD there_yes)
open Stk (encS closed_s)
set_option maxRecDepth 100000
structure Cfr where
 kind : Int
 at' : Int
 lv : List Int
def encCf (c : Cfr) : List AV := [.val (.int .i64 c.kind), .val (.int .i64 c.at'), encS c.lv]
theorem encCf_closed (c : Cfr) : ∀ x, x ∈ encCf c → Closed x := closedL_cons (.val _) (closedL_cons (.val _) (closedL_cons (closed_s _) closedL_nil))
def encLCf (l : List Cfr) : AV := .sl 3 false (l.map encCf)
theorem closedLCf (l : List Cfr) : Closed (encLCf l) := closed_map encCf_closed
def withMH (v : V) (m : Mm) (h : Int) : V := ⟨v.cf, m, h, v.d, v.r, v.f, v.dict, v.last, v.out, v.pb, v.po, v.req, v.free, v.next, v.arg, v.self, v.now, v.hand⟩
def vlayD (v : V) (n : Int) : V × Int := (withMH v (commaD v.m v.here n).1 (commaD v.m v.here n).2.1, (commaD v.m v.here n).2.2)
structure Okk (v : V) (n : Nat) : Prop where
 b : v.m.b.length ≤ 1000000
 o : v.m.old.length + n ≤ 1000000
 h0 : 0 ≤ v.here
 h1 : v.here ≤ v.m.b.length
theorem Okk.le {v : V} {n k : Nat} (h : Okk v n) (hk : k ≤ n) : Okk v k := ⟨h.b, by have := h.o; omega, h.h0, h.h1⟩
theorem write_ok (m : Mm) (a : Int) (b : List UInt8) : (writeD m a b).1.b.length = m.b.length ∧ (writeD m a b).1.old.length ≤ m.old.length + 1 := by
 unfold writeD
 split
 ·exact ⟨rfl, Nat.le_succ _⟩
 ·rename_i h1
  split
  ·exact ⟨rfl, Nat.le_succ _⟩
  ·rename_i h2
   simp only [Bool.not_eq_false] at h1
   have h3 := there_yes h1 (by
    have := List.length_pos_iff.2 h2
    omega)
   exact ⟨by dsimp only; exact overL_length (by omega), by simp⟩
theorem mlay_ok (m : Mm) (here : Int) (b : List UInt8) (h0 : 0 ≤ here) (h1 : here ≤ m.b.length) : (Mem.layD m here b).1.b.length = m.b.length ∧ (Mem.layD m here b).1.old.length ≤ m.old.length + 1 ∧ here ≤ (Mem.layD m here b).2.1 ∧ (Mem.layD m here b).2.1 ≤ m.b.length := by
 unfold Mem.layD
 split
 ·exact ⟨rfl, Nat.le_succ _, Int.le_refl _, h1⟩
 ·have := write_ok m here b
  exact ⟨this.1, this.2, by dsimp only; omega, by dsimp only; omega⟩
theorem comma_ok (m : Mm) (here n : Int) (h0 : 0 ≤ here) (h1 : here ≤ m.b.length) : (commaD m here n).1.b.length = m.b.length ∧ (commaD m here n).1.old.length ≤ m.old.length + 1 ∧ here ≤ (commaD m here n).2.1 ∧ (commaD m here n).2.1 ≤ m.b.length := by
 unfold commaD
 split
 ·exact ⟨rfl, Nat.le_succ _, Int.le_refl _, h1⟩
 ·exact mlay_ok m here _ h0 h1
theorem vlay_ok {v : V} {k : Nat} (n : Int) (h : Okk v (k + 1)) : Okk (vlayD v n).1 k := by
 obtain ⟨h1, h2, h3, h4⟩ := comma_ok v.m v.here n h.h0 h.h1
 have hb := h.b
 have ho := h.o
 have h0 := h.h0
 exact ⟨by show (commaD v.m v.here n).1.b.length ≤ _; omega, by show (commaD v.m v.here n).1.old.length + k ≤ _; omega, by show 0 ≤ (commaD v.m v.here n).2.1; omega, by show (commaD v.m v.here n).2.1 ≤ ((commaD v.m v.here n).1.b.length : Nat); omega⟩
attribute [local irreducible] Decidable.decide awp ARun regK toK
set_option maxHeartbeats 4000000 in
theorem ref_vlay_c (v : V) (n : Int) (h : Okk v 1) : FnC Tryz.prog 59 [.agg (encV v), .val (.int .i64 n)] (encVE (vlayD v n)) := by
 have c1 := Mem.ref_comma_c v.m v.here n h.b (by have := h.o; omega) ⟨h.h0, h.h1⟩
 simp only [enc3m] at c1
 unfold vlayD
 generalize commaD v.m v.here n = p at *
 refine goF Tryz.func59 (closedL_cons (closedV v) (closedL_cons (.val _) closedL_nil)) (fun w0 st0 => ?_)
 dsimp only [frOf]
 (repeat' (first | refine goA ?_ | refine cX c1 ?_ | refine goB ?_ | ((fail_if_success refine ARun.plain rfl ?_); refine ARun.fork rfl rfl rfl (fun h => ?_) (fun h => ?_)) | refine awp_cond rfl (fun h => ?_) (fun h => ?_)))
 exact awp_ret ⟨_, ResL.cons (ResA.agg rfl rfl rfl rfl rfl rfl rfl (RL.allClosed (encV_closed (withMH v p.1 p.2.1)))) (ResL.cons (ResA.tmp (.val _)) .nil), rfl⟩
end Go.Proofs.YtfphgelollhdhaaGreat
namespace Go.Proofs.YtfphgelollhdhaaGreat
open Go Go.RowKit
open Dict (St Bs bs_eq Wd encW encWs closed_ws)
open Mem (Mm encM encBs closed_bs encP encP_closed closed_m storeD fetchD commaD)
open Stk (encS closed_s)
set_option maxRecDepth 100000
structure Kw where
 v : V
 l : List Cfr
 bad : Int
def cellD (w : Kw) (n : Int) : Kw := if w.bad = 0 then ⟨(vlayD w.v n).1, w.l, (vlayD w.v n).2⟩ else w
def idxFrom : List Bs → Bs → Nat → Int
 | [], _, _ => -1
 | a :: l, s, i => if s = a then (i : Int) else idxFrom l s (i + 1)
def xtD (s : Bs) : Int := 32 + 8 * idxFrom nmsV s 0
def hereD (w : Kw) (a : Int) : Kw := if w.bad = 0 then ⟨withMH w.v (storeD w.v.m a w.v.here).1 w.v.here, w.l, (storeD w.v.m a w.v.here).2⟩ else w
def cf0 : Cfr := ⟨0, 0, []⟩
def lastC (l : List Cfr) : Cfr := l.getLast?.getD cf0
attribute [local irreducible] Decidable.decide awp ARun regK toK
end Go.Proofs.YtfphgelollhdhaaGreat
