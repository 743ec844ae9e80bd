/- yG12, yG13, yG14, yG15, yG16. -/
import Derived.Test.YtfphgelollhdhaaGreatW1
import Derived.Test.YtfphgelollhdhaaGreatW2
import Derived.Test.YtfphgelollhdhaaGreatW3
import Derived.Test.YtfphgelollhdhaaGreatW4
import Derived.Test.YtfphgelollhdhaaGreatyW5
import Derived.Test.YtfphgelollhdhaaGreatyW6
import Derived.Test.YtfphgelollhdhaaGreatyW7
import Derived.Test.YtfphgelollhdhaaGreatyW8
import Derived.Test.YtfphgelollhdhaaGreatyW9
import Derived.Test.YtfphgelollhdhaaGreatyW10
import Derived.Test.YtfphgelollhdhaaGreatyW11
set_option linter.unusedVariables false
set_option linter.unusedSimpArgs false
namespace Go.Proofs.YtfphgelollhdhaaGreat
open Go Go.RowKit
open Dict (St Bs bs_eq Wd encW encWs closed_ws)
open Mem (Mm encM encBs closed_bs encP encP_closed fetchD)
open Stk (encS closed_s)
set_option maxRecDepth 100000
attribute [local irreducible] Decidable.decide awp ARun regK toK
set_option maxHeartbeats 8000000 in
theorem ref_kind_c (v : V) (xt : Int) (hv : v.m.b.length ≤ 1000000) : FnC Tryz.prog 36 [.agg (encV v), .val (.int .i64 xt)] (.tup [.val (.int .i64 (kindD v xt).1), .val (.int .i64 (kindD v xt).2)]) := by
 have c1 := Mem.ref_fetch_c v.m xt hv
 unfold kindD
 generalize fetchD v.m xt = p at *
 obtain ⟨n, e⟩ := p
 dsimp only at c1 ⊢
 by_cases h0 : e = 0
 case neg =>
  have d0 : (e != 0) = true := by simp [h0]
  rw [if_pos h0]
  refine goF Tryz.func36 (closedL_cons (closedV v) (closedL_cons (.val _) closedL_nil)) (fun w0 st0 => ?_)
  dsimp only [frOf]
  (repeat' (first | refine goA ?_ | refine cX c1 ?_ | refine goB ?_ | fail))
  exact awp_ret ⟨_, ResL.cons (ResA.tmp (.val _)) (ResL.cons (ResA.tmp (.val _)) .nil), rfl⟩
 have d0 : (e != 0) = false := by simp [h0]
 rw [if_neg (by simp [h0])]
 have c2 := ref_names_c
 have c3 := ref_specials_c
 have e1 := len_nms
 have e2 := len_spc
 generalize nmsV.map encN = l1 at *
 generalize spcV.map encN = l2 at *
 by_cases hk : (0 ≤ n ∧ n ≤ 129) ∨ (256 ≤ n ∧ n ≤ 260) ∨ (300 ≤ n ∧ n ≤ 336)
 ·rw [if_pos hk]
  refine goF Tryz.func36 (closedL_cons (closedV v) (closedL_cons (.val _) closedL_nil)) (fun w0 st0 => ?_)
  dsimp only [frOf]
  (repeat' (first | refine goA ?_ | refine cX c1 ?_ | refine cX c2 ?_ | refine cX c3 ?_ | refine goB ?_ | ((fail_if_success refine ARun.plain rfl ?_); refine ARun.fork rfl rfl rfl (fun h => ?_) (fun h => ?_)) | refine awp_cond rfl (fun h => ?_) (fun h => ?_)))
  all_goals first
   | exact awp_ret ⟨_, ResL.cons (ResA.tmp (.val _)) (ResL.cons (ResA.tmp (.val _)) .nil), rfl⟩
   | (exfalso; simp only [decide_eq_true_eq, decide_eq_false_iff_not] at *; omega)
 ·rw [if_neg hk]
  refine goF Tryz.func36 (closedL_cons (closedV v) (closedL_cons (.val _) closedL_nil)) (fun w0 st0 => ?_)
  dsimp only [frOf]
  (repeat' (first | refine goA ?_ | refine cX c1 ?_ | refine cX c2 ?_ | refine cX c3 ?_ | refine goB ?_ | ((fail_if_success refine ARun.plain rfl ?_); refine ARun.fork rfl rfl rfl (fun h => ?_) (fun h => ?_)) | refine awp_cond rfl (fun h => ?_) (fun h => ?_)))
  all_goals first
   | exact awp_ret ⟨_, ResL.cons (ResA.tmp (.val _)) (ResL.cons (ResA.tmp (.val _)) .nil), rfl⟩
   | (exfalso; simp only [decide_eq_true_eq, decide_eq_false_iff_not] at *; omega)
end Go.Proofs.YtfphgelollhdhaaGreat
namespace Go.Proofs.YtfphgelollhdhaaGreat
open Go Go.RowKit
open Dict (St Bs bs_eq Wd encW encWs closed_ws)
open Mem (Mm encM encBs closed_bs encP encP_closed)
open Stk (encS closed_s)
set_option maxRecDepth 100000
structure FewV (v : V) : Prop where
 f1 : Mem.FewM v.m 8192
 f2 : Dict.FewW v.dict 300
 f3 : v.d.length ≤ 300
 f4 : v.r.length ≤ 300
 f5 : v.f.length ≤ 70
 f6 : v.out.length ≤ 5000
 f7 : v.pb.length ≤ 200
 f8 : v.req.length ≤ 20
 f9 : v.hand.length ≤ 70
attribute [local irreducible] Decidable.decide awp ARun regK toK
def FlIn (l : List Wd) : Prop := ∀ w, w ∈ l → -9223372036854775808 ≤ w.fl ∧ w.fl ≤ 9223372036854775807
theorem FewV.held {v : V} (h : FewV v) (hi : FlIn v.dict) : Held v := by
 obtain ⟨⟨m1, m2, _⟩, ⟨w1, w2⟩, s3, s4, s5, s6, s7, s8, s9⟩ := h
 exact ⟨by omega, by omega, by omega, by omega, by omega, by omega, fun w hw => ⟨by have := w2 w hw; omega, hi w hw⟩, by omega, by omega, by omega, by omega⟩
end Go.Proofs.YtfphgelollhdhaaGreat
namespace Go.Proofs.YtfphgelollhdhaaGreat
open Go Go.RowKit
open Dict (St Bs bs_eq Wd encW encWs closed_ws addD)
open Mem (Mm encM encBs closed_bs encP encP_closed storeD fetchD writeD thereD cellAtD putB putB_len partD newD freeD get_put)
open Stk (encS closed_s)
set_option maxRecDepth 100000
def cellsC (f : Nat → Int) : Nat → List UInt8
 | 0 => []
 | n + 1 => cellsC f n ++ putB (f n)
def updC (f : Nat → Int) (k : Nat) (v : Int) : Nat → Int := fun j => if j = k then v else f j
theorem cellsC_len (f : Nat → Int) : ∀ n, (cellsC f n).length = 8 * n
 | 0 => rfl
 | n + 1 => by
  rw [cellsC, List.length_append, cellsC_len f n, putB_len]
  omega
theorem cellsC_congr {f g : Nat → Int} : ∀ {n : Nat}, (∀ j, j < n → f j = g j) → cellsC f n = cellsC g n
 | 0, _ => rfl
 | n + 1, h => by
  rw [cellsC, cellsC, cellsC_congr (fun j hj => h j (by omega)), h n (by omega)]
theorem overL_left {α : Type} {l r b : List α} {a : Nat} (h : a + b.length ≤ l.length) : overL (l ++ r) a b = overL l a b ++ r := by
 unfold overL
 rw [List.take_append_of_le_length (by omega), List.drop_append_of_le_length h]
 simp
theorem overL_end {α : Type} {l b c : List α} (h : c.length = b.length) : overL (l ++ c) l.length b = l ++ b := by
 unfold overL
 rw [List.take_left', List.drop_append, ← h]
 ·simp
 ·rfl
theorem cellsC_over {f : Nat → Int} {k : Nat} (v : Int) : ∀ {n : Nat}, k < n → overL (cellsC f n) (8 * k) (putB v) = cellsC (updC f k v) n
 | 0, h => by omega
 | n + 1, h => by
  rw [cellsC, cellsC]
  by_cases hk : k = n
  ·subst hk
   have e := overL_end (l := cellsC f k) (b := putB v) (c := putB (f k)) (by rw [putB_len, putB_len])
   rw [cellsC_len] at e
   rw [e, cellsC_congr (f := updC f k v) (g := f) (fun j hj => if_neg (by omega)), show updC f k v k = v from if_pos rfl]
  ·rw [overL_left (by rw [cellsC_len, putB_len]; omega), cellsC_over v (by omega), show updC f k v n = f n from if_neg (by omega)]
theorem cellsC_part {f : Nat → Int} {k : Nat} : ∀ {n : Nat}, k < n → ((cellsC f n).drop (8 * k)).take 8 = putB (f k)
 | 0, h => by omega
 | n + 1, h => by
  rw [cellsC]
  by_cases hk : k = n
  ·subst hk
   rw [List.drop_left' (by rw [cellsC_len]), List.take_of_length_le (by rw [putB_len]; omega)]
  ·rw [List.drop_append_of_le_length (by rw [cellsC_len]; omega), List.take_append_of_le_length (by rw [List.length_drop, cellsC_len]; omega)]
   exact cellsC_part (by omega)
theorem cellsC_zero : ∀ n, cellsC (fun _ => 0) n = List.replicate (8 * n) 0
 | 0 => rfl
 | n + 1 => by
  rw [cellsC, cellsC_zero n, show putB 0 = List.replicate 8 0 from rfl, List.replicate_append_replicate]
  rfl
theorem cell_flat {m : Mm} {f : Nat → Int} {n k : Nat} (hm : m.b = cellsC f n) (hk : k < n) : cellAtD m ((8 * k : Nat) : Int) = 0 := by
 unfold cellAtD
 have h1 : thereD m.b.length ((8 * k : Nat) : Int) 8 = true := by
  unfold thereD
  rw [decide_eq_true_eq, hm, cellsC_len]
  omega
 rw [if_neg (by rw [h1]; simp), if_neg]
 rw [Int.tmod_eq_emod_of_nonneg (by omega)]
 omega
theorem store_flat {m : Mm} {f : Nat → Int} {n k : Nat} (v : Int) (hm : m.b = cellsC f n) (hk : k < n) : (storeD m ((8 * k : Nat) : Int) v).1.b = cellsC (updC f k v) n ∧ (storeD m ((8 * k : Nat) : Int) v).2 = 0 := by
 unfold storeD
 rw [if_neg (fun e => e (cell_flat hm hk))]
 have h1 : thereD m.b.length ((8 * k : Nat) : Int) (putB v).length = true := by
  unfold thereD
  rw [decide_eq_true_eq, hm, cellsC_len, putB_len]
  omega
 rw [Mem.writeD_yes h1 (fun e => by have := congrArg List.length e; rw [putB_len] at this; cases this)]
 refine ⟨?_, rfl⟩
 dsimp only
 rw [Int.toNat_natCast, hm]
 exact cellsC_over v hk
theorem fetch_flat {m : Mm} {f : Nat → Int} {n k : Nat} (hm : m.b = cellsC f n) (hk : k < n) (hf : -9223372036854775808 ≤ f k ∧ f k ≤ 9223372036854775807) : fetchD m ((8 * k : Nat) : Int) = (f k, 0) := by
 unfold fetchD
 rw [if_neg (fun e => e (cell_flat hm hk))]
 have h1 : partD m.b ((8 * k : Nat) : Int) 8 = putB (f k) := by
  unfold partD
  rw [Int.toNat_natCast, hm]
  exact cellsC_part hk
 rw [h1, get_put _ hf]
end Go.Proofs.YtfphgelollhdhaaGreat
namespace Go.Proofs.YtfphgelollhdhaaGreat
open Go Go.RowKit
open Dict (St Bs bs_eq Wd encW encWs closed_ws addD namedD)
open Mem (Mm storeD fetchD newD freeD)
set_option maxRecDepth 100000
theorem nms_halt : ((List.range 130).all fun i => match nmsV[i]? with | some nm => (decide (nm = nHalt) == decide (i = 8)) && (decide (nm = nCaught) == decide (i = 9)) && decide (namedD nm = 0) | none => false) = true := by kernel_rfl
theorem spc_named : (spcV.all fun nm => decide (namedD nm = 0)) = true := by kernel_rfl
theorem nms_at {i : Nat} {nm : Bs} (h : nmsV[i]? = some nm) : (nm = nHalt ↔ i = 8) ∧ (nm = nCaught ↔ i = 9) ∧ namedD nm = 0 := by
 have hi : i < 130 := (List.getElem?_eq_some_iff.1 h).1
 have := List.all_eq_true.1 nms_halt i (List.mem_range.2 hi)
 rw [h] at this
 simp only [Bool.and_eq_true, beq_iff_eq, decide_eq_true_eq] at this
 exact ⟨by simpa using this.1.1, by simpa using this.1.2, this.2⟩
theorem spc_at {i : Nat} {nm : Bs} (h : spcV[i]? = some nm) : namedD nm = 0 := of_decide_eq_true (List.all_eq_true.1 spc_named nm (List.mem_of_getElem? h))
def valN (i : Nat) : Nat → Int := fun k => if k = 2 then (if 9 ≤ i then 96 else 0) else if k = 3 then (if 10 ≤ i then 104 else 0) else if 4 ≤ k ∧ k < 4 + i then (k : Int) - 4 else 0
def valS (j : Nat) : Nat → Int := fun k => if 134 ≤ k ∧ k < 134 + j then (k : Int) + 166 else valN 130 k
def wN (p : Bs × Nat) : Wd := ⟨p.1, 32 + 8 * (p.2 : Nat), flagsD p.1 (p.2 : Nat)⟩
def wS (p : Bs × Nat) : Wd := ⟨p.1, 1072 + 8 * (p.2 : Nat), flagsD p.1 (12 + (p.2 : Nat))⟩
def dictN (i : Nat) : List Wd := (nmsV.take i).zipIdx.map wN
def dictS (j : Nat) : List Wd := dictN 130 ++ (spcV.take j).zipIdx.map wS
theorem zip_step {l : List Bs} {i : Nat} {a : Bs} (h : l[i]? = some a) (f : Bs × Nat → Wd) : (l.take (i + 1)).zipIdx.map f = (l.take i).zipIdx.map f ++ [f (a, i)] := by
 have hi := (List.getElem?_eq_some_iff.1 h).1
 rw [take_succ' h, List.zipIdx_append, List.map_append]
 simp [Nat.min_eq_left (Nat.le_of_lt hi)]
theorem add_ok {l : List Wd} {nm : Bs} {xt fl words : Int} (h1 : namedD nm = 0) (h2 : 0 ≤ fl ∧ fl ≤ 7) (h3 : (l.length : Int) < words) (h4 : l.length < 1024) : addD l nm xt fl words = (l ++ [⟨nm, xt, fl⟩], 0) := by
 unfold addD
 rw [if_neg (by simp [h1]), if_neg (by simp [h2]), if_neg (by omega)]
theorem newN_all {c : Cf} (hF : FitsP c) : ∀ i : Nat, i ≤ 130 → (newN c i).1.b = cellsC (valN i) (c.mem.toNat / 8) ∧ (newN c i).2 = dictN i
 | 0, _ => by
  have h8 : c.mem % 8 = 0 := by have := hF.2.1; rw [Int.tmod_eq_emod_of_nonneg (by have := hF.1.1; omega)] at this; exact this
  refine ⟨?_, rfl⟩
  show (newD c.mem).1.b = _
  unfold newD
  rw [if_neg (by have := hF.1; have := hF.2.1; omega)]
  rw [cellsC_congr (g := fun _ => 0) (fun j _ => by unfold valN; split <;> simp <;> omega), cellsC_zero]
  have h9 := hF.1
  have e : c.mem.toNat = 8 * (c.mem.toNat / 8) := by omega
  show List.replicate c.mem.toNat (0 : UInt8) = _
  rw [← e]
 | i + 1, hi => by
  obtain ⟨h1, h2⟩ := newN_all hF i (by omega)
  obtain ⟨k1, k2, k3⟩ := newN_len c i
  have hn : i < nmsV.length := by show i < 130; omega
  have hp : nmsV[i]? = some nmsV[i] := List.getElem?_eq_getElem hn
  generalize nmsV[i] = nm at hp
  obtain ⟨g1, g2, g3⟩ := nms_at hp
  have hmem : 256 ≤ c.mem.toNat / 8 := by have := hF.1; omega
  have e1 : (32 : Int) + 8 * ((i : Nat) : Int) = ((8 * (4 + i) : Nat) : Int) := by omega
  unfold newN
  rw [hp]
  dsimp only
  refine ⟨?_, ?_⟩
  ·unfold stepV
   dsimp only
   rw [e1]
   have s1 := (store_flat (m := (newN c i).1) (k := 4 + i) ((i : Nat) : Int) h1 (by omega)).1
   generalize (storeD (newN c i).1 ((8 * (4 + i) : Nat) : Int) ((i : Nat) : Int)).1 = m1 at s1
   unfold haltD
   by_cases q1 : nm = nHalt
   ·rw [if_pos q1]
    obtain rfl := g1.1 q1
    rw [show (16 : Int) = ((8 * 2 : Nat) : Int) from rfl, (store_flat _ s1 (by omega)).1]
    refine cellsC_congr (fun j hj => ?_)
    unfold updC valN
    repeat' split
    all_goals first | omega | rfl
   ·rw [if_neg q1]
    by_cases q2 : nm = nCaught
    ·rw [if_pos q2]
     obtain rfl := g2.1 q2
     rw [show (24 : Int) = ((8 * 3 : Nat) : Int) from rfl, (store_flat _ s1 (by omega)).1]
     refine cellsC_congr (fun j hj => ?_)
     unfold updC valN
     repeat' split
     all_goals first | omega | rfl
    ·rw [if_neg q2, s1]
     have n8 : i ≠ 8 := fun e => q1 (g1.2 e)
     have n9 : i ≠ 9 := fun e => q2 (g2.2 e)
     refine cellsC_congr (fun j hj => ?_)
     unfold updC valN
     repeat' split
     all_goals first | omega | rfl
  ·unfold stepV
   dsimp only
   have hw := hF.2.2.2.2.1.1
   rw [add_ok g3 (flagsD_range _ _) (by omega) (by omega), h2]
   exact (zip_step hp wN).symm
theorem newS_all {c : Cf} (hF : FitsP c) : ∀ j : Nat, j ≤ 37 → (newS c j).1.b = cellsC (valS j) (c.mem.toNat / 8) ∧ (newS c j).2 = dictS j
 | 0, _ => by
  obtain ⟨h1, h2⟩ := newN_all hF 130 (Nat.le_refl _)
  refine ⟨h1.trans (cellsC_congr (fun k _ => by unfold valS; rw [if_neg (by omega)])), ?_⟩
  show (newN c 130).2 = _
  rw [h2]
  unfold dictS
  simp
 | j + 1, hj => by
  obtain ⟨h1, h2⟩ := newS_all hF j (by omega)
  obtain ⟨k1, k2, k3⟩ := newS_len c j
  have hn : j < spcV.length := by show j < 37; omega
  have hp : spcV[j]? = some spcV[j] := List.getElem?_eq_getElem hn
  generalize spcV[j] = nm at hp
  have hmem : 256 ≤ c.mem.toNat / 8 := by have := hF.1; omega
  have e1 : (1072 : Int) + 8 * ((j : Nat) : Int) = ((8 * (134 + j) : Nat) : Int) := by omega
  unfold newS
  rw [hp]
  dsimp only
  unfold stepV
  refine ⟨?_, ?_⟩
  ·dsimp only
   rw [e1, (store_flat (m := (newS c j).1) (k := 134 + j) (300 + ((j : Nat) : Int)) h1 (by omega)).1]
   refine cellsC_congr (fun k _ => ?_)
   unfold updC valS
   repeat' split
   all_goals first | omega | rfl
  ·dsimp only
   have hw := hF.2.2.2.2.1.1
   rw [add_ok (spc_at hp) (flagsD_range _ _) (by omega) (by omega), h2]
   unfold dictS
   rw [zip_step hp wS, List.append_assoc]
   rfl
end Go.Proofs.YtfphgelollhdhaaGreat
namespace Go.Proofs.YtfphgelollhdhaaGreat
open Go Go.RowKit
open Dict (St Bs bs_eq Wd encW encWs closed_ws addD namedD findD encFd)
open Mem (Mm encM encBs storeD fetchD newD freeD)
open Stk (encS)
set_option maxRecDepth 100000
attribute [local irreducible] newS newN dictS dictN cellsC Mem.storeD
def vNew (c : Cf) : V := ⟨c, ⟨cellsC (updC (valS 37) 0 10) (c.mem.toNat / 8), []⟩, 1368, [], [], [], dictS 37, 0, [], [], false, [], 0, 0, 0, 0, 0, []⟩
theorem newV_new {c : Cf} (hF : FitsP c) : newV c = (vNew c, 0) := by
 rw [newV_yes hF]
 obtain ⟨h1, h2⟩ := newS_all hF 37 (Nat.le_refl _)
 have hmem : 256 ≤ c.mem.toNat / 8 := by have := hF.1; omega
 have h3 := (store_flat (m := (newS c 37).1) (k := 0) 10 h1 (by omega)).1
 rw [show (((8 * 0 : Nat)) : Int) = 0 from rfl] at h3
 unfold vNew
 rw [h2]
 have e : freeD (storeD (newS c 37).1 0 10).1 = ⟨cellsC (updC (valS 37) 0 10) (c.mem.toNat / 8), []⟩ := by
  unfold freeD
  rw [← h3]
 rw [e]
end Go.Proofs.YtfphgelollhdhaaGreat
