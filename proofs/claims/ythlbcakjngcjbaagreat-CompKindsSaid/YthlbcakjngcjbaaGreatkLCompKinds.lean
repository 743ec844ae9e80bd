/- CompKinds returns true at every input, and leaves its arguments as they were. -/
import Derived.Test.YthlbcakjngcjbaaGreatW1
import Derived.Test.YthlbcakjngcjbaaGreatW2
import Derived.Test.YthlbcakjngcjbaaGreatW3
import Derived.Test.YthlbcakjngcjbaaGreatW4
import Derived.Test.YthlbcakjngcjbaaGreatkW5
import Derived.Test.YthlbcakjngcjbaaGreatkW6
import Derived.Test.YthlbcakjngcjbaaGreatkW7
import Derived.Test.YthlbcakjngcjbaaGreatkW8
import Derived.Test.YthlbcakjngcjbaaGreatkW9
import Derived.Test.YthlbcakjngcjbaaGreatkW10
import Derived.Test.YthlbcakjngcjbaaGreatkW11
import Derived.Test.YthlbcakjngcjbaaGreatkW12
import Derived.Test.YthlbcakjngcjbaaGreatkW13
import Derived.Test.YthlbcakjngcjbaaGreatkW14
import Derived.Test.YthlbcakjngcjbaaGreatkW15
import Derived.Test.YthlbcakjngcjbaaGreatkW16
import Derived.Test.YthlbcakjngcjbaaGreatkW17
import Derived.Test.YthlbcakjngcjbaaGreatkW18
import Derived.Test.YthlbcakjngcjbaaGreatkW19
import Derived.Test.YthlbcakjngcjbaaGreatkW20
import Derived.Test.YthlbcakjngcjbaaGreatkW21
import Derived.Test.YthlbcakjngcjbaaGreatkW22
import Derived.Test.YthlbcakjngcjbaaGreatkW23
set_option linter.unusedVariables false
set_option linter.unusedSimpArgs false
namespace Go.Proofs.YthlbcakjngcjbaaGreat
open Go Go.RowKit
open Go.Proofs.YthlbcakjngcjbaaGreat.Dict (St Bs Wd addD flagD cutD findD NameIn namedD)
open Go.Proofs.YthlbcakjngcjbaaGreat.Mem (Mm storeD fetchD commaD alignD writeD layD padN thereD)
set_option maxRecDepth 100000
theorem over_same {l b : List UInt8} {p : Nat} (h : (l.drop p).take b.length = b) (hl : p + b.length ≤ l.length) : overL l p b = l := by
 unfold overL
 have e1 : l.drop p = b ++ l.drop (p + b.length) := by
  have := List.take_append_drop b.length (l.drop p)
  rw [h, List.drop_drop] at this
  exact this.symm
 have e2 := List.take_append_drop p l
 rw [e1] at e2
 exact e2
theorem zeros_f0 : ((cellsC f0 256).drop 1368).all (fun b => b == 0) = true := by kernel_rfl
theorem zero_part {p n : Nat} (hp : 1368 ≤ p) (hn : p + n ≤ 2048) : ((cellsC f0 256).drop p).take n = List.replicate n 0 := by
 refine List.eq_replicate_iff.2 ⟨?_, fun b hb => ?_⟩
 ·rw [List.length_take, List.length_drop, cellsC_len]
  omega
 ·have h1 := List.mem_of_mem_take hb
  have h2 : b ∈ (cellsC f0 256).drop 1368 := by
   have : p = (p - 1368) + 1368 := by omega
   rw [show p = 1368 + (p - 1368) by omega, ← List.drop_drop] at h1
   exact List.mem_of_mem_drop h1
  have h3 := List.all_eq_true.1 zeros_f0 b h2
  simpa using h3
theorem align_gap {m : Mm} (hm : m.b = cellsC f0 256) {r h : Nat} (hr : r < 40) (hh : h = (1368 + r + 7) / 8) : (alignD m ((1368 + r : Nat) : Int)).1.b = cellsC f0 256 ∧ (alignD m ((1368 + r : Nat) : Int)).1.old.length ≤ m.old.length + 1 ∧ (alignD m ((1368 + r : Nat) : Int)).2 = (((8 * h : Nat) : Int), 0) := by
 have hl : m.b.length = 2048 := by rw [hm, cellsC_len]
 have hp : (padN ((1368 + r : Nat) : Int) : Nat) = 8 * h - (1368 + r) := by unfold padN; omega
 unfold alignD layD
 rw [List.length_replicate, hp]
 have hfit : ¬ (m.b.length : Int) - ((1368 + r : Nat) : Int) < ((8 * h - (1368 + r) : Nat) : Int) := by omega
 rw [if_neg hfit]
 have hth : thereD m.b.length ((1368 + r : Nat) : Int) ((List.replicate (8 * h - (1368 + r)) (0 : UInt8)).length : Nat) = true := by
  rw [List.length_replicate]
  unfold thereD
  rw [decide_eq_true_eq]
  omega
 refine ⟨?_, ?_, ?_⟩
 ·show (writeD m _ _).1.b = _
  by_cases hb : List.replicate (8 * h - (1368 + r)) (0 : UInt8) = []
  ·rw [Mem.writeD_nil hth hb]
   exact hm
  ·rw [Mem.writeD_yes hth hb]
   show overL m.b _ _ = _
   rw [hm, show (((1368 + r : Nat) : Int)).toNat = 1368 + r from rfl]
   refine over_same ?_ ?_
   ·rw [List.length_replicate]
    exact zero_part (by omega) (by omega)
   ·rw [List.length_replicate, cellsC_len]
    omega
 ·show (writeD m _ _).1.old.length ≤ _
  by_cases hb : List.replicate (8 * h - (1368 + r)) (0 : UInt8) = []
  ·rw [Mem.writeD_nil hth hb]
   dsimp only
   omega
  ·rw [Mem.writeD_yes hth hb]
   show (m.old ++ [_]).length ≤ _
   rw [List.length_append]
   exact Nat.le_refl _
 ·show (((1368 + r : Nat) : Int) + ((8 * h - (1368 + r) : Nat) : Int), (0 : Int)) = _
  rw [show ((1368 + r : Nat) : Int) + ((8 * h - (1368 + r) : Nat) : Int) = ((8 * h : Nat) : Int) by omega]
theorem word_gap {v : V} (hv : v.m.b = cellsC f0 256) {r h : Nat} (he : v.here = ((1368 + r : Nat) : Int)) (hr : r < 40) (hh : h = (1368 + r + 7) / 8) (name : Bs) (fl : Int) (l : List Int) (h1 : namedD name = 0) (h2 : 0 ≤ fl ∧ fl ≤ 7) (h3 : (v.dict.length : Int) < v.cf.words) (h4 : v.dict.length < 1024) (hl : h + l.length ≤ 256) :
  ∃ m, wordR v name fl l = (upV v m ((8 * (h + l.length) : Nat) : Int) (v.dict ++ [⟨name, ((8 * h : Nat) : Int), fl⟩]) v.last v.hand, ((8 * h : Nat) : Int), 0) ∧ m.b = cellsC (lay f0 h l) 256 ∧ m.old.length ≤ v.m.old.length + 1 + l.length := by
 obtain ⟨a1, a2, a3⟩ := align_gap hv hr hh
 rw [← he] at a1 a2 a3
 have hw : Fl (withMH v (alignD v.m v.here).1 ((8 * h : Nat) : Int)) f0 h := ⟨a1, rfl⟩
 obtain ⟨m, k1, k2, k3, _⟩ := word_fl hw name fl l h1 h2 h3 h4 hl
 have k3' : m.old.length ≤ (alignD v.m v.here).1.old.length + l.length := k3
 refine ⟨m, ?_, k2, by omega⟩
 have ha : alignD (withMH v (alignD v.m v.here).1 ((8 * h : Nat) : Int)).m (withMH v (alignD v.m v.here).1 ((8 * h : Nat) : Int)).here = ((alignD v.m v.here).1, ((8 * h : Nat) : Int), 0) :=
  align_fl.resolve_right (by show ¬ (((alignD v.m v.here).1.b.length : Nat) : Int) < _; rw [a1, cellsC_len]; omega)
 have e : wordR v name fl l = wordR (withMH v (alignD v.m v.here).1 ((8 * h : Nat) : Int)) name fl l ∨ (wordR (withMH v (alignD v.m v.here).1 ((8 * h : Nat) : Int)) name fl l).2.2 ≠ 0 := by
  unfold wordR
  rw [ha, a3]
  simp only [ne_eq, not_true_eq_false, ↓reduceIte]
  have ed : (withMH v (alignD v.m v.here).1 ((8 * h : Nat) : Int)).dict = v.dict := rfl
  have ec : (withMH v (alignD v.m v.here).1 ((8 * h : Nat) : Int)).cf = v.cf := rfl
  rw [ed, ec]
  have ew : withMHD (withMH v (alignD v.m v.here).1 ((8 * h : Nat) : Int)) (alignD v.m v.here).1 ((8 * h : Nat) : Int) (addD v.dict name ((8 * h : Nat) : Int) fl v.cf.words).1 = withMHD v (alignD v.m v.here).1 ((8 * h : Nat) : Int) (addD v.dict name ((8 * h : Nat) : Int) fl v.cf.words).1 := rfl
  rw [ew]
  by_cases c1 : ¬ (addD v.dict name ((8 * h : Nat) : Int) fl v.cf.words).2 = 0
  ·right
   rw [if_pos c1]
   exact c1
  ·rw [if_neg c1, if_neg c1]
   split
   ·rename_i c2
    right
    exact c2
   ·left
    rfl
 rcases e with e | e
 ·rw [e, k1]
  rfl
 ·rw [k1] at e
  exact absurd rfl e
def vG (r : Nat) : V := withMH v0 v0.m ((1368 + r : Nat) : Int)
def kdA (h : Nat) : List Wd := dictS 37 ++ [⟨[97], ((8 * h : Nat) : Int), 0⟩]
def kdB (h : Nat) : List Wd := kdA h ++ [⟨[98], ((8 * (h + 2) : Nat) : Int), 0⟩]
def kdC (h : Nat) : List Wd := kdB h ++ [⟨[99], ((8 * (h + 5) : Nat) : Int), 0⟩]
def kdD (h : Nat) : List Wd := kdC h ++ [⟨[100], ((8 * (h + 8) : Nat) : Int), 0⟩]
def kfA (h : Nat) : Nat → Int := lay f0 h [257, 0]
def kfB (h : Nat) : Nat → Int := lay (kfA h) (h + 2) [257, 0, 0]
def kfC (h : Nat) (n : Int) : Nat → Int := lay (kfB h) (h + 5) [258, 0, n]
def kfD (h : Nat) (n : Int) : Nat → Int := lay (kfC h n) (h + 8) [260, 0, 0, 3, 0, 0, 0]
theorem kl_a (h : Nat) : (kdA h).length = 168 := by unfold kdA; rw [List.length_append, dict_n]; rfl
theorem kl_b (h : Nat) : (kdB h).length = 169 := by unfold kdB; rw [List.length_append, kl_a]; rfl
theorem kl_c (h : Nat) : (kdC h).length = 170 := by unfold kdC; rw [List.length_append, kl_b]; rfl
theorem kl_d (h : Nat) : (kdD h).length = 171 := by unfold kdD; rw [List.length_append, kl_c]; rfl
theorem okN_app {d : List Wd} {w : Wd} (h : okN d = true) (hw : okN [w] = true) : okN (d ++ [w]) = true := by
 unfold okN at *
 rw [List.all_append, h, hw]
 rfl
theorem ko_a (h : Nat) : okN (kdA h) = true := okN_app ok_0 (by kernel_rfl)
theorem ko_b (h : Nat) : okN (kdB h) = true := okN_app (ko_a h) (by kernel_rfl)
theorem ko_c (h : Nat) : okN (kdC h) = true := okN_app (ko_b h) (by kernel_rfl)
theorem ko_d (h : Nat) : okN (kdD h) = true := okN_app (ko_c h) (by kernel_rfl)
theorem named2 : namedD [97] = 0 ∧ namedD [98] = 0 ∧ namedD [99] = 0 ∧ namedD [100] = 0 := ⟨by kernel_rfl, by kernel_rfl, by kernel_rfl, by kernel_rfl⟩
theorem k_create {r h : Nat} (hr : r < 40) (hh : h = (1368 + r + 7) / 8) : ∃ m, createdD ⟨vG r, cp0⟩ [97] true [257, 0] = (⟨upV v0 m ((8 * (h + 2) : Nat) : Int) (kdA h) ((8 * h : Nat) : Int) [], cp0⟩, 0) ∧ m.b = cellsC (kfA h) 256 ∧ m.old.length ≤ 3 := by
 obtain ⟨m, h1, h2, h3⟩ := word_gap (v := vG r) v0_fl.b rfl hr hh [97] 0 [257, 0] named2.1 (by omega) (by show ((dictS 37).length : Int) < 200; rw [dict_n]; decide) (by show (dictS 37).length < 1024; rw [dict_n]; decide) (by show h + 2 ≤ 256; omega)
 refine ⟨m, ?_, h2, by have : m.old.length ≤ 0 + 1 + 2 := h3; omega⟩
 unfold createdD
 rw [if_neg (by show ¬ cp0.xt ≠ 0; decide), h1, if_neg (fun e => e rfl), if_pos rfl]
 rfl
theorem k_variable {m : Mm} {h : Nat} {la : Int} (hh : h ≤ 200) (hm : m.b = cellsC (kfA h) 256) (ho : m.old.length ≤ 3) : ∃ m', createdD ⟨upV v0 m ((8 * (h + 2) : Nat) : Int) (kdA h) la [], cp0⟩ [98] true [257, 0, 0] = (⟨upV v0 m' ((8 * (h + 5) : Nat) : Int) (kdB h) ((8 * (h + 2) : Nat) : Int) [], cp0⟩, 0) ∧ m'.b = cellsC (kfB h) 256 ∧ m'.old.length ≤ 6 := by
 obtain ⟨m', h1, h2, h3, _⟩ := word_fl (v := upV v0 m ((8 * (h + 2) : Nat) : Int) (kdA h) la []) (f := kfA h) (h := h + 2) ⟨hm, rfl⟩ [98] 0 [257, 0, 0] named2.2.1 (by omega) (by show ((kdA h).length : Int) < 200; rw [kl_a]; decide) (by show (kdA h).length < 1024; rw [kl_a]; decide) (by show h + 2 + 3 ≤ 256; omega)
 refine ⟨m', ?_, h2, by have : m'.old.length ≤ m.old.length + 3 := h3; omega⟩
 unfold createdD
 rw [if_neg (by show ¬ cp0.xt ≠ 0; decide), h1, if_neg (fun e => e rfl), if_pos rfl]
 rfl
theorem k_constant {m : Mm} {h : Nat} {la n : Int} (hh : h ≤ 200) (hm : m.b = cellsC (kfB h) 256) (ho : m.old.length ≤ 6) : ∃ m', createdD ⟨upV v0 m ((8 * (h + 5) : Nat) : Int) (kdB h) la [], cp0⟩ [99] false [258, 0, n] = (⟨upV v0 m' ((8 * (h + 8) : Nat) : Int) (kdC h) la [], cp0⟩, 0) ∧ m'.b = cellsC (kfC h n) 256 ∧ m'.old.length ≤ 9 := by
 obtain ⟨m', h1, h2, h3, _⟩ := word_fl (v := upV v0 m ((8 * (h + 5) : Nat) : Int) (kdB h) la []) (f := kfB h) (h := h + 5) ⟨hm, rfl⟩ [99] 0 [258, 0, n] named2.2.2.1 (by omega) (by show ((kdB h).length : Int) < 200; rw [kl_b]; decide) (by show (kdB h).length < 1024; rw [kl_b]; decide) (by show h + 5 + 3 ≤ 256; omega)
 refine ⟨m', ?_, h2, by have : m'.old.length ≤ m.old.length + 3 := h3; omega⟩
 unfold createdD
 rw [if_neg (by show ¬ cp0.xt ≠ 0; decide), h1, if_neg (fun e => e rfl), if_neg (by decide)]
 rfl
theorem k_machine {m : Mm} {h : Nat} {la n : Int} (hh : h ≤ 200) (hm : m.b = cellsC (kfC h n) 256) (ho : m.old.length ≤ 9) : ∃ m', machineD ⟨upV v0 m ((8 * (h + 8) : Nat) : Int) (kdC h) la [], cp0⟩ [100] 3 = (⟨upV v0 m' ((8 * (h + 15) : Nat) : Int) (kdD h) la [], cp0⟩, 0) ∧ m'.b = cellsC (kfD h n) 256 ∧ m'.old.length ≤ 16 := by
 obtain ⟨m', h1, h2, h3, _⟩ := word_fl (v := upV v0 m ((8 * (h + 8) : Nat) : Int) (kdC h) la []) (f := kfC h n) (h := h + 8) ⟨hm, rfl⟩ [100] 0 [260, 0, 0, 3, 0, 0, 0] named2.2.2.2 (by omega) (by show ((kdC h).length : Int) < 200; rw [kl_c]; decide) (by show (kdC h).length < 1024; rw [kl_c]; decide) (by show h + 8 + 7 ≤ 256; omega)
 refine ⟨m', ?_, h2, by have : m'.old.length ≤ m.old.length + 7 := h3; omega⟩
 unfold machineD
 rw [if_neg (by show ¬ cp0.xt ≠ 0; decide), if_neg (by decide), show machL 3 = [260, 0, 0, 3, 0, 0, 0] from rfl]
 unfold createdD
 rw [if_neg (by show ¬ cp0.xt ≠ 0; decide), h1, if_neg (fun e => e rfl), if_neg (by decide)]
 rfl
theorem kf_at (h : Nat) (n : Int) (h1 : 171 ≤ h) : kfD h n 2 = 96 ∧ kfD h n 12 = 8 ∧ kfD h n h = 257 ∧ kfD h n (h + 2) = 257 ∧ kfD h n (h + 5) = 258 ∧ kfD h n (h + 7) = n ∧ kfD h n (h + 8) = 260 ∧ kfD h n (h + 10) = 0 ∧ kfD h n (h + 11) = 3 ∧ kfD h n (h + 12) = 0 := by
 have e2 : f0 2 = 96 := by kernel_rfl
 have e12 : f0 12 = 8 := by kernel_rfl
 unfold kfD kfC kfB kfA
 simp only [lay, updC]
 refine ⟨?_, ?_, ?_, ?_, ?_, ?_, ?_, ?_, ?_, ?_⟩
 all_goals repeat (first | rw [if_pos True.intro] | rw [if_pos (by omega)] | rw [if_neg (by omega)])
 ·exact e2
 ·exact e12
end Go.Proofs.YthlbcakjngcjbaaGreat
namespace Go.Proofs.YthlbcakjngcjbaaGreat
open Go Go.RowKit
open Go.Proofs.YthlbcakjngcjbaaGreat.Dict (St Bs Wd addD flagD cutD findD NameIn namedD)
open Go.Proofs.YthlbcakjngcjbaaGreat.Mem (Mm storeD fetchD commaD alignD writeD layD padN thereD)
open Go.Proofs.YthlbcakjngcjbaaGreat.Stk (encS closed_s encI_closed sameD)
set_option maxRecDepth 100000
def kV (m : Mm) (h : Nat) (d : List Int) : V := withD (upV v0 m ((8 * (h + 15) : Nat) : Int) (kdD h) ((8 * (h + 2) : Nat) : Int) []) d
theorem kV_fl {m : Mm} {h : Nat} {n : Int} (hm : m.b = cellsC (kfD h n) 256) (d : List Int) : Fl (kV m h d) (kfD h n) (h + 15) := ⟨hm, rfl⟩
theorem kV_b {m : Mm} {h : Nat} {n : Int} (hm : m.b = cellsC (kfD h n) 256) (d : List Int) : (kV m h d).m.b.length ≤ 1000000 := by
 show m.b.length ≤ 1000000
 rw [hm, cellsC_len]
 omega
def krs (m : Mm) (h : Nat) (xt : Int) (d : List Int) : Nat → Rn
 | 0 => ⟨kV m h [], 16, xt, true, 20⟩
 | _ => ⟨kV m h d, 16, 0, false, 19⟩
attribute [local irreducible] awp ARun regK toK
theorem kind_run {m : Mm} {h : Nat} {n : Int} (h1 : 171 ≤ h) (hm : m.b = cellsC (kfD h n) 256) (xt : Int) (d : List Int) (hD : FnL Tryz.prog 128 [.ptr 1000 0 0 0, .val (.int .i64 xt)] [(28, [encRk ⟨kV m h [], 16, 0, false, false, 0⟩])] (.tup []) [[encRk ⟨kV m h d, 16, 0, false, false, 0⟩]]) : FnC Tryz.prog 41 [.agg (encV (kV m h [])), .val (.int .i64 xt), .val (.int .i64 20)] (.tup [.agg (encV (kV m h d)), .val (.int .i64 18), .val (.int .i64 0)]) := by
 obtain ⟨a2, a12, _⟩ := kf_at h n h1
 have k4 : kindD (kV m h d) 96 = (((8 : Nat) : Int), 0) := kind_fl (k := 12) (kV_fl hm d) (by omega) a12 (by omega)
 have g4 : fetchD (kV m h d).m 16 = (96, 0) := flat_fetch (k := 2) (kV_fl hm d) (by omega) a2 (by omega)
 have b := kV_b hm d
 refine run_c (kV m h []) xt 20 (by omega) 1 (krs m h xt d) ⟨kV m h d, 24, 0, false, 18⟩ rfl (fun i hi => ?_) ?_
 ·obtain rfl : i = 0 := by omega
  exact step_do (krs m h xt d 0) ⟨kV m h d, 16, 0, false, false, 0⟩ rfl ⟨of_decide_eq_true rfl, of_decide_eq_true rfl⟩ hD rfl
 ·exact step_next (krs m h xt d 1) ⟨kV m h d, 24, 0, false, true, 0⟩ 96 rfl ⟨of_decide_eq_true rfl, of_decide_eq_true rfl⟩ ⟨of_decide_eq_true rfl, of_decide_eq_true rfl⟩ b g4 (done_code (kV m h d) ⟨kV m h d, 24, 0, false, true, 0⟩ 8 _ (by omega) nm8 24 0 false false 96 b k4 (code_halt (kV m h d) 24 0 false false)) rfl
theorem run_a {m : Mm} {h : Nat} {n : Int} (h1 : 171 ≤ h ∧ h ≤ 200) (hm : m.b = cellsC (kfD h n) 256) : FnC Tryz.prog 41 [.agg (encV (kV m h [])), .val (.int .i64 ((8 * h : Nat) : Int)), .val (.int .i64 20)] (.tup [.agg (encV (kV m h [((8 * h : Nat) : Int) + 16])), .val (.int .i64 18), .val (.int .i64 0)]) := by
 obtain ⟨_, _, a0, a1, a2, a3, a4, a5, a6, a7⟩ := kf_at h n h1.1
 exact kind_run h1.1 hm _ _ (done_var (kV m h []) (kV m h [((8 * h : Nat) : Int) + 16]) 16 0 false false ((8 * h : Nat) : Int) (by omega) (kV_b hm _) (kind_fl (k := h) (kV_fl hm []) (by omega) a0 (by omega)) (by show 0 ≤ 1000000; omega) rfl)
theorem run_b {m : Mm} {h : Nat} {n : Int} (h1 : 171 ≤ h ∧ h ≤ 200) (hm : m.b = cellsC (kfD h n) 256) : FnC Tryz.prog 41 [.agg (encV (kV m h [])), .val (.int .i64 ((8 * (h + 2) : Nat) : Int)), .val (.int .i64 20)] (.tup [.agg (encV (kV m h [((8 * (h + 2) : Nat) : Int) + 16])), .val (.int .i64 18), .val (.int .i64 0)]) := by
 obtain ⟨_, _, a0, a1, a2, a3, a4, a5, a6, a7⟩ := kf_at h n h1.1
 exact kind_run h1.1 hm _ _ (done_var (kV m h []) (kV m h [((8 * (h + 2) : Nat) : Int) + 16]) 16 0 false false ((8 * (h + 2) : Nat) : Int) (by omega) (kV_b hm _) (kind_fl (k := h + 2) (kV_fl hm []) (by omega) a1 (by omega)) (by show 0 ≤ 1000000; omega) rfl)
theorem run_cn {m : Mm} {h : Nat} {n : Int} (hn : In64 n) (h1 : 171 ≤ h ∧ h ≤ 200) (hm : m.b = cellsC (kfD h n) 256) : FnC Tryz.prog 41 [.agg (encV (kV m h [])), .val (.int .i64 ((8 * (h + 5) : Nat) : Int)), .val (.int .i64 20)] (.tup [.agg (encV (kV m h [n])), .val (.int .i64 18), .val (.int .i64 0)]) := by
 obtain ⟨_, _, a0, a1, a2, a3, a4, a5, a6, a7⟩ := kf_at h n h1.1
 have hf := flat_fetch (k := h + 7) (kV_fl hm []) (by omega) a3 hn
 rw [show ((8 * (h + 7) : Nat) : Int) = ((8 * (h + 5) : Nat) : Int) + 16 by omega] at hf
 exact kind_run h1.1 hm _ _ (done_con (kV m h []) (kV m h [n]) n 16 0 false false ((8 * (h + 5) : Nat) : Int) (by omega) (kV_b hm _) (kind_fl (k := h + 5) (kV_fl hm []) (by omega) a2 (by omega)) (by show 0 ≤ 1000000; omega) hf rfl)
theorem run_d {m : Mm} {h : Nat} {n : Int} (h1 : 171 ≤ h ∧ h ≤ 200) (hm : m.b = cellsC (kfD h n) 256) : FnC Tryz.prog 41 [.agg (encV (kV m h [])), .val (.int .i64 ((8 * (h + 8) : Nat) : Int)), .val (.int .i64 20)] (.tup [.agg (encV (kV m h [])), .val (.int .i64 18), .val (.int .i64 0)]) := by
 obtain ⟨_, _, a0, a1, a2, a3, a4, a5, a6, a7⟩ := kf_at h n h1.1
 have f1 := flat_fetch (k := h + 10) (kV_fl hm []) (by omega) a5 (by omega)
 rw [show ((8 * (h + 10) : Nat) : Int) = ((8 * (h + 8) : Nat) : Int) + 16 by omega] at f1
 have f2 := flat_fetch (k := h + 11) (kV_fl hm []) (by omega) a6 (by omega)
 rw [show ((8 * (h + 11) : Nat) : Int) = ((8 * (h + 8) : Nat) : Int) + 24 by omega] at f2
 have f3 := flat_fetch (k := h + 12) (kV_fl hm []) (by omega) a7 (by omega)
 rw [show ((8 * (h + 12) : Nat) : Int) = ((8 * (h + 8) : Nat) : Int) + 32 by omega] at f3
 exact kind_run h1.1 hm _ _ (done_mach (kV m h []) 3 16 0 false false ((8 * (h + 8) : Nat) : Int) (by omega) (kV_b hm _) (kind_fl (k := h + 8) (kV_fl hm []) (by omega) a4 (by omega)) f1 f2 f3 (by omega))
end Go.Proofs.YthlbcakjngcjbaaGreat
namespace Go.Proofs.YthlbcakjngcjbaaGreat
open Go Go.RowKit
open Go.Proofs.YthlbcakjngcjbaaGreat.Dict (St Bs bs_eq Wd encW encWs closed_ws addD flagD cutD encWE findD encFd NameIn setFl encW_closed namedD)
open Go.Proofs.YthlbcakjngcjbaaGreat.Mem (Mm encM encBs closed_bs encP encP_closed closed_m storeD fetchD commaD alignD enc3m enc2m writeD)
open Go.Proofs.YthlbcakjngcjbaaGreat.Stk (encS closed_s encI_closed sameD)
set_option maxRecDepth 100000
theorem gd_kind {m : Mm} {f : Nat → Int} {hh last : Int} {d : List Wd} (hm : m.b = cellsC f 256) (ho : m.old.length ≤ 100) (h0 : 0 ≤ hh ∧ hh ≤ 2048) (hd : okN d = true) (hl : d.length ≤ 200) : Gd (upV v0 m hh d last []) 100 := (gd_up hm ho h0 hd hl).le (by omega)
structure Kn (r h : Nat) (n : Int) (t : V × V × V × V) : Prop where
 c1 : FnC Tryz.prog 23 [.agg (encFo ⟨vG r, cp0⟩), St [97]] (.tup [.agg (encFo ⟨t.1, cp0⟩), .val (.int .i64 0)])
 c2 : FnC Tryz.prog 25 [.agg (encFo ⟨t.1, cp0⟩), St [98]] (.tup [.agg (encFo ⟨t.2.1, cp0⟩), .val (.int .i64 0)])
 c3 : FnC Tryz.prog 27 [.agg (encFo ⟨t.2.1, cp0⟩), St [99], .val (.int .i64 n)] (.tup [.agg (encFo ⟨t.2.2.1, cp0⟩), .val (.int .i64 0)])
 c4 : FnC Tryz.prog 29 [.agg (encFo ⟨t.2.2.1, cp0⟩), St [100], .val (.int .i64 3)] (.tup [.agg (encFo ⟨t.2.2.2, cp0⟩), .val (.int .i64 0)])
 e4 : ∃ m, t.2.2.2 = kV m h [] ∧ m.b = cellsC (kfD h n) 256
theorem kinds_all {r h : Nat} {n : Int} (hr : r < 40) (hh : h = (1368 + r + 7) / 8) : ∃ t, Kn r h n t := by
 obtain ⟨m1, a1, a2, a3⟩ := k_create hr hh
 obtain ⟨m2, b1, b2, b3⟩ := k_variable (la := ((8 * h : Nat) : Int)) (by omega) a2 a3
 obtain ⟨m3, d1, d2, d3⟩ := k_constant (la := ((8 * (h + 2) : Nat) : Int)) (n := n) (by omega) b2 b3
 obtain ⟨m4, e1, e2, e3⟩ := k_machine (la := ((8 * (h + 2) : Nat) : Int)) (by omega) d2 d3
 have ga : Gd (vG r) 100 := by
  have := gd_up (m := v0.m) (hh := ((1368 + r : Nat) : Int)) (last := v0.last) (d := dictS 37) v0_fl.b (by show 0 ≤ 100; omega) (by omega) ok_0 (by rw [dict_n]; decide)
  exact this.le (by omega)
 have gb : Gd (upV v0 m1 ((8 * (h + 2) : Nat) : Int) (kdA h) ((8 * h : Nat) : Int) []) 100 := gd_kind a2 (by omega) (by omega) (ko_a h) (by rw [kl_a]; decide)
 have gc : Gd (upV v0 m2 ((8 * (h + 5) : Nat) : Int) (kdB h) ((8 * (h + 2) : Nat) : Int) []) 100 := gd_kind b2 (by omega) (by omega) (ko_b h) (by rw [kl_b]; decide)
 have gd : Gd (upV v0 m3 ((8 * (h + 8) : Nat) : Int) (kdC h) ((8 * (h + 2) : Nat) : Int) []) 900 := gd_up d2 (by omega) (by omega) (ko_c h) (by rw [kl_c]; decide)
 have n1 := create_c ⟨vG r, cp0⟩ [97] ga (by show 1 ≤ 1000000; omega)
 rw [a1] at n1
 have n2 := variable_c ⟨upV v0 m1 ((8 * (h + 2) : Nat) : Int) (kdA h) ((8 * h : Nat) : Int) [], cp0⟩ [98] gb (by show 1 ≤ 1000000; omega)
 rw [b1] at n2
 have n3 := constant_c ⟨upV v0 m2 ((8 * (h + 5) : Nat) : Int) (kdB h) ((8 * (h + 2) : Nat) : Int) [], cp0⟩ [99] n gc (by show 1 ≤ 1000000; omega)
 rw [d1] at n3
 have n4 := machine_c ⟨upV v0 m3 ((8 * (h + 8) : Nat) : Int) (kdC h) ((8 * (h + 2) : Nat) : Int) [], cp0⟩ [100] 3 (gd.le (by omega)) (by show 1 ≤ 1000000; omega)
 rw [e1] at n4
 exact ⟨(_, _, _, _), n1, n2, n3, n4, m4, rfl, e2⟩
theorem kd_at (h : Nat) : (kdD h)[167]? = some ⟨[97], ((8 * h : Nat) : Int), 0⟩ ∧ (kdD h)[168]? = some ⟨[98], ((8 * (h + 2) : Nat) : Int), 0⟩ ∧ (kdD h)[169]? = some ⟨[99], ((8 * (h + 5) : Nat) : Int), 0⟩ ∧ (kdD h)[170]? = some ⟨[100], ((8 * (h + 8) : Nat) : Int), 0⟩ := by
 have e : kdD h = dictS 37 ++ [⟨[97], ((8 * h : Nat) : Int), 0⟩, ⟨[98], ((8 * (h + 2) : Nat) : Int), 0⟩, ⟨[99], ((8 * (h + 5) : Nat) : Int), 0⟩, ⟨[100], ((8 * (h + 8) : Nat) : Int), 0⟩] := by unfold kdD kdC kdB kdA; simp
 rw [e]
 refine ⟨?_, ?_, ?_, ?_⟩
 all_goals (rw [List.getElem?_append_right (by rw [dict_n]; omega), dict_n]; rfl)
theorem same_one (a b : Int) (h : a = b) : FnC Tryz.prog 35 [encS [a], encS [b]] (.val (.bool true)) := by
 subst h
 have cs := Stk.ref_same_c [a] [a] (by show 1 ≤ 1000000; omega) (by show 1 ≤ 1000000; omega)
 rw [show sameD [a] [a] = true by unfold sameD; simp] at cs
 exact cs
theorem same_nil : FnC Tryz.prog 35 [encS [], encS []] (.val (.bool true)) := by
 have cs := Stk.ref_same_c [] [] (by show 0 ≤ 1000000; omega) (by show 0 ≤ 1000000; omega)
 rw [show sameD [] [] = true by unfold sameD; simp] at cs
 exact cs
theorem wrap_in {a : Int} (h : -9223372036854775808 ≤ a ∧ a ≤ 9223372036854775807) : IntKind.i64.wrap a = a := by
 have := IntKind.wrap_i64 a
 omega
attribute [local irreducible] Decidable.decide awp ARun regK toK
set_option maxHeartbeats 64000000 in
theorem kinds14_c (n gap : Int) (hn : In64 n) (hg : 0 ≤ gap ∧ gap ≤ 255) : FnC Tryz.prog 9 [.val (.int .i64 n), .val (.int .u8 gap)] (.val (.bool true)) := by
 have c0 := shown14_c
 have cn := ref_new_c conf0
 rw [newV_new fits0, show (vNew conf0, (0 : Int)) = (v0, 0) from rfl] at cn
 have hr0 : 0 ≤ gap.tmod 40 ∧ gap.tmod 40 < 40 := by
  rw [Int.tmod_eq_emod_of_nonneg hg.1]
  omega
 obtain ⟨r, hr⟩ : ∃ r : Nat, gap.tmod 40 = (r : Int) := ⟨(gap.tmod 40).toNat, by omega⟩
 obtain ⟨h, hh⟩ : ∃ h, h = (1368 + r + 7) / 8 := ⟨_, rfl⟩
 have hb : 171 ≤ h ∧ h ≤ 200 := by omega
 obtain ⟨⟨a, b, c, d⟩, c1, c2, c3, c4, m, e4, em⟩ := kinds_all (n := n) (r := r) (h := h) (by omega) hh
 dsimp only at c1 c2 c3 c4 e4
 unfold vG at c1
 rw [show ((1368 + r : Nat) : Int) = 1368 + gap.tmod 40 by omega] at c1
 subst e4
 have r0 := run_a hb em
 have r1 := run_b hb em
 have r2 := run_cn hn hb em
 have r3 := run_d hb em
 have s0 := same_one (((8 * h : Nat) : Int) + 16) ((h : Int) * 8 + 16) (by omega)
 have s1 := same_one (((8 * (h + 2) : Nat) : Int) + 16) ((h : Int) * 8 + 32) (by omega)
 have s2 := same_one n n rfl
 have s3 := same_nil
 have hq := binInt_spec (P := Tryz.prog) (op := .quo) (t := 3) (k := .i64) (a := 1368 + gap.tmod 40 + 7) (b := 8) rfl (by show (8 : Int) ≠ 0; decide)
 rw [show (Value.int .i64 (IntKind.i64.wrap (Int.tdiv (1368 + gap.tmod 40 + 7) 8)), (8 : Int) ≠ 0).1 = Value.int .i64 (h : Int) from by
  show Value.int .i64 (IntKind.i64.wrap (Int.tdiv (1368 + gap.tmod 40 + 7) 8)) = _
  rw [Int.tdiv_eq_ediv_of_nonneg (by omega), wrap_in (by omega)]
  congr 1
  omega] at hq
 obtain ⟨k0, k1, k2, k3⟩ := kd_at h
 have l0 : (((v0.dict.map encW).length : Nat) : Int) = 167 := by rw [List.length_map, show v0.dict = dictS 37 from rfl, dict_n]; rfl
 have l1 : ((((kV m h []).dict.map encW).length : Nat) : Int) = 171 := by rw [List.length_map, show (kV m h []).dict = kdD h from rfl, kl_d]; rfl
 have hp0 : ((kV m h []).dict.map encW)[((((v0.dict.map encW).length : Nat) : Int) + ((0 : Nat) : Int)).toNat]? = some (encW ⟨[97], ((8 * h : Nat) : Int), 0⟩) := by rw [l0, List.getElem?_map, show (kV m h []).dict = kdD h from rfl, show ((167 : Int) + ((0 : Nat) : Int)).toNat = 167 from rfl, k0]; rfl
 have hp1 : ((kV m h []).dict.map encW)[((((v0.dict.map encW).length : Nat) : Int) + ((1 : Nat) : Int)).toNat]? = some (encW ⟨[98], ((8 * (h + 2) : Nat) : Int), 0⟩) := by rw [l0, List.getElem?_map, show (kV m h []).dict = kdD h from rfl, show ((167 : Int) + ((1 : Nat) : Int)).toNat = 168 from rfl, k1]; rfl
 have hp2 : ((kV m h []).dict.map encW)[((((v0.dict.map encW).length : Nat) : Int) + ((2 : Nat) : Int)).toNat]? = some (encW ⟨[99], ((8 * (h + 5) : Nat) : Int), 0⟩) := by rw [l0, List.getElem?_map, show (kV m h []).dict = kdD h from rfl, show ((167 : Int) + ((2 : Nat) : Int)).toNat = 169 from rfl, k2]; rfl
 have hp3 : ((kV m h []).dict.map encW)[((((v0.dict.map encW).length : Nat) : Int) + ((3 : Nat) : Int)).toNat]? = some (encW ⟨[100], ((8 * (h + 8) : Nat) : Int), 0⟩) := by rw [l0, List.getElem?_map, show (kV m h []).dict = kdD h from rfl, show ((167 : Int) + ((3 : Nat) : Int)).toNat = 170 from rfl, k3]; rfl
 have t0 : (((((kV m h []).dict.map encW).length : Nat) : Int) != (((v0.dict.map encW).length : Nat) : Int) + 4) = false := by rw [l0, l1]; simp
 have x0 : (((8 * h : Nat) : Int) != (h : Int) * 8) = false := by simp; omega
 have x1 : (((8 * (h + 2) : Nat) : Int) != (h : Int) * 8 + 16) = false := by simp; omega
 have x2 : (((8 * (h + 5) : Nat) : Int) != (h : Int) * 8 + 40) = false := by simp; omega
 have x3 : (((8 * (h + 8) : Nat) : Int) != (h : Int) * 8 + 64) = false := by simp; omega
 have y1 : (((8 * (h + 2) : Nat) : Int) == (h : Int) * 8 + 16) = true := by simp; omega
 have y2 : (((8 * (h + 15) : Nat) : Int) == (h : Int) * 8 + 64 + 32 + 24) = true := by simp; omega
 have i0 : decide (((0 : Nat) : Int) < 4) = true := decide_eq_true (by omega)
 have i1 : decide (((1 : Nat) : Int) < 4) = true := decide_eq_true (by omega)
 have i2 : decide (((2 : Nat) : Int) < 4) = true := decide_eq_true (by omega)
 have i3 : decide (((3 : Nat) : Int) < 4) = true := decide_eq_true (by omega)
 have i4 : decide (((4 : Nat) : Int) < 4) = false := decide_eq_false (by omega)
 have z2 : ((0 : Int) != 0) = false := by simp
 have nt : (!true) = false := rfl
 have nf : (!false) = true := rfl
 clear k0 k1 k2 k3 em
 generalize v0 = v at *
 refine goF Tryz.func9 (closedL_cons (.val _) (closedL_cons (.val _) closedL_nil)) (fun w0 st0 => ?_)
 dsimp only [frOf]
 (repeat' (first | refine ARun.bin rfl rfl hq rfl (guardF_spec rfl) ?_ | refine goA ?_ | refine cX c0 ?_ | refine cX cn ?_ | refine callW (c1) rfl (by (repeat (refine WkL.cons (by first | exact Wk.same _ | exact Wk.nilSl | exact Wk.weak _ _ _ | exact Wk.aggL (by (repeat (refine WkL.cons (by first | exact Wk.same _ | exact Wk.nilSl | exact Wk.weak _ _ _) ?_)); exact WkL.nil)) ?_)); exact WkL.nil) rfl rfl ?_ | refine callW (c2) rfl (by (repeat (refine WkL.cons (by first | exact Wk.same _ | exact Wk.nilSl | exact Wk.weak _ _ _ | exact Wk.aggL (by (repeat (refine WkL.cons (by first | exact Wk.same _ | exact Wk.nilSl | exact Wk.weak _ _ _) ?_)); exact WkL.nil)) ?_)); exact WkL.nil) rfl rfl ?_ | refine cX c3 ?_ | refine cX c4 ?_ | refine goB ?_ | fail))
 refine awp_loopT (T := Nat × Nat) (fun t => ⟨[(5, .val (.bool true)), (6, .ptr 6 8 0 0), (14, .ptr 14 48 0 0), (16, .val (.int .i64 ((h : Int) * 8))), (17, .sl 1 true [[.sl 1 true [[.val (.int .i64 ((h : Int) * 8 + 16))]]], [.sl 1 true [[.val (.int .i64 ((h : Int) * 8 + 32))]]], [.sl 1 true [[.val (.int .i64 n)]]], [.sl 0 true []]]), (18, .sl 1 true [[.val (.int .i64 ((h : Int) * 8))], [.val (.int .i64 ((h : Int) * 8 + 16))], [.val (.int .i64 ((h : Int) * 8 + 40))], [.val (.int .i64 ((h : Int) * 8 + 64))]]), (19, .val (.int .i64 ((t.1 : Nat) : Int)))], [(6, some ⟨8, 23, [encV (withMH v v.m (1368 + gap.tmod 40))]⟩), (14, some ⟨48, 30, [encFo ⟨kV m h [], cp0⟩]⟩)], t.2⟩) (fun t => t.1 ≤ 4) (fun t => 4 - t.1) (0, _) (Nat.zero_le _) ⟨⟨rfl, rfl, rfl, rfl, rfl, rfl, rfl, trivial⟩, ⟨rfl, rfl, trivial⟩, Nat.le_refl _⟩ (fun t ht => ?_)
 obtain ⟨i, gc⟩ := t
 dsimp only at ht ⊢
 have l0' : ((((withMH v v.m (1368 + gap.tmod 40)).dict.map encW).length : Nat) : Int) = 167 := l0
 clear cn c0 c1 c2 c3 c4 hq
 rcases (show i = 0 ∨ i = 1 ∨ i = 2 ∨ i = 3 ∨ i = 4 by omega) with rfl | rfl | rfl | rfl | rfl
 ·(repeat' (first | refine goA ?_ | refine cX r0 ?_ | refine callW (s0) rfl (by (repeat (refine WkL.cons (by first | exact Wk.same _ | exact Wk.nilSl | exact Wk.weak _ _ _ | exact Wk.aggL (by (repeat (refine WkL.cons (by first | exact Wk.same _ | exact Wk.nilSl | exact Wk.weak _ _ _) ?_)); exact WkL.nil)) ?_)); exact WkL.nil) rfl rfl ?_ | refine ARun.indexAddr rfl rfl (by omega) (by exact hp0) rfl rfl rfl rfl rfl (guardF_spec rfl) ?_ | refine ARun.indexAddr rfl rfl (by omega) rfl rfl rfl rfl rfl rfl (guardF_spec rfl) ?_ | refine ARun.fld rfl Tryz.underlying41 rfl rfl (by first | exact .inr ⟨rfl, rfl⟩ | exact .inl ⟨rfl, _, rfl, rfl⟩) rfl (guardF_spec rfl) ?_ | refine ARun.fld rfl Tryz.underlying36 rfl rfl (by first | exact .inr ⟨rfl, rfl⟩ | exact .inl ⟨rfl, _, rfl, rfl⟩) rfl (guardF_spec rfl) ?_ | refine goB ?_ | fail))
  exact ⟨(1, _), ⟨⟨rfl, rfl, rfl, rfl, rfl, rfl, rfl, trivial⟩, ⟨rfl, rfl, trivial⟩, Nat.le_refl _⟩, (by show 1 ≤ 4; omega), (by show 4 - 1 < 4 - 0; omega)⟩
 ·(repeat' (first | refine goA ?_ | refine cX r1 ?_ | refine callW (s1) rfl (by (repeat (refine WkL.cons (by first | exact Wk.same _ | exact Wk.nilSl | exact Wk.weak _ _ _ | exact Wk.aggL (by (repeat (refine WkL.cons (by first | exact Wk.same _ | exact Wk.nilSl | exact Wk.weak _ _ _) ?_)); exact WkL.nil)) ?_)); exact WkL.nil) rfl rfl ?_ | refine ARun.indexAddr rfl rfl (by omega) (by exact hp1) rfl rfl rfl rfl rfl (guardF_spec rfl) ?_ | refine ARun.indexAddr rfl rfl (by omega) rfl rfl rfl rfl rfl rfl (guardF_spec rfl) ?_ | refine ARun.fld rfl Tryz.underlying41 rfl rfl (by first | exact .inr ⟨rfl, rfl⟩ | exact .inl ⟨rfl, _, rfl, rfl⟩) rfl (guardF_spec rfl) ?_ | refine ARun.fld rfl Tryz.underlying36 rfl rfl (by first | exact .inr ⟨rfl, rfl⟩ | exact .inl ⟨rfl, _, rfl, rfl⟩) rfl (guardF_spec rfl) ?_ | refine goB ?_ | fail))
  exact ⟨(2, _), ⟨⟨rfl, rfl, rfl, rfl, rfl, rfl, rfl, trivial⟩, ⟨rfl, rfl, trivial⟩, Nat.le_refl _⟩, (by show 2 ≤ 4; omega), (by show 4 - 2 < 4 - 1; omega)⟩
 ·(repeat' (first | refine goA ?_ | refine cX r2 ?_ | refine callW (s2) rfl (by (repeat (refine WkL.cons (by first | exact Wk.same _ | exact Wk.nilSl | exact Wk.weak _ _ _ | exact Wk.aggL (by (repeat (refine WkL.cons (by first | exact Wk.same _ | exact Wk.nilSl | exact Wk.weak _ _ _) ?_)); exact WkL.nil)) ?_)); exact WkL.nil) rfl rfl ?_ | refine ARun.indexAddr rfl rfl (by omega) (by exact hp2) rfl rfl rfl rfl rfl (guardF_spec rfl) ?_ | refine ARun.indexAddr rfl rfl (by omega) rfl rfl rfl rfl rfl rfl (guardF_spec rfl) ?_ | refine ARun.fld rfl Tryz.underlying41 rfl rfl (by first | exact .inr ⟨rfl, rfl⟩ | exact .inl ⟨rfl, _, rfl, rfl⟩) rfl (guardF_spec rfl) ?_ | refine ARun.fld rfl Tryz.underlying36 rfl rfl (by first | exact .inr ⟨rfl, rfl⟩ | exact .inl ⟨rfl, _, rfl, rfl⟩) rfl (guardF_spec rfl) ?_ | refine goB ?_ | fail))
  exact ⟨(3, _), ⟨⟨rfl, rfl, rfl, rfl, rfl, rfl, rfl, trivial⟩, ⟨rfl, rfl, trivial⟩, Nat.le_refl _⟩, (by show 3 ≤ 4; omega), (by show 4 - 3 < 4 - 2; omega)⟩
 ·(repeat' (first | refine goA ?_ | refine cX r3 ?_ | refine callW (s3) rfl (by (repeat (refine WkL.cons (by first | exact Wk.same _ | exact Wk.nilSl | exact Wk.weak _ _ _ | exact Wk.aggL (by (repeat (refine WkL.cons (by first | exact Wk.same _ | exact Wk.nilSl | exact Wk.weak _ _ _) ?_)); exact WkL.nil)) ?_)); exact WkL.nil) rfl rfl ?_ | refine ARun.indexAddr rfl rfl (by omega) (by exact hp3) rfl rfl rfl rfl rfl (guardF_spec rfl) ?_ | refine ARun.indexAddr rfl rfl (by omega) rfl rfl rfl rfl rfl rfl (guardF_spec rfl) ?_ | refine ARun.fld rfl Tryz.underlying41 rfl rfl (by first | exact .inr ⟨rfl, rfl⟩ | exact .inl ⟨rfl, _, rfl, rfl⟩) rfl (guardF_spec rfl) ?_ | refine ARun.fld rfl Tryz.underlying36 rfl rfl (by first | exact .inr ⟨rfl, rfl⟩ | exact .inl ⟨rfl, _, rfl, rfl⟩) rfl (guardF_spec rfl) ?_ | refine goB ?_ | fail))
  exact ⟨(4, _), ⟨⟨rfl, rfl, rfl, rfl, rfl, rfl, rfl, trivial⟩, ⟨rfl, rfl, trivial⟩, Nat.le_refl _⟩, (by show 4 ≤ 4; omega), (by show 4 - 4 < 4 - 3; omega)⟩
 ·(repeat' (first | refine goA ?_ | refine ARun.fld rfl Tryz.underlying41 rfl rfl (by first | exact .inr ⟨rfl, rfl⟩ | exact .inl ⟨rfl, _, rfl, rfl⟩) rfl (guardF_spec rfl) ?_ | refine ARun.fld rfl Tryz.underlying36 rfl rfl (by first | exact .inr ⟨rfl, rfl⟩ | exact .inl ⟨rfl, _, rfl, rfl⟩) rfl (guardF_spec rfl) ?_ | refine goB ?_ | fail))
  exact awp_ret ⟨_, ResL.cons (ResA.tmp (.val _)) .nil, congrArg (fun b => AV.val (.bool b)) y2.symm⟩
end Go.Proofs.YthlbcakjngcjbaaGreat
namespace Go.Proofs.YthlbcakjngcjbaaGreat
open Go Go.RowKit Go.ChangeShapes Go.WideShapes Go.Deep Go.Proofs.YthlbcakjngcjbaaGreat
set_option maxRecDepth 100000
theorem compKinds_lifted (os : Os) (started : os.Started) (H : Type) (enc : TypeId × Value → H) :
  ReturnsInHanded {} Tryz.checked os 9 .any (Rows.compKindsSpec.pre6 enc Tryz.prog Tryz.f9 Rows.compKindsRow.domain false) (Rows.compKindsSpec.post enc Tryz.prog Tryz.f9 false true false false) := by
 refine returnsInHanded_of_change (C := Tryz.checked) own_knob started (by kernel_rfl) Tryz.func9
  (ChangeSpec.witness6 (enc := enc) (C := Tryz.checked) false ⟨#[], #[.int .i64 0, .int .u8 0], []⟩ 12 (by kernel_rfl) (by kernel_rfl) (by kernel_rfl) (by kernel_rfl)) ?_
 intro W base args ds gs before hval0 hW hcnd _
 have hval : ∀ (j : Nat) t v, Tryz.f9.params[j]? = some t → args[j]? = some v → Value.okWide Tryz.prog W .any base t v := hval0
 have hW' := hW
 obtain ⟨p, q, hA0, hV, rfl, hfz, hnd⟩ := hW
 have hA : DataW.TrodAll enc Tryz.prog W 0 (fun _ => true) true Tryz.f9.params.toList args.toList ds p := hA0
 rw [Tryz.params9] at hA hval
 obtain ⟨v0, vs0, d0, ds0, p0, q0, hargs, rfl, rfl, h0, r0⟩ := trodAll_cons hA
 obtain ⟨v1, vs1, d1, ds1, p1, q1, rfl, rfl, rfl, h1, r1⟩ := trodAll_cons r0
 obtain ⟨rfl, rfl, rfl⟩ := trodAll_nil r1
 obtain rfl : args = #[v0, v1] := by cases args; simp_all
 obtain ⟨rfl, rfl⟩ := trodVars_none hV
 have k0 := h0
 have lt0 : ∀ x ∈ p0, x.block < W.heap.size := by obtain ⟨m, hm⟩ := k0; exact DataW.trod_lt m _ _ _ hm
 have k1 := h1
 have lt1 : ∀ x ∈ p1, x.block < W.heap.size := by obtain ⟨m, hm⟩ := k1; exact DataW.trod_lt m _ _ _ hm
 obtain ⟨y0, rep0, hy0⟩ := arg_int Tryz.underlying3 (hval 0 3 v0 rfl rfl) h0
 obtain ⟨y1, rep1, hy1⟩ := arg_u8 Tryz.underlying5 (hval 1 5 v1 rfl rfl) h1
 clear hA0 hval0
 refine ((kinds14_c y0 y1 hy0 hy1).law (us := [v0, v1]) rfl (fun i x u hx hu => by
  cases i with
  | zero => simp only [List.getElem?_cons_zero, Option.some.injEq] at hx hu; rw [← hx, ← hu]; exact rep0
  | succ i =>
   simp only [List.getElem?_cons_succ] at hx hu
   cases i with
   | zero => simp only [List.getElem?_cons_zero, Option.some.injEq] at hx hu; rw [← hx, ← hu]; exact rep1
   | succ i =>
    simp only [List.getElem?_cons_succ] at hx hu
    simp at hx)).mono fun e W' ⟨he, bel⟩ => ?_
 subst he
 exact ⟨_, rfl, _, _, _, [], _, [], hW', trodAll_mk1 (shut_bool Tryz.underlying4 _), (trodAll_cons_mk (Below.trod laid_out (by kernel_rfl) (of_decide_eq_true (by kernel_rfl)) k0 bel lt0) (trodAll_cons_mk (Below.trod laid_out (by kernel_rfl) (of_decide_eq_true (by kernel_rfl)) k1 bel lt1) trodAll_mk0)), rfl, bel.frame _, fun h => by cases h⟩
theorem compKinds_holds : Rows.CompKindsSaid :=
 OpenClaim.holds_of_wide 9 Tryz.f9 rfl rfl rfl rfl rfl rfl rfl ⟨rfl, rfl, rfl, rfl, rfl⟩ rfl rfl rfl rfl rfl (by kernel_rfl) Tryz.func9 (by kernel_rfl)
  (of_decide_eq_true (by kernel_rfl)) (by unfold Func.isWrapper; first | (rw [if_pos (by decide +kernel)]; kernel_rfl) | (rw [if_neg (by decide +kernel)]; exact ⟨rfl, rfl⟩))
  (fun os started H enc _ => compKinds_lifted os started H enc)
#print axioms compKinds_holds
end Go.Proofs.YthlbcakjngcjbaaGreat
