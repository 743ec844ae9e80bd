/- kX16, kX17, kX18, kX19, kX20. -/
import Derived.Test.YthlbcakjngcjbaaGreatW1
import Derived.Test.YthlbcakjngcjbaaGreatW2
import Derived.Test.YthlbcakjngcjbaaGreatW3
import Derived.Test.YthlbcakjngcjbaaGreatW4
import Derived.Test.YthlbcakjngcjbaaGreatkW5
import Derived.Test.YthlbcakjngcjbaaGreatkW6
import Derived.Test.YthlbcakjngcjbaaGreatkW7
import Derived.Test.YthlbcakjngcjbaaGreatkW8
import Derived.Test.YthlbcakjngcjbaaGreatkW9
import Derived.Test.YthlbcakjngcjbaaGreatkW10
import Derived.Test.YthlbcakjngcjbaaGreatkW11
import Derived.Test.YthlbcakjngcjbaaGreatkW12
import Derived.Test.YthlbcakjngcjbaaGreatkW13
import Derived.Test.YthlbcakjngcjbaaGreatkW14
import Derived.Test.YthlbcakjngcjbaaGreatkW15
import Derived.Test.YthlbcakjngcjbaaGreatkW16
set_option linter.unusedVariables false
set_option linter.unusedSimpArgs false
namespace Go.Proofs.YthlbcakjngcjbaaGreat
open Go Go.RowKit
open Go.Proofs.YthlbcakjngcjbaaGreat.Dict (St Bs bs_eq encWs closed_ws)
open Go.Proofs.YthlbcakjngcjbaaGreat.Mem (Mm encM encBs closed_bs encP encP_closed closed_m storeD fetchD commaD)
open Go.Proofs.YthlbcakjngcjbaaGreat.Stk (encS closed_s encI_closed)
set_option maxRecDepth 100000
theorem Reif.mid {s : AS} {b g gen n : Nat} {L R : List Cfr} {c' : Cfr} {el : List AV} (hb : lkH s.hp b = some ⟨gen, 3, (L.map encCf ++ [el]) ++ R.map encCf⟩) (hg : gen = g) (hn : n = (L.map encCf ++ [el] ++ R.map encCf).length) (hel : RL s el (encCf c')) : Reif s (.own b g 0 n) (encLCf (L ++ [c'] ++ R)) := by
 subst hn
 refine Reif.own (blk := ⟨gen, 3, (L.map encCf ++ [el]) ++ R.map encCf⟩) (els' := (L ++ [c'] ++ R).map encCf) hb hg (by simp) (by simp) ?_ ?_
 ·intro j e e' h1 h2
  rw [Nat.zero_add] at h1
  rw [List.map_append, List.map_append] at h2
  by_cases h3 : j < L.length
  ·rw [List.append_assoc, List.getElem?_append_left (by simpa using h3)] at h1 h2
   rw [h1] at h2
   rw [Option.some.inj h2]
  ·by_cases h4 : j = L.length
   ·subst h4
    simp at h1 h2
    subst h1 h2
    exact hel.1
   ·rw [List.getElem?_append_right (by simp; omega)] at h1 h2
    simp only [List.length_append, List.length_map, List.length_singleton, List.map_cons, List.map_nil] at h1 h2
    rw [h1] at h2
    rw [Option.some.inj h2]
 ·intro j e e' f x x' h1 h2 h5 h6
  rw [Nat.zero_add] at h1
  rw [List.map_append, List.map_append] at h2
  have clo : e = e' → e ∈ (L ++ R).map encCf → Reif s x x' := fun h7 h8 => by
   obtain ⟨c, _, rfl⟩ := List.mem_map.1 h8
   subst h7
   rw [h5] at h6
   obtain rfl := Option.some.inj h6
   exact .closed _ (encCf_closed c _ (List.mem_of_getElem? h5))
  by_cases h3 : j < L.length
  ·rw [List.append_assoc, List.getElem?_append_left (by simpa using h3)] at h1 h2
   have hm := List.mem_of_getElem? h1
   rw [h1] at h2
   exact clo (Option.some.inj h2) (by rw [List.map_append]; exact List.mem_append.2 (.inl hm))
  ·by_cases h4 : j = L.length
   ·subst h4
    simp at h1 h2
    subst h1 h2
    exact hel.2 f x x' h5 h6
   ·rw [List.getElem?_append_right (by simp; omega)] at h1 h2
    simp only [List.length_append, List.length_map, List.length_singleton, List.map_cons, List.map_nil] at h1 h2
    have hm := List.mem_of_getElem? h1
    rw [h1] at h2
    exact clo (Option.some.inj h2) (by rw [List.map_append]; exact List.mem_append.2 (.inr hm))
attribute [local irreducible] Decidable.decide awp ARun regK toK
end Go.Proofs.YthlbcakjngcjbaaGreat
namespace Go.Proofs.YthlbcakjngcjbaaGreat
open Go Go.RowKit
open Go.Proofs.YthlbcakjngcjbaaGreat.Dict (St Bs)
open Go.Proofs.YthlbcakjngcjbaaGreat.Mem (commaD)
set_option maxRecDepth 100000
theorem take_all (l : List Cfr) : l.take (l.length - 0) = l := by simp
end Go.Proofs.YthlbcakjngcjbaaGreat
namespace Go.Proofs.YthlbcakjngcjbaaGreat
open Go Go.RowKit
open Go.Proofs.YthlbcakjngcjbaaGreat.Dict (St Bs bs_eq encWs closed_ws)
open Go.Proofs.YthlbcakjngcjbaaGreat.Mem (Mm encM encBs closed_bs encP encP_closed closed_m storeD fetchD commaD)
open Go.Proofs.YthlbcakjngcjbaaGreat.Stk (encS closed_s encI_closed)
set_option maxRecDepth 100000
attribute [local irreducible] Decidable.decide awp ARun regK toK
end Go.Proofs.YthlbcakjngcjbaaGreat
namespace Go.Proofs.YthlbcakjngcjbaaGreat
open Go Go.RowKit
open Go.Proofs.YthlbcakjngcjbaaGreat.Dict (St Bs)
open Go.Proofs.YthlbcakjngcjbaaGreat.Mem (Mm commaD storeD fetchD writeD thereD cellAtD putB putB_len alignD padN)
set_option maxRecDepth 100000
structure Fl (v : V) (f : Nat → Int) (h : Nat) : Prop where
 b : v.m.b = cellsC f 256
 here : v.here = ((8 * h : Nat) : Int)
theorem comma_fl {m : Mm} {f : Nat → Int} {h : Nat} (n : Int) (hm : m.b = cellsC f 256) (hh : h < 256) : (commaD m ((8 * h : Nat) : Int) n).1.b = cellsC (updC f h n) 256 ∧ (commaD m ((8 * h : Nat) : Int) n).2.1 = ((8 * (h + 1) : Nat) : Int) ∧ (commaD m ((8 * h : Nat) : Int) n).2.2 = 0 := by
 have h1 : ((8 * h : Nat) : Int).tmod 8 = 0 := by rw [Int.tmod_eq_emod_of_nonneg (by omega)]; omega
 have hl : m.b.length = 2048 := by rw [hm, cellsC_len]
 have hs := store_flat n hm hh
 unfold storeD at hs
 rw [if_neg (fun e => e (cell_flat hm hh))] at hs
 unfold commaD
 rw [if_neg (fun e => e h1)]
 unfold Mem.layD
 rw [if_neg (by rw [hl, putB_len]; omega)]
 exact ⟨hs.1, by dsimp only; rw [putB_len]; omega, rfl⟩
theorem cell_fl {w : Kw} {f : Nat → Int} {h : Nat} (n : Int) (hw : Fl w.v f h) (h0 : w.bad = 0) (hh : h < 256) : Fl (cellD w n).v (updC f h n) (h + 1) ∧ (cellD w n).bad = 0 := by
 unfold cellD
 rw [if_pos h0]
 have hc := comma_fl n hw.b hh
 rw [← hw.here] at hc
 exact ⟨⟨hc.1, hc.2.1⟩, hc.2.2⟩
def lay (f : Nat → Int) (h : Nat) : List Int → (Nat → Int)
 | [] => f
 | a :: l => lay (updC f h a) (h + 1) l
theorem cells_fl : ∀ (l : List Int) {w : Kw} {f : Nat → Int} {h : Nat}, Fl w.v f h → w.bad = 0 → h + l.length ≤ 256 → Fl (l.foldl cellD w).v (lay f h l) (h + l.length) ∧ (l.foldl cellD w).bad = 0
 | [], w, f, h, hw, h0, _ => ⟨hw, h0⟩
 | a :: l, w, f, h, hw, h0, hh => by
  rw [List.length_cons] at hh
  have h1 := cell_fl a hw h0 (by omega)
  have h2 := cells_fl l h1.1 h1.2 (by omega)
  rw [List.length_cons, show h + (l.length + 1) = h + 1 + l.length by omega]
  exact h2
end Go.Proofs.YthlbcakjngcjbaaGreat
namespace Go.Proofs.YthlbcakjngcjbaaGreat
open Go Go.RowKit
open Go.Proofs.YthlbcakjngcjbaaGreat.Dict (St Bs bs_eq encWs closed_ws)
open Go.Proofs.YthlbcakjngcjbaaGreat.Mem (Mm encM encBs closed_bs encP encP_closed closed_m storeD fetchD commaD writeD alignD padN putB_len enc2m)
open Go.Proofs.YthlbcakjngcjbaaGreat.Stk (encS closed_s encI_closed)
set_option maxRecDepth 100000
def v0 : V := vNew conf0
def f0 : Nat → Int := updC (valS 37) 0 10
theorem v0_fl : Fl v0 f0 171 := ⟨rfl, rfl⟩
theorem v0_okk (k : Nat) (hk : k ≤ 1000000) : Okk v0 k := ⟨by rw [v0_fl.b, cellsC_len]; omega, by show 0 + k ≤ 1000000; omega, by rw [v0_fl.here]; omega, by rw [v0_fl.here, v0_fl.b, cellsC_len]; omega⟩
end Go.Proofs.YthlbcakjngcjbaaGreat
