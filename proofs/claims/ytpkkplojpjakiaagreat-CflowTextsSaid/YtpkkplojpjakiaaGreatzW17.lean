/- zX16, zX17, zX18, zX19, zX20. -/
import Derived.Test.YtpkkplojpjakiaaGreatW1
import Derived.Test.YtpkkplojpjakiaaGreatW2
import Derived.Test.YtpkkplojpjakiaaGreatW3
import Derived.Test.YtpkkplojpjakiaaGreatW4
import Derived.Test.YtpkkplojpjakiaaGreatzW5
import Derived.Test.YtpkkplojpjakiaaGreatzW6
import Derived.Test.YtpkkplojpjakiaaGreatzW7
import Derived.Test.YtpkkplojpjakiaaGreatzW8
import Derived.Test.YtpkkplojpjakiaaGreatzW9
import Derived.Test.YtpkkplojpjakiaaGreatzW10
import Derived.Test.YtpkkplojpjakiaaGreatzW11
import Derived.Test.YtpkkplojpjakiaaGreatzW12
import Derived.Test.YtpkkplojpjakiaaGreatzW13
import Derived.Test.YtpkkplojpjakiaaGreatzW14
import Derived.Test.YtpkkplojpjakiaaGreatzW15
import Derived.Test.YtpkkplojpjakiaaGreatzW16
set_option linter.unusedVariables false
set_option linter.unusedSimpArgs false
namespace Go.Proofs.YtpkkplojpjakiaaGreat
open Go Go.RowKit
open Go.Proofs.YtpkkplojpjakiaaGreat.Dict (St Bs bs_eq encWs closed_ws)
open Go.Proofs.YtpkkplojpjakiaaGreat.Mem (Mm encM encBs closed_bs encP encP_closed closed_m storeD fetchD commaD)
open Go.Proofs.YtpkkplojpjakiaaGreat.Stk (encS closed_s encI_closed)
set_option maxRecDepth 100000
theorem Reif.mid {s : AS} {b g gen n : Nat} {L R : List Cfr} {c' : Cfr} {el : List AV} (hb : lkH s.hp b = some ⟨gen, 3, (L.map encCf ++ [el]) ++ R.map encCf⟩) (hg : gen = g) (hn : n = (L.map encCf ++ [el] ++ R.map encCf).length) (hel : RL s el (encCf c')) : Reif s (.own b g 0 n) (encLCf (L ++ [c'] ++ R)) := by
 subst hn
 refine Reif.own (blk := ⟨gen, 3, (L.map encCf ++ [el]) ++ R.map encCf⟩) (els' := (L ++ [c'] ++ R).map encCf) hb hg (by simp) (by simp) ?_ ?_
 ·intro j e e' h1 h2
  rw [Nat.zero_add] at h1
  rw [List.map_append, List.map_append] at h2
  by_cases h3 : j < L.length
  ·rw [List.append_assoc, List.getElem?_append_left (by simpa using h3)] at h1 h2
   rw [h1] at h2
   rw [Option.some.inj h2]
  ·by_cases h4 : j = L.length
   ·subst h4
    simp at h1 h2
    subst h1 h2
    exact hel.1
   ·rw [List.getElem?_append_right (by simp; omega)] at h1 h2
    simp only [List.length_append, List.length_map, List.length_singleton, List.map_cons, List.map_nil] at h1 h2
    rw [h1] at h2
    rw [Option.some.inj h2]
 ·intro j e e' f x x' h1 h2 h5 h6
  rw [Nat.zero_add] at h1
  rw [List.map_append, List.map_append] at h2
  have clo : e = e' → e ∈ (L ++ R).map encCf → Reif s x x' := fun h7 h8 => by
   obtain ⟨c, _, rfl⟩ := List.mem_map.1 h8
   subst h7
   rw [h5] at h6
   obtain rfl := Option.some.inj h6
   exact .closed _ (encCf_closed c _ (List.mem_of_getElem? h5))
  by_cases h3 : j < L.length
  ·rw [List.append_assoc, List.getElem?_append_left (by simpa using h3)] at h1 h2
   have hm := List.mem_of_getElem? h1
   rw [h1] at h2
   exact clo (Option.some.inj h2) (by rw [List.map_append]; exact List.mem_append.2 (.inl hm))
  ·by_cases h4 : j = L.length
   ·subst h4
    simp at h1 h2
    subst h1 h2
    exact hel.2 f x x' h5 h6
   ·rw [List.getElem?_append_right (by simp; omega)] at h1 h2
    simp only [List.length_append, List.length_map, List.length_singleton, List.map_cons, List.map_nil] at h1 h2
    have hm := List.mem_of_getElem? h1
    rw [h1] at h2
    exact clo (Option.some.inj h2) (by rw [List.map_append]; exact List.mem_append.2 (.inr hm))
attribute [local irreducible] Decidable.decide awp ARun regK toK
end Go.Proofs.YtpkkplojpjakiaaGreat
namespace Go.Proofs.YtpkkplojpjakiaaGreat
open Go Go.RowKit
open Go.Proofs.YtpkkplojpjakiaaGreat.Dict (St Bs)
open Go.Proofs.YtpkkplojpjakiaaGreat.Mem (commaD)
set_option maxRecDepth 100000
def setL (w : Kw) (l : List Cfr) : Kw := ⟨w.v, l, w.bad⟩
theorem setL_wk0 (v : V) (l : List Cfr) : (⟨v, l, 0⟩ : Kw) = setL (wk0 v) l := rfl
theorem cell_setL (w : Kw) (l : List Cfr) (n : Int) : cellD (setL w l) n = setL (cellD w n) l := by unfold cellD setL; split <;> rfl
theorem here_setL (w : Kw) (l : List Cfr) (n : Int) : hereD (setL w l) n = setL (hereD w n) l := by unfold hereD setL; split <;> rfl
theorem heres_setL : ∀ (ns : List Int) (w : Kw) (l : List Cfr), heresD (setL w l) ns = setL (heresD w ns) l
 | [], w, l => rfl
 | a :: ns, w, l => by
  show heresD (hereD (setL w l) a) ns = setL (heresD (hereD w a) ns) l
  rw [here_setL, heres_setL ns]
theorem open_setL (w : Kw) (l : List Cfr) (c : Cfr) (h : l.length < 32) : openD (setL w l) c = setL w (l ++ [c]) := by
 unfold openD
 exact if_neg (by show ¬ 32 ≤ l.length; omega)
theorem lastK_lastC (l : List Cfr) : lastK l 0 = (lastC l).kind := by
 rcases List.eq_nil_or_concat l with e | ⟨L, c, e⟩
 ·subst e; rfl
 ·rw [List.concat_eq_append] at e
  subst e
  rw [lastC_snoc]
  simp [lastK]
theorem close_yes (w : Kw) (l : List Cfr) (k : Int) (hk : k ≠ 0) (h : lastK l 0 = k) : closeD (setL w l) k = (setL w (l.take (l.length - 1)), lastC l) := by
 unfold closeD
 rw [if_pos ⟨fun e => hk (by rw [← h, show l = [] from e]; rfl), by rw [← lastK_lastC]; exact h⟩, ← List.dropLast_eq_take]
 rfl
theorem close_bad (w : Kw) (l : List Cfr) (k : Int) (h : lastK l 0 ≠ k) (hw : w.bad = 0) : (closeD (setL w l) k).1.bad = -22 := by
 unfold closeD
 rw [if_neg (fun e => h (by rw [lastK_lastC]; exact e.2))]
 unfold failD
 rw [if_pos (show (setL w l).bad = 0 from hw)]
theorem bad_cell {w : Kw} {e : Int} (h : w.bad = e) (he : e ≠ 0) (n : Int) : (cellD w n).bad = e := by rw [cellD_bad (by rw [h]; exact he)]; exact h
theorem bad_here {w : Kw} {e : Int} (h : w.bad = e) (he : e ≠ 0) (n : Int) : (hereD w n).bad = e := by rw [hereD_bad (by rw [h]; exact he)]; exact h
theorem bad_heres {w : Kw} {e : Int} (h : w.bad = e) (he : e ≠ 0) (n : List Int) : (heresD w n).bad = e := by rw [heres_bad (by rw [h]; exact he)]; exact h
theorem bad_open {w : Kw} {e : Int} (h : w.bad = e) (he : e ≠ 0) (c : Cfr) : (openD w c).bad = e := by
 unfold openD
 split
 ·unfold failD
  rw [if_neg (by rw [h]; exact he)]
  exact h
 ·exact h
theorem bad_close {w : Kw} {e : Int} (h : w.bad = e) (he : e ≠ 0) (k : Int) : (closeD w k).1.bad = e := by
 unfold closeD
 split
 ·exact h
 ·unfold failD
  rw [if_neg (by rw [h]; exact he)]
  exact h
theorem done_bad {w : Kw} (h : w.bad = -22) (v : V) (l : List Cfr) : doneD w v l = (v, l, -22) := by
 unfold doneD
 rw [if_neg (by rw [h]; decide), h]
theorem done_ref {w : Kw} {out : List Cfr} {pl : List Int × List Int × List Cfr} {v : V} (l : List Cfr) (hw : w = setL (refK pl v) out) (ho : (refK pl v).bad = 0 → out = pl.2.2) : doneD w v l = refBrD pl v l := by
 subst hw
 unfold doneD refBrD
 by_cases h : (refK pl v).bad = 0
 ·rw [if_pos h, if_pos (show (setL (refK pl v) out).bad = 0 from h), ← ho h]
  rfl
 ·rw [if_neg h, if_neg (show ¬ (setL (refK pl v) out).bad = 0 from h)]
  rfl
theorem comma_here {m : Mem.Mm} {h n : Int} (hz : (commaD m h n).2.2 = 0) : (commaD m h n).2.1 = h + 8 := by
 unfold commaD at hz ⊢
 split
 ·rename_i h1
  rw [if_pos h1] at hz
  cases hz
 ·rename_i h1
  rw [if_neg h1] at hz
  unfold Mem.layD at hz ⊢
  split
  ·rename_i h2
   rw [if_pos h2] at hz
   cases hz
  ·dsimp only
   rw [Mem.putB_len]
   rfl
theorem cell_ok0 {w : Kw} {n : Int} (h : (cellD w n).bad = 0) : w.bad = 0 := by
 by_cases h0 : w.bad = 0
 ·exact h0
 ·rw [cellD_bad h0] at h
  exact h
theorem cell_here {w : Kw} {n : Int} (h : (cellD w n).bad = 0) : (cellD w n).v.here = w.v.here + 8 := by
 have h0 := cell_ok0 h
 unfold cellD at h ⊢
 rw [if_pos h0] at h ⊢
 exact comma_here h
noncomputable def brI (i : Nat) (v : V) (l : List Cfr) : V × List Cfr × Int := if pD (FitC i l) then refBrD (planD i v l) v l else (v, l, -22)
theorem brI_yes {i : Nat} {v : V} {l : List Cfr} (h : FitC i l) : brI i v l = refBrD (planD i v l) v l := by unfold brI; rw [pD_yes h]; rfl
theorem brI_no {i : Nat} {v : V} {l : List Cfr} (h : ¬ FitC i l) : brI i v l = (v, l, -22) := by unfold brI; rw [pD_no h]; rfl
def stepK (i : Nat) (w : Kw) : Kw := match i with
 | 0 => onIfD w
 | 1 => onElseD w
 | 2 => onThenD w
 | 3 => onBeginD w
 | 4 => onWhileD w
 | 5 => onRepeatD w
 | 6 => backD w nZb
 | 7 => backD w nBr
 | 8 => onDoD w
 | 9 => onAskD w
 | 10 => endD w nLp
 | 11 => endD w nPl
 | _ => onLeaveD w
theorem take_all (l : List Cfr) : l.take (l.length - 0) = l := by simp
theorem step_0 (v : V) (l : List Cfr) (h : l.length < 32) : doneD (stepK 0 ⟨v, l, 0⟩) v l = brI 0 v l := by
 rw [brI_yes (show FitC 0 l from h)]
 refine done_ref (out := l ++ [⟨1, (cellD (wk0 v) (xtD nZb)).v.here, []⟩]) l ?_ (fun hb => ?_)
 ·show openD (cellD (cellD ⟨v, l, 0⟩ (xtD nZb)) 0) ⟨1, (cellD ⟨v, l, 0⟩ (xtD nZb)).v.here, []⟩ = _
  rw [setL_wk0, cell_setL, cell_setL, open_setL _ _ _ h]
  rfl
 ·have h1 := cell_here (cell_ok0 (w := cellD (wk0 v) (xtD nZb)) (n := 0) hb)
  show _ = l.take (l.length - 0) ++ _
  rw [take_all, h1]
  rfl
theorem step_1 (v : V) (l : List Cfr) (hl : l.length ≤ 32) : doneD (stepK 1 ⟨v, l, 0⟩) v l = brI 1 v l := by
 by_cases hf : lastK l 0 = 1
 ·rw [brI_yes (show FitC 1 l from hf)]
  have hlen : (l.take (l.length - 1)).length < 32 := by rw [List.length_take]; omega
  refine done_ref (out := l.take (l.length - 1) ++ [⟨1, (cellD (wk0 v) (xtD nBr)).v.here, []⟩]) l ?_ (fun hb => ?_)
  ·show onElseD ⟨v, l, 0⟩ = _
   unfold onElseD
   rw [setL_wk0, close_yes _ _ _ (by decide) hf]
   dsimp only
   rw [cell_setL, cell_setL, here_setL, open_setL _ _ _ hlen]
   rfl
  ·have h1 : (cellD (cellD (wk0 v) (xtD nBr)) 0).bad = 0 := by
    by_cases h0 : (cellD (cellD (wk0 v) (xtD nBr)) 0).bad = 0
    ·exact h0
    ·have hb' : (hereD (cellD (cellD (wk0 v) (xtD nBr)) 0) (lastC l).at').bad = 0 := hb
     rw [hereD_bad h0] at hb'
     exact hb'
   rw [cell_here (cell_ok0 h1)]
   rfl
 ·rw [brI_no (show ¬ FitC 1 l from hf)]
  have hc := close_bad (wk0 v) l 1 hf rfl
  refine done_bad ?_ v l
  show (onElseD (setL (wk0 v) l)).bad = -22
  unfold onElseD
  exact bad_open (bad_here (bad_cell (bad_cell hc (by decide) _) (by decide) _) (by decide) _) (by decide) _
theorem step_2 (v : V) (l : List Cfr) : doneD (stepK 2 ⟨v, l, 0⟩) v l = brI 2 v l := by
 by_cases hf : lastK l 0 = 1
 ·rw [brI_yes (show FitC 2 l from hf)]
  refine done_ref (out := l.take (l.length - 1)) l ?_ (fun hb => (List.append_nil _).symm)
  show onThenD ⟨v, l, 0⟩ = _
  unfold onThenD
  rw [setL_wk0, close_yes _ _ _ (by decide) hf]
  dsimp only
  rw [here_setL]
  rfl
 ·rw [brI_no (show ¬ FitC 2 l from hf)]
  have hc := close_bad (wk0 v) l 1 hf rfl
  refine done_bad ?_ v l
  show (onThenD (setL (wk0 v) l)).bad = -22
  unfold onThenD
  exact bad_here hc (by decide) _
theorem step_3 (v : V) (l : List Cfr) (h : l.length < 32) : doneD (stepK 3 ⟨v, l, 0⟩) v l = brI 3 v l := by
 rw [brI_yes (show FitC 3 l from h)]
 refine done_ref (out := l ++ [⟨2, v.here, []⟩]) l ?_ (fun hb => ?_)
 ·show openD ⟨v, l, 0⟩ ⟨2, v.here, []⟩ = _
  rw [setL_wk0, open_setL _ _ _ h]
  rfl
 ·show _ = l.take (l.length - 0) ++ _
  rw [take_all]
theorem step_4 (v : V) (l : List Cfr) (h : l.length < 32) : doneD (stepK 4 ⟨v, l, 0⟩) v l = brI 4 v l := by
 by_cases hf : lastK l 0 = 2
 ·rw [brI_yes (show FitC 4 l from ⟨hf, h⟩)]
  have hne : l ≠ [] := fun e => by rw [e] at hf; cases hf
  have hpos := List.length_pos_iff.2 hne
  have hlen : (l.take (l.length - 1)).length < 31 := by rw [List.length_take]; omega
  refine done_ref (out := l.take (l.length - 1) ++ [⟨1, (cellD (wk0 v) (xtD nZb)).v.here, []⟩] ++ [lastC l]) l ?_ (fun hb => ?_)
  ·show onWhileD ⟨v, l, 0⟩ = _
   unfold onWhileD
   rw [setL_wk0, close_yes _ _ _ (by decide) hf]
   dsimp only
   rw [cell_setL, cell_setL, open_setL _ _ _ (by omega), open_setL _ _ _ (by simp only [List.length_append, List.length_singleton]; omega)]
   rfl
  ·have h1 := cell_here (cell_ok0 (w := cellD (wk0 v) (xtD nZb)) (n := 0) hb)
   rw [h1, List.append_assoc]
   rfl
 ·rw [brI_no (fun e : FitC 4 l => hf e.1)]
  have hc := close_bad (wk0 v) l 2 hf rfl
  refine done_bad ?_ v l
  show (onWhileD (setL (wk0 v) l)).bad = -22
  unfold onWhileD
  exact bad_open (bad_open (bad_cell (bad_cell hc (by decide) _) (by decide) _) (by decide) _) (by decide) _
theorem lastK_drop {l : List Cfr} (h : lastK l 0 ≠ 0) : lastK (l.take (l.length - 1)) 0 = lastK l 1 ∧ ((lastK l 1 ≠ 0) → lastC (l.take (l.length - 1)) = l[l.length - 2]?.getD cf0) := by
 obtain ⟨L, c, e, hk⟩ := lastK_0 h
 subst e
 have e1 : (L ++ [c]).take ((L ++ [c]).length - 1) = L := by simp
 rw [e1]
 rcases List.eq_nil_or_concat L with e | ⟨M, d, e⟩
 ·subst e
  exact ⟨rfl, fun h => absurd rfl h⟩
 ·rw [List.concat_eq_append] at e
  subst e
  refine ⟨?_, fun _ => ?_⟩
  ·simp [lastK]
  ·rw [lastC_snoc]
   simp
theorem step_5 (v : V) (l : List Cfr) : doneD (stepK 5 ⟨v, l, 0⟩) v l = brI 5 v l := by
 by_cases hf : lastK l 0 = 2
 ·obtain ⟨h1, h2⟩ := lastK_drop (l := l) (by rw [hf]; decide)
  by_cases hg : lastK l 1 = 1
  ·rw [brI_yes (show FitC 5 l from ⟨hf, hg⟩)]
   refine done_ref (out := l.take (l.length - 2)) l ?_ (fun hb => (List.append_nil _).symm)
   show onRepeatD ⟨v, l, 0⟩ = _
   unfold onRepeatD
   rw [setL_wk0, close_yes _ _ _ (by decide) hf]
   dsimp only
   rw [close_yes _ _ _ (by decide) (by rw [h1]; exact hg)]
   dsimp only
   rw [h2 (by rw [hg]; decide), cell_setL, cell_setL, here_setL]
   rw [List.take_take, List.length_take, show min (min (l.length - 1) l.length - 1) (l.length - 1) = l.length - 2 by omega]
   rfl
  ·rw [brI_no (fun e : FitC 5 l => hg e.2)]
   refine done_bad ?_ v l
   show (onRepeatD (setL (wk0 v) l)).bad = -22
   unfold onRepeatD
   rw [close_yes _ _ _ (by decide) hf]
   have hc := close_bad (wk0 v) (l.take (l.length - 1)) 1 (by rw [h1]; exact hg) rfl
   exact bad_here (bad_cell (bad_cell hc (by decide) _) (by decide) _) (by decide) _
 ·rw [brI_no (fun e : FitC 5 l => hf e.1)]
  have hc := close_bad (wk0 v) l 2 hf rfl
  refine done_bad ?_ v l
  show (onRepeatD (setL (wk0 v) l)).bad = -22
  unfold onRepeatD
  exact bad_here (bad_cell (bad_cell (bad_close hc (by decide) _) (by decide) _) (by decide) _) (by decide) _
theorem step_back (i : Nat) (nm : Bs) (v : V) (l : List Cfr) (hfit : FitC i l ↔ lastK l 0 = 2) (hpl : planD i v l = ([xtD nm, (lastC l).at'], [], l.take (l.length - 1) ++ [])) : doneD (backD ⟨v, l, 0⟩ nm) v l = brI i v l := by
 by_cases hf : lastK l 0 = 2
 ·rw [brI_yes (hfit.2 hf), hpl]
  refine done_ref (out := l.take (l.length - 1)) l ?_ (fun hb => (List.append_nil _).symm)
  unfold backD
  rw [setL_wk0, close_yes _ _ _ (by decide) hf]
  dsimp only
  rw [cell_setL, cell_setL]
  rfl
 ·rw [brI_no (fun e => hf (hfit.1 e))]
  have hc := close_bad (wk0 v) l 2 hf rfl
  refine done_bad ?_ v l
  show (backD (setL (wk0 v) l) nm).bad = -22
  unfold backD
  exact bad_cell (bad_cell hc (by decide) _) (by decide) _
theorem step_8 (v : V) (l : List Cfr) (h : l.length < 32) : doneD (stepK 8 ⟨v, l, 0⟩) v l = brI 8 v l := by
 rw [brI_yes (show FitC 8 l from h)]
 refine done_ref (out := l ++ [⟨3, (cellD (wk0 v) (xtD nDo)).v.here, []⟩]) l ?_ (fun hb => ?_)
 ·show openD (cellD ⟨v, l, 0⟩ (xtD nDo)) ⟨3, (cellD ⟨v, l, 0⟩ (xtD nDo)).v.here, []⟩ = _
  rw [setL_wk0, cell_setL, open_setL _ _ _ h]
  rfl
 ·have h1 := cell_here (w := wk0 v) (n := xtD nDo) hb
  show _ = l.take (l.length - 0) ++ _
  rw [take_all, h1]
  rfl
theorem step_9 (v : V) (l : List Cfr) (h : l.length < 32) : doneD (stepK 9 ⟨v, l, 0⟩) v l = brI 9 v l := by
 rw [brI_yes (show FitC 9 l from h)]
 refine done_ref (out := l ++ [⟨3, (cellD (cellD (wk0 v) (xtD nQdo)) 0).v.here, [(cellD (wk0 v) (xtD nQdo)).v.here]⟩]) l ?_ (fun hb => ?_)
 ·show openD (cellD (cellD ⟨v, l, 0⟩ (xtD nQdo)) 0) ⟨3, (cellD (cellD ⟨v, l, 0⟩ (xtD nQdo)) 0).v.here, [(cellD ⟨v, l, 0⟩ (xtD nQdo)).v.here]⟩ = _
  rw [setL_wk0, cell_setL, cell_setL, open_setL _ _ _ h]
  rfl
 ·have hb2 : (cellD (cellD (wk0 v) (xtD nQdo)) 0).bad = 0 := hb
  have h1 := cell_here (cell_ok0 hb2)
  have h2 := cell_here hb2
  show _ = l.take (l.length - 0) ++ _
  rw [take_all, h2, h1, show (wk0 v).v.here + 8 + 8 = v.here + 16 by show v.here + 8 + 8 = _; omega]
  rfl
theorem step_end (i : Nat) (nm : Bs) (v : V) (l : List Cfr) (hfit : FitC i l ↔ lastK l 0 = 3) (hpl : planD i v l = ([xtD nm, (lastC l).at'], (lastC l).lv, l.take (l.length - 1) ++ [])) : doneD (endD ⟨v, l, 0⟩ nm) v l = brI i v l := by
 by_cases hf : lastK l 0 = 3
 ·rw [brI_yes (hfit.2 hf), hpl]
  refine done_ref (out := l.take (l.length - 1)) l ?_ (fun hb => (List.append_nil _).symm)
  unfold endD
  rw [setL_wk0, close_yes _ _ _ (by decide) hf]
  dsimp only
  rw [cell_setL, cell_setL, heres_setL]
  rfl
 ·rw [brI_no (fun e => hf (hfit.1 e))]
  have hc := close_bad (wk0 v) l 3 hf rfl
  refine done_bad ?_ v l
  show (endD (setL (wk0 v) l) nm).bad = -22
  unfold endD
  exact bad_heres (bad_cell (bad_cell hc (by decide) _) (by decide) _) (by decide) _
theorem step_12 (v : V) (l : List Cfr) : doneD (stepK 12 ⟨v, l, 0⟩) v l = brI 12 v l := by
 by_cases hf : FitC 12 l
 ·rw [brI_yes (show FitC 12 l from hf)]
  have h1 : 0 ≤ loopAt l ∧ leavesAt l (loopAt l) < 32 := hf
  refine done_ref (out := addLv l (loopAt l).toNat (cellD (cellD (wk0 v) (xtD nUn)) (xtD nBr)).v.here) l ?_ (fun hb => ?_)
  ·show onLeaveD ⟨v, l, 0⟩ = _
   unfold onLeaveD
   rw [if_neg (by show ¬ (loopAt l < 0 ∨ 32 ≤ leavesAt l (loopAt l)); omega), setL_wk0, cell_setL, cell_setL, cell_setL]
   rfl
  ·have hb2 : (cellD (cellD (cellD (wk0 v) (xtD nUn)) (xtD nBr)) 0).bad = 0 := hb
   have h2 := cell_here (cell_ok0 hb2)
   have h3 := cell_here (cell_ok0 (cell_ok0 hb2))
   rw [h2, h3, show (wk0 v).v.here + 8 + 8 = v.here + 16 by show v.here + 8 + 8 = _; omega]
   rfl
 ·rw [brI_no (show ¬ FitC 12 l from hf)]
  have h1 : ¬ (0 ≤ loopAt l ∧ leavesAt l (loopAt l) < 32) := hf
  refine done_bad ?_ v l
  show (onLeaveD ⟨v, l, 0⟩).bad = -22
  unfold onLeaveD
  rw [if_pos (by show loopAt l < 0 ∨ 32 ≤ leavesAt l (loopAt l); omega)]
  rfl
theorem step_all (i : Nat) (hi : i < 13) (v : V) (l : List Cfr) (hl : l.length ≤ 32) (h : i = 0 ∨ i = 3 ∨ i = 4 ∨ i = 8 ∨ i = 9 → l.length < 32) : doneD (stepK i ⟨v, l, 0⟩) v l = brI i v l := by
 match i, hi with
 | 0, _ => exact step_0 v l (h (by omega))
 | 1, _ => exact step_1 v l hl
 | 2, _ => exact step_2 v l
 | 3, _ => exact step_3 v l (h (by omega))
 | 4, _ => exact step_4 v l (h (by omega))
 | 5, _ => exact step_5 v l
 | 6, _ => exact step_back 6 nZb v l Iff.rfl rfl
 | 7, _ => exact step_back 7 nBr v l Iff.rfl rfl
 | 8, _ => exact step_8 v l (h (by omega))
 | 9, _ => exact step_9 v l (h (by omega))
 | 10, _ => exact step_end 10 nLp v l Iff.rfl rfl
 | 11, _ => exact step_end 11 nPl v l Iff.rfl rfl
 | 12, _ => exact step_12 v l
theorem full_no (i : Nat) (v : V) (l : List Cfr) (hi : i = 0 ∨ i = 3 ∨ i = 4 ∨ i = 8 ∨ i = 9) (h : 32 ≤ l.length) : brI i v l = (v, l, -22) := by
 refine brI_no (fun e => ?_)
 rcases hi with rfl | rfl | rfl | rfl | rfl
 ·have : l.length < 32 := e; omega
 ·have : l.length < 32 := e; omega
 ·have : lastK l 0 = 2 ∧ l.length < 32 := e; omega
 ·have : l.length < 32 := e; omega
 ·have : l.length < 32 := e; omega
end Go.Proofs.YtpkkplojpjakiaaGreat
namespace Go.Proofs.YtpkkplojpjakiaaGreat
open Go Go.RowKit
open Go.Proofs.YtpkkplojpjakiaaGreat.Dict (St Bs bs_eq encWs closed_ws)
open Go.Proofs.YtpkkplojpjakiaaGreat.Mem (Mm encM encBs closed_bs encP encP_closed closed_m storeD fetchD commaD)
open Go.Proofs.YtpkkplojpjakiaaGreat.Stk (encS closed_s encI_closed)
set_option maxRecDepth 100000
attribute [local irreducible] Decidable.decide awp ARun regK toK
theorem bracket_of (i : Nat) (hi : i < 13) (v : V) (l : List Cfr) (name : Bs) (f : Nat) (hl : l.length ≤ 32) (hkey : keyAt .string (kStr name) (nmC.map kStr) 0 = some i) (hval : fnC[i]? = some (.val (.func (.func f) #[] #[]))) (hfull : name ∈ fullNames ↔ (i = 0 ∨ i = 3 ∨ i = 4 ∨ i = 8 ∨ i = 9)) (hF : FnL Tryz.prog f [.ptr 1000 0 0 0] [(25, [encK ⟨v, l, 0⟩])] (.tup []) [[encK (stepK i ⟨v, l, 0⟩)]]) : FnC Tryz.prog 12 [.agg (encV v), encLCf l, St name] (encVLE (brI i v l)) := by
 by_cases hx : name ∈ fullNames ∧ 32 ≤ l.length
 ·rw [full_no i v l (hfull.1 hx.1) hx.2]
  exact bracket_full v l name i f hkey hval (pD_yes hx)
 ·rw [← step_all i hi v l hl (fun h => Nat.lt_of_not_le (fun h2 => hx ⟨hfull.2 h, h2⟩))]
  exact bracket_hit v l name i f _ hkey hval (pD_no hx) hF
theorem bracket_i (i : Nat) (hi : i < 13) (v : V) (l : List Cfr) (name : Bs) (hn : nmC[i]? = some name) (hl : l.length ≤ 32) (hv : ∀ c, c ∈ l → c.lv.length ≤ 60) (h : Okk v 1000) : FnC Tryz.prog 12 [.agg (encV v), encLCf l, St name] (encVLE (brI i v l)) := by
 have h40 : Okk v 40 := h.le (by omega)
 have hl9 : l.length ≤ 900 := by omega
 have hv1 : ∀ c, c ∈ l → c.lv.length ≤ 100 := fun c hc => by have := hv c hc; omega
 match i, hi with
 | 0, _ =>
  obtain rfl := Option.some.inj hn
  exact bracket_of 0 (by omega) v l _ 47 hl (by kernel_rfl) rfl ⟨fun _ => by omega, fun _ => by simp [fullNames]⟩ (onIf_l ⟨v, l, 0⟩ hl9 h40)
 | 1, _ =>
  obtain rfl := Option.some.inj hn
  exact bracket_of 1 (by omega) v l _ 48 hl (by kernel_rfl) rfl ⟨fun e => absurd e (by simp [fullNames]), fun e => by omega⟩ (onElse_l ⟨v, l, 0⟩ hl9 h40)
 | 2, _ =>
  obtain rfl := Option.some.inj hn
  exact bracket_of 2 (by omega) v l _ 49 hl (by kernel_rfl) rfl ⟨fun e => absurd e (by simp [fullNames]), fun e => by omega⟩ (onThen_l ⟨v, l, 0⟩ hl9 h40)
 | 3, _ =>
  obtain rfl := Option.some.inj hn
  exact bracket_of 3 (by omega) v l _ 50 hl (by kernel_rfl) rfl ⟨fun _ => by omega, fun _ => by simp [fullNames]⟩ (onBegin_l ⟨v, l, 0⟩ hl9 h40)
 | 4, _ =>
  obtain rfl := Option.some.inj hn
  exact bracket_of 4 (by omega) v l _ 51 hl (by kernel_rfl) rfl ⟨fun _ => by omega, fun _ => by simp [fullNames]⟩ (onWhile_l ⟨v, l, 0⟩ hl9 h40)
 | 5, _ =>
  obtain rfl := Option.some.inj hn
  exact bracket_of 5 (by omega) v l _ 52 hl (by kernel_rfl) rfl ⟨fun e => absurd e (by simp [fullNames]), fun e => by omega⟩ (onRepeat_l ⟨v, l, 0⟩ hl9 h40)
 | 6, _ =>
  obtain rfl := Option.some.inj hn
  exact bracket_of 6 (by omega) v l _ 53 hl (by kernel_rfl) rfl ⟨fun e => absurd e (by simp [fullNames]), fun e => by omega⟩ (onUntil_l ⟨v, l, 0⟩ hl9 h40)
 | 7, _ =>
  obtain rfl := Option.some.inj hn
  exact bracket_of 7 (by omega) v l _ 54 hl (by kernel_rfl) rfl ⟨fun e => absurd e (by simp [fullNames]), fun e => by omega⟩ (onAgain_l ⟨v, l, 0⟩ hl9 h40)
 | 8, _ =>
  obtain rfl := Option.some.inj hn
  exact bracket_of 8 (by omega) v l _ 55 hl (by kernel_rfl) rfl ⟨fun _ => by omega, fun _ => by simp [fullNames]⟩ (onDo_l ⟨v, l, 0⟩ hl9 h40)
 | 9, _ =>
  obtain rfl := Option.some.inj hn
  exact bracket_of 9 (by omega) v l _ 56 hl (by kernel_rfl) rfl ⟨fun _ => by omega, fun _ => by simp [fullNames]⟩ (onAsk_l ⟨v, l, 0⟩ hl9 h40)
 | 10, _ =>
  obtain rfl := Option.some.inj hn
  exact bracket_of 10 (by omega) v l _ 57 hl (by kernel_rfl) rfl ⟨fun e => absurd e (by simp [fullNames]), fun e => by omega⟩ (onLoop_l ⟨v, l, 0⟩ hl9 (by first | exact h | exact h40) hv1)
 | 11, _ =>
  obtain rfl := Option.some.inj hn
  exact bracket_of 11 (by omega) v l _ 58 hl (by kernel_rfl) rfl ⟨fun e => absurd e (by simp [fullNames]), fun e => by omega⟩ (onPlus_l ⟨v, l, 0⟩ hl9 (by first | exact h | exact h40) hv1)
 | 12, _ =>
  obtain rfl := Option.some.inj hn
  exact bracket_of 12 (by omega) v l _ 59 hl (by kernel_rfl) rfl ⟨fun e => absurd e (by simp [fullNames]), fun e => by omega⟩ (onLeave_l ⟨v, l, 0⟩ hl9 h40 hv1)
noncomputable def brN (v : V) (l : List Cfr) (name : Bs) : V × List Cfr × Int := if pD (name ∈ nmC) then brI (nmC.idxOf name) v l else (v, l, -22)
theorem idx_nm {name : Bs} (h : name ∈ nmC) : nmC[nmC.idxOf name]? = some name ∧ nmC.idxOf name < 13 := by
 have h1 : nmC.idxOf name < nmC.length := List.idxOf_lt_length_of_mem h
 exact ⟨by rw [List.getElem?_eq_getElem h1, List.getElem_idxOf], h1⟩
theorem brN_yes {v : V} {l : List Cfr} {name : Bs} (h : name ∈ nmC) : brN v l name = brI (nmC.idxOf name) v l := by unfold brN; rw [pD_yes h]; rfl
theorem brN_no {v : V} {l : List Cfr} {name : Bs} (h : name ∉ nmC) : brN v l name = (v, l, -22) := by unfold brN; rw [pD_no h]; rfl
theorem bracket_c (v : V) (l : List Cfr) (name : Bs) (hl : l.length ≤ 32) (hv : ∀ c, c ∈ l → c.lv.length ≤ 60) (h : Okk v 1000) : FnC Tryz.prog 12 [.agg (encV v), encLCf l, St name] (encVLE (brN v l name)) := by
 by_cases hm : name ∈ nmC
 ·rw [brN_yes hm]
  exact bracket_i _ (idx_nm hm).2 v l name (idx_nm hm).1 hl hv h
 ·rw [brN_no hm]
  exact bracket_miss v l name (keyNone_str hm)
end Go.Proofs.YtpkkplojpjakiaaGreat
namespace Go.Proofs.YtpkkplojpjakiaaGreat
open Go Go.RowKit
open Go.Proofs.YtpkkplojpjakiaaGreat.Dict (St Bs)
open Go.Proofs.YtpkkplojpjakiaaGreat.Mem (Mm commaD storeD fetchD writeD thereD cellAtD putB putB_len alignD padN)
set_option maxRecDepth 100000
structure Fl (v : V) (f : Nat → Int) (h : Nat) : Prop where
 b : v.m.b = cellsC f 256
 here : v.here = ((8 * h : Nat) : Int)
theorem comma_fl {m : Mm} {f : Nat → Int} {h : Nat} (n : Int) (hm : m.b = cellsC f 256) (hh : h < 256) : (commaD m ((8 * h : Nat) : Int) n).1.b = cellsC (updC f h n) 256 ∧ (commaD m ((8 * h : Nat) : Int) n).2.1 = ((8 * (h + 1) : Nat) : Int) ∧ (commaD m ((8 * h : Nat) : Int) n).2.2 = 0 := by
 have h1 : ((8 * h : Nat) : Int).tmod 8 = 0 := by rw [Int.tmod_eq_emod_of_nonneg (by omega)]; omega
 have hl : m.b.length = 2048 := by rw [hm, cellsC_len]
 have hs := store_flat n hm hh
 unfold storeD at hs
 rw [if_neg (fun e => e (cell_flat hm hh))] at hs
 unfold commaD
 rw [if_neg (fun e => e h1)]
 unfold Mem.layD
 rw [if_neg (by rw [hl, putB_len]; omega)]
 exact ⟨hs.1, by dsimp only; rw [putB_len]; omega, rfl⟩
theorem cell_fl {w : Kw} {f : Nat → Int} {h : Nat} (n : Int) (hw : Fl w.v f h) (h0 : w.bad = 0) (hh : h < 256) : Fl (cellD w n).v (updC f h n) (h + 1) ∧ (cellD w n).bad = 0 := by
 unfold cellD
 rw [if_pos h0]
 have hc := comma_fl n hw.b hh
 rw [← hw.here] at hc
 exact ⟨⟨hc.1, hc.2.1⟩, hc.2.2⟩
theorem here_fl {w : Kw} {f : Nat → Int} {h k : Nat} (hw : Fl w.v f h) (h0 : w.bad = 0) (hk : k < 256) : Fl (hereD w ((8 * k : Nat) : Int)).v (updC f k ((8 * h : Nat) : Int)) h ∧ (hereD w ((8 * k : Nat) : Int)).bad = 0 := by
 unfold hereD
 rw [if_pos h0]
 have hc := store_flat w.v.here hw.b hk
 rw [hw.here] at hc
 exact ⟨⟨by rw [hw.here]; exact hc.1, hw.here⟩, by rw [hw.here]; exact hc.2⟩
def lay (f : Nat → Int) (h : Nat) : List Int → (Nat → Int)
 | [] => f
 | a :: l => lay (updC f h a) (h + 1) l
def endsC (f : Nat → Int) (x : Int) : List Int → (Nat → Int)
 | [] => f
 | a :: l => endsC (updC f (a / 8).toNat x) x l
theorem cells_fl : ∀ (l : List Int) {w : Kw} {f : Nat → Int} {h : Nat}, Fl w.v f h → w.bad = 0 → h + l.length ≤ 256 → Fl (l.foldl cellD w).v (lay f h l) (h + l.length) ∧ (l.foldl cellD w).bad = 0
 | [], w, f, h, hw, h0, _ => ⟨hw, h0⟩
 | a :: l, w, f, h, hw, h0, hh => by
  rw [List.length_cons] at hh
  have h1 := cell_fl a hw h0 (by omega)
  have h2 := cells_fl l h1.1 h1.2 (by omega)
  rw [List.length_cons, show h + (l.length + 1) = h + 1 + l.length by omega]
  exact h2
def EndsOk (l : List Int) : Prop := ∀ a, a ∈ l → ∃ k : Nat, k < 256 ∧ a = ((8 * k : Nat) : Int)
theorem heres_fl : ∀ (l : List Int) {w : Kw} {f : Nat → Int} {h : Nat}, EndsOk l → Fl w.v f h → w.bad = 0 → Fl (heresD w l).v (endsC f ((8 * h : Nat) : Int) l) h ∧ (heresD w l).bad = 0
 | [], w, f, h, _, hw, h0 => ⟨hw, h0⟩
 | a :: l, w, f, h, he, hw, h0 => by
  obtain ⟨k, hk, rfl⟩ := he a (by simp)
  have h1 := here_fl (k := k) hw h0 hk
  have h2 := heres_fl l (fun b hb => he b (by simp [hb])) h1.1 h1.2
  show Fl (heresD (hereD w ((8 * k : Nat) : Int)) l).v (endsC (updC f (((8 * k : Nat) : Int) / 8).toNat ((8 * h : Nat) : Int)) ((8 * h : Nat) : Int) l) h ∧ _
  rw [show (((8 * k : Nat) : Int) / 8).toNat = k by omega]
  exact h2
theorem ref_fl {pl : List Int × List Int × List Cfr} {v : V} {f : Nat → Int} {h : Nat} (hv : Fl v f h) (hh : h + pl.1.length ≤ 256) (he : EndsOk pl.2.1) : Fl (refK pl v).v (endsC (lay f h pl.1) ((8 * (h + pl.1.length) : Nat) : Int) pl.2.1) (h + pl.1.length) ∧ (refK pl v).bad = 0 := by
 have h1 := cells_fl pl.1 (w := wk0 v) hv rfl hh
 exact heres_fl pl.2.1 he h1.1 h1.2
theorem brI_fl {i : Nat} {v : V} {l : List Cfr} {f : Nat → Int} {h : Nat} (hf : FitC i l) (hv : Fl v f h) (hh : h + (planD i v l).1.length ≤ 256) (he : EndsOk (planD i v l).2.1) : ∃ v', brI i v l = (v', (planD i v l).2.2, 0) ∧ Fl v' (endsC (lay f h (planD i v l).1) ((8 * (h + (planD i v l).1.length) : Nat) : Int) (planD i v l).2.1) (h + (planD i v l).1.length) := by
 have h1 := ref_fl hv hh he
 rw [brI_yes hf]
 unfold refBrD
 rw [if_pos h1.2]
 exact ⟨_, rfl, h1.1⟩
theorem okk_ref {pl : List Int × List Int × List Cfr} {v : V} {k : Nat} (h : Okk v (k + pl.1.length + pl.2.1.length)) : Okk (refK pl v).v k := by
 have h1 : Okk (cellsK v pl.1).v (k + pl.2.1.length) := cells_okk (w := wk0 v) pl.1 (h.le (by omega))
 exact okk_heres pl.2.1 h1
theorem okk_brI {i : Nat} {v : V} {l : List Cfr} {k : Nat} (h : Okk v (k + (planD i v l).1.length + (planD i v l).2.1.length)) : Okk (brI i v l).1 k := by
 unfold brI
 split
 ·unfold refBrD
  split
  ·exact okk_ref h
  ·exact h.le (by omega)
 ·exact h.le (by omega)
end Go.Proofs.YtpkkplojpjakiaaGreat
namespace Go.Proofs.YtpkkplojpjakiaaGreat
open Go Go.RowKit
open Go.Proofs.YtpkkplojpjakiaaGreat.Dict (St Bs bs_eq encWs closed_ws)
open Go.Proofs.YtpkkplojpjakiaaGreat.Mem (Mm encM encBs closed_bs encP encP_closed closed_m storeD fetchD commaD writeD alignD padN putB_len enc2m)
open Go.Proofs.YtpkkplojpjakiaaGreat.Stk (encS closed_s encI_closed)
set_option maxRecDepth 100000
def v0 : V := vNew conf0
def f0 : Nat → Int := updC (valS 37) 0 10
theorem v0_fl : Fl v0 f0 171 := ⟨rfl, rfl⟩
theorem v0_okk (k : Nat) (hk : k ≤ 1000000) : Okk v0 k := ⟨by rw [v0_fl.b, cellsC_len]; omega, by show 0 + k ≤ 1000000; omega, by rw [v0_fl.here]; omega, by rw [v0_fl.here, v0_fl.b, cellsC_len]; omega⟩
theorem fit_nil (i : Nat) (h : i = 1 ∨ i = 2 ∨ i = 4 ∨ i = 5 ∨ i = 6 ∨ i = 7 ∨ i = 10 ∨ i = 11 ∨ i = 12) : ¬ FitC i [] := by
 rcases h with rfl | rfl | rfl | rfl | rfl | rfl | rfl | rfl | rfl
 ·intro e; have : lastK [] 0 = 1 := e; cases this
 ·intro e; have : lastK [] 0 = 1 := e; cases this
 ·intro e; have : lastK [] 0 = 2 ∧ _ := e; cases this.1
 ·intro e; have : lastK [] 0 = 2 ∧ _ := e; cases this.1
 ·intro e; have : lastK [] 0 = 2 := e; cases this
 ·intro e; have : lastK [] 0 = 2 := e; cases this
 ·intro e; have : lastK [] 0 = 3 := e; cases this
 ·intro e; have : lastK [] 0 = 3 := e; cases this
 ·intro e; have : 0 ≤ loopAt [] ∧ _ := e; exact absurd this.1 (by decide)
theorem layD_ok {m : Mm} {here : Int} {b : List UInt8} (h : ¬ (m.b.length : Int) - here < b.length) : (Mem.layD m here b).2 = (here + b.length, 0) := by
 unfold Mem.layD
 rw [if_neg h]
theorem one_x : ∃ x : V, brI 0 v0 [] = (x, [⟨1, 1376, []⟩], 0) ∧ Fl x (lay f0 171 [xtD nZb, 0]) 173 ∧ Okk x 1000 := by
 have a1 : FitC 0 [] := by show (0 : Nat) < 32; omega
 obtain ⟨x, hx, fx⟩ := brI_fl a1 v0_fl (by show 171 + 2 ≤ 256; omega) (fun a h => by cases h)
 have ox : Okk x 1000 := by
  have := okk_brI (i := 0) (v := v0) (l := []) (k := 1000) (v0_okk _ (by show 1000 + 2 + 0 ≤ 1000000; omega))
  rw [hx] at this
  exact this
 refine ⟨x, ?_, fx, ox⟩
 rw [hx]
 show (x, [(⟨1, v0.here + 8, []⟩ : Cfr)], (0 : Int)) = _
 rw [show v0.here = 1368 from rfl]
 rfl
theorem two_y (x : V) (f : Nat → Int) (fx : Fl x f 173) : ∃ y : V, brI 2 x [⟨1, 1376, []⟩] = (y, [], 0) ∧ Fl y (updC f 172 1384) 173 := by
 have a2 : FitC 2 [⟨1, 1376, []⟩] := by show lastK [(⟨1, 1376, []⟩ : Cfr)] 0 = 1; rfl
 have e2 : planD 2 x [⟨1, 1376, []⟩] = ([], [((8 * 172 : Nat) : Int)], []) := rfl
 have h := brI_fl (v := x) a2 fx (by rw [e2]; show 173 + 0 ≤ 256; omega) (by
  rw [e2]
  intro a h
  rw [List.mem_singleton.1 h]
  exact ⟨172, by omega, rfl⟩)
 rw [e2] at h
 obtain ⟨y, hy, fy⟩ := h
 refine ⟨y, hy, ?_⟩
 have fy' : Fl y (updC f (((8 * 172 : Nat) : Int) / 8).toNat ((8 * (173 + 0) : Nat) : Int)) 173 := fy
 rw [show (((8 * 172 : Nat) : Int) / 8).toNat = 172 by omega, show ((8 * (173 + 0) : Nat) : Int) = 1384 by omega] at fy'
 exact fy'
theorem lit_z : ∃ z : V, outD (litK v0 5) v0 = (z, 0) ∧ z.here = 1384 := by
 have hz := cells_fl [xtD nLit, 5] (w := wk0 v0) v0_fl rfl (by show 171 + 2 ≤ 256; omega)
 exact ⟨_, if_pos hz.2, hz.1.here⟩
theorem str_s : ∃ s : V, outD (strK v0 [97, 98, 99]) v0 = (s, 0) ∧ s.here = 1392 := by
 have hs := cells_fl [xtD nStr, 3] (w := wk0 v0) v0_fl rfl (by show 171 + 2 ≤ 256; omega)
 have hk0 : strK0 v0 [97, 98, 99] = cellsK v0 [xtD nStr, 3] := rfl
 have b0 : (cellsK v0 [xtD nStr, 3]).bad = 0 := hs.2
 have f1 : Fl (cellsK v0 [xtD nStr, 3]).v (lay f0 171 [xtD nStr, 3]) 173 := hs.1
 clear hs
 unfold strK
 rw [hk0]
 clear hk0
 generalize cellsK v0 [xtD nStr, 3] = w at *
 have l1 : w.v.m.b.length = 2048 := by rw [f1.b, cellsC_len]
 have l2 : w.v.here = 1384 := f1.here
 have q1 := layD_ok (m := w.v.m) (here := w.v.here) (b := [97, 98, 99]) (by rw [l1, l2]; decide)
 have o1 := mlay_ok w.v.m w.v.here [97, 98, 99] (by rw [l2]; decide) (by rw [l1, l2]; decide)
 have q2 : (Mem.layD w.v.m w.v.here [97, 98, 99]).2.1 = 1387 := by rw [q1, l2]; rfl
 have q3 : (Mem.layD w.v.m w.v.here [97, 98, 99]).2.2 = 0 := by rw [q1]
 rw [if_pos b0, if_pos q3]
 refine ⟨_, if_pos rfl, ?_⟩
 show (alignD _ _).2.1 = 1392
 rw [q2]
 unfold alignD
 rw [layD_ok (by rw [o1.1, l1]; decide)]
 rfl
theorem facts13 : ∃ x y z s : V, brI 0 v0 [] = (x, [⟨1, 1376, []⟩], 0) ∧ brI 2 x [⟨1, 1376, []⟩] = (y, [], 0) ∧ brI 2 v0 [] = (v0, [], -22) ∧ fetchD y.m 1376 = (1384, 0) ∧ y.m.b.length ≤ 1000000 ∧ y.here = 1384 ∧ outD (litK v0 5) v0 = (z, 0) ∧ z.here = 1384 ∧ outD (strK v0 [97, 98, 99]) v0 = (s, 0) ∧ s.here = 1392 ∧ Okk x 1000 := by
 obtain ⟨x, hx, fx, ox⟩ := one_x
 obtain ⟨y, hy, fy⟩ := two_y x _ fx
 obtain ⟨z, hz, hz2⟩ := lit_z
 obtain ⟨s, hs, hs2⟩ := str_s
 have hf := fetch_flat (k := 172) fy.b (by omega) (by
  rw [show updC (lay f0 171 [xtD nZb, 0]) 172 1384 172 = 1384 from if_pos rfl]
  omega)
 rw [show updC (lay f0 171 [xtD nZb, 0]) 172 1384 172 = 1384 from if_pos rfl] at hf
 exact ⟨x, y, z, s, hx, hy, brI_no (fit_nil 2 (by omega)), hf, by rw [fy.b, cellsC_len]; omega, fy.here, hz, hz2, hs, hs2, ox⟩
end Go.Proofs.YtpkkplojpjakiaaGreat
