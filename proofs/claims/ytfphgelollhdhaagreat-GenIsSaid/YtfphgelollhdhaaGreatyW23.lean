/- yJ13, yB1, yB2, yB3, yB4. -/
import Derived.Test.YtfphgelollhdhaaGreatW1
import Derived.Test.YtfphgelollhdhaaGreatW2
import Derived.Test.YtfphgelollhdhaaGreatW3
import Derived.Test.YtfphgelollhdhaaGreatW4
import Derived.Test.YtfphgelollhdhaaGreatyW5
import Derived.Test.YtfphgelollhdhaaGreatyW6
import Derived.Test.YtfphgelollhdhaaGreatyW7
import Derived.Test.YtfphgelollhdhaaGreatyW8
import Derived.Test.YtfphgelollhdhaaGreatyW9
import Derived.Test.YtfphgelollhdhaaGreatyW10
import Derived.Test.YtfphgelollhdhaaGreatyW11
import Derived.Test.YtfphgelollhdhaaGreatyW12
import Derived.Test.YtfphgelollhdhaaGreatyW13
import Derived.Test.YtfphgelollhdhaaGreatyW14
import Derived.Test.YtfphgelollhdhaaGreatyW15
import Derived.Test.YtfphgelollhdhaaGreatyW16
import Derived.Test.YtfphgelollhdhaaGreatyW17
import Derived.Test.YtfphgelollhdhaaGreatyW18
import Derived.Test.YtfphgelollhdhaaGreatyW19
import Derived.Test.YtfphgelollhdhaaGreatyW20
import Derived.Test.YtfphgelollhdhaaGreatyW21
import Derived.Test.YtfphgelollhdhaaGreatyW22
set_option linter.unusedVariables false
set_option linter.unusedSimpArgs false
namespace Go.Proofs.YtfphgelollhdhaaGreat.Gen
open Go Go.RowKit
set_option maxRecDepth 100000
def exT : List Nod := [.mk 3 0 [.mk 1 1 [] []] []]
theorem ex_ok : okDs exT = true := by decide
theorem ex_cnt : cntL exT = 2 := by decide
theorem ex_siz : sizS exT = 4 := by decide
theorem ex_cod : codeS 1368 exT 1376 = [XS.zb, 1408, XS.lit, 1, XS.ex] := by
 unfold codeS exT
 simp [codL, codN_eq, Nod.k, Nod.n, Nod.a, Nod.b, oneS, sizS, wr_eq]
theorem ex_wd : Wdn (.sl 4 true [[.val (.int .i64 3), .val (.int .i64 0), .sl 4 true [[.val (.int .i64 1), .val (.int .i64 1), .sl 0 true [], .sl 0 true []]], .sl 0 true []]]) (encTr exT) := by
 unfold exT encTr
 rw [List.map_cons, List.map_nil, encD, encDs, encDs, encD, encDs]
 exact .slR (RelR.cons (RelL.cons (.wk (.same _)) (RelL.cons (.wk (.same _)) (RelL.cons (.slR (RelR.cons (RelL.cons (.wk (.same _)) (RelL.cons (.wk (.same _)) (RelL.cons (.wk .nilSl) (RelL.cons (.wk .nilSl) (RelL.nil _))))) (RelR.nil _))) (RelL.cons (.wk .nilSl) (RelL.nil _))))) (RelR.nil _))
attribute [local irreducible] Decidable.decide awp ARun regK toK XS
set_option maxHeartbeats 4000000 in
theorem shown_c : FnC Tryz.prog 4 [] (.val (.bool true)) := by
 have c1 := code_c exT 1376 1368 ex_ok (by rw [ex_cnt]; omega) ⟨by omega, by omega⟩
 rw [ex_cod] at c1
 have c2 := siz_c exT ex_ok (by rw [ex_cnt]; omega)
 unfold SizC at c2
 rw [ex_siz] at c2
 have c3 := ref_same_c [XS.zb, 1408, XS.lit, 1, XS.ex] [XS.zb, 1408, XS.lit, 1, XS.ex] (by simp) (by simp)
 rw [show sameD [XS.zb, 1408, XS.lit, 1, XS.ex] [XS.zb, 1408, XS.lit, 1, XS.ex] = true from decide_eq_true rfl] at c3
 have hw := ex_wd
 generalize exT = T at *
 refine goF Tryz.func4 closedL_nil (fun w0 st0 => ?_)
 dsimp only [frOf]
 (repeat' (first | refine goN ?_ | refine awp_region_ne 2 rfl (fun _ => hmix) ?_ | refine ARun.o rfl ?_ | refine goB ?_ | ((fail_if_success refine ARun.plain rfl ?_); refine ARun.fork rfl rfl rfl (fun h => ?_) (fun h => ?_)) | refine awp_cond rfl (fun h => ?_) (fun h => ?_)))
 refine awp_wdF 1 (encTr T) hw ?_
 (repeat' (first | refine goA ?_ | refine cX c1 ?_ | refine cX rxt_zb ?_ | refine cX rxt_lit ?_ | refine cX rxt_ex ?_ | refine callW (c3) rfl wkT rfl rfl ?_ | refine cX c2 ?_ | refine goB ?_ | fail))
 exact awp_ret ⟨_, ResL.cons (ResA.tmp (.val _)) .nil, congrArg (fun b => AV.val (.bool b)) (beq_self_eq_true (4 : Int)).symm⟩
end Go.Proofs.YtfphgelollhdhaaGreat.Gen
namespace Go.Proofs.YtfphgelollhdhaaGreat
open Go Go.RowKit
open Go.Proofs.YtfphgelollhdhaaGreat.Dict (St Bs)
open Go.Proofs.YtfphgelollhdhaaGreat.Mem (Mm commaD storeD fetchD writeD thereD cellAtD putB putB_len alignD padN)
set_option maxRecDepth 100000
structure FlN (N : Nat) (v : V) (f : Nat → Int) (h : Nat) : Prop where
 b : v.m.b = cellsC f N
 here : v.here = ((8 * h : Nat) : Int)
theorem comma_n {N : Nat} {m : Mm} {f : Nat → Int} {h : Nat} (n : Int) (hm : m.b = cellsC f N) (hh : h < N) : (commaD m ((8 * h : Nat) : Int) n).1.b = cellsC (updC f h n) N ∧ (commaD m ((8 * h : Nat) : Int) n).2.1 = ((8 * (h + 1) : Nat) : Int) ∧ (commaD m ((8 * h : Nat) : Int) n).2.2 = 0 := by
 have h1 : ((8 * h : Nat) : Int).tmod 8 = 0 := by rw [Int.tmod_eq_emod_of_nonneg (by omega)]; omega
 have hl : m.b.length = 8 * N := by rw [hm, cellsC_len]
 have hs := store_flat n hm hh
 unfold storeD at hs
 rw [if_neg (fun e => e (cell_flat hm hh))] at hs
 unfold commaD
 rw [if_neg (fun e => e h1)]
 unfold Mem.layD
 rw [if_neg (by rw [hl, putB_len]; omega)]
 exact ⟨hs.1, by dsimp only; rw [putB_len]; omega, rfl⟩
theorem cell_n {N : Nat} {w : Kw} {f : Nat → Int} {h : Nat} (n : Int) (hw : FlN N w.v f h) (h0 : w.bad = 0) (hh : h < N) : FlN N (cellD w n).v (updC f h n) (h + 1) ∧ (cellD w n).bad = 0 := by
 unfold cellD
 rw [if_pos h0]
 have hc := comma_n n hw.b hh
 rw [← hw.here] at hc
 exact ⟨⟨hc.1, hc.2.1⟩, hc.2.2⟩
theorem here_n {N : Nat} {w : Kw} {f : Nat → Int} {h k : Nat} (hw : FlN N w.v f h) (h0 : w.bad = 0) (hk : k < N) : FlN N (hereD w ((8 * k : Nat) : Int)).v (updC f k ((8 * h : Nat) : Int)) h ∧ (hereD w ((8 * k : Nat) : Int)).bad = 0 := by
 unfold hereD
 rw [if_pos h0]
 have hc := store_flat w.v.here hw.b hk
 rw [hw.here] at hc
 exact ⟨⟨by rw [hw.here]; exact hc.1, hw.here⟩, by rw [hw.here]; exact hc.2⟩
theorem cells_n {N : Nat} : ∀ (l : List Int) {w : Kw} {f : Nat → Int} {h : Nat}, FlN N w.v f h → w.bad = 0 → h + l.length ≤ N → FlN N (l.foldl cellD w).v (lay f h l) (h + l.length) ∧ (l.foldl cellD w).bad = 0
 | [], w, f, h, hw, h0, _ => ⟨hw, h0⟩
 | a :: l, w, f, h, hw, h0, hh => by
  rw [List.length_cons] at hh
  have h1 := cell_n a hw h0 (by omega)
  have h2 := cells_n l h1.1 h1.2 (by omega)
  rw [List.length_cons, show h + (l.length + 1) = h + 1 + l.length by omega]
  exact h2
def EndsN (N : Nat) (l : List Int) : Prop := ∀ a, a ∈ l → ∃ k : Nat, k < N ∧ a = ((8 * k : Nat) : Int)
theorem heres_n {N : Nat} : ∀ (l : List Int) {w : Kw} {f : Nat → Int} {h : Nat}, EndsN N l → FlN N w.v f h → w.bad = 0 → FlN N (heresD w l).v (endsC f ((8 * h : Nat) : Int) l) h ∧ (heresD w l).bad = 0
 | [], w, f, h, _, hw, h0 => ⟨hw, h0⟩
 | a :: l, w, f, h, he, hw, h0 => by
  obtain ⟨k, hk, rfl⟩ := he a (by simp)
  have h1 := here_n (k := k) hw h0 hk
  have h2 := heres_n l (fun b hb => he b (by simp [hb])) h1.1 h1.2
  show FlN N (heresD (hereD w ((8 * k : Nat) : Int)) l).v (endsC (updC f (((8 * k : Nat) : Int) / 8).toNat ((8 * h : Nat) : Int)) ((8 * h : Nat) : Int) l) h ∧ _
  rw [show (((8 * k : Nat) : Int) / 8).toNat = k by omega]
  exact h2
theorem ref_n {N : Nat} {pl : List Int × List Int × List Cfr} {v : V} {f : Nat → Int} {h : Nat} (hv : FlN N v f h) (hh : h + pl.1.length ≤ N) (he : EndsN N pl.2.1) : FlN N (refK pl v).v (endsC (lay f h pl.1) ((8 * (h + pl.1.length) : Nat) : Int) pl.2.1) (h + pl.1.length) ∧ (refK pl v).bad = 0 := by
 have h1 := cells_n pl.1 (w := wk0 v) hv rfl hh
 exact heres_n pl.2.1 he h1.1 h1.2
theorem brI_n {N i : Nat} {v : V} {l : List Cfr} {f : Nat → Int} {h : Nat} (hf : FitC i l) (hv : FlN N v f h) (hh : h + (planD i v l).1.length ≤ N) (he : EndsN N (planD i v l).2.1) : ∃ v', brI i v l = (v', (planD i v l).2.2, 0) ∧ FlN N v' (endsC (lay f h (planD i v l).1) ((8 * (h + (planD i v l).1.length) : Nat) : Int) (planD i v l).2.1) (h + (planD i v l).1.length) := by
 have h1 := ref_n hv hh he
 rw [brI_yes hf]
 unfold refBrD
 rw [if_pos h1.2]
 exact ⟨_, rfl, h1.1⟩
theorem vlay_n {N : Nat} {v : V} {f : Nat → Int} {h : Nat} (hv : FlN N v f h) (n : Int) (hh : h < N) : ∃ x, vlayD v n = (x, 0) ∧ FlN N x (updC f h n) (h + 1) := by
 have hc := comma_n n hv.b hh
 rw [← hv.here] at hc
 exact ⟨withMH v (commaD v.m v.here n).1 (commaD v.m v.here n).2.1, by unfold vlayD; rw [hc.2.2], hc.1, hc.2.1⟩
theorem lit_n {N : Nat} {v : V} {f : Nat → Int} {h : Nat} (hv : FlN N v f h) (n : Int) (hh : h + 2 ≤ N) : ∃ x, outD (litK v n) v = (x, 0) ∧ FlN N x (lay f h [xtD nLit, n]) (h + 2) := by
 have hz := cells_n [xtD nLit, n] (w := wk0 v) hv rfl hh
 exact ⟨_, if_pos hz.2, hz.1⟩
theorem ft_n {N : Nat} {m : Mm} {f : Nat → Int} (hm : m.b = cellsC f N) {k : Nat} (hk : k < N) {n : Int} (e : f k = n) (hn : -9223372036854775808 ≤ n ∧ n ≤ 9223372036854775807) : fetchD m ((8 * k : Nat) : Int) = (n, 0) := by
 subst e
 exact fetch_flat hm hk hn
theorem kd_n {N : Nat} {v : V} {f : Nat → Int} (hm : v.m.b = cellsC f N) {k : Nat} (hk : k < N) {n : Int} (e : f k = n) (hn : (0 ≤ n ∧ n ≤ 129) ∨ (256 ≤ n ∧ n ≤ 260) ∨ (300 ≤ n ∧ n ≤ 336)) : kindD v ((8 * k : Nat) : Int) = (n, 0) := by
 have hf := ft_n hm hk e (by omega)
 unfold kindD
 rw [hf, if_neg (fun e => e rfl), if_pos hn]
end Go.Proofs.YtfphgelollhdhaaGreat
namespace Go.Proofs.YtfphgelollhdhaaGreat
open Go Go.RowKit
open Go.Proofs.YtfphgelollhdhaaGreat.Dict (St Bs)
open Gen (Nod Xts codN codL oneS sizS mayM wr)
set_option maxRecDepth 100000
def nEx : Bs := [40, 101, 120, 105, 116, 41]
def XC : Xts := ⟨xtD nLit, xtD nZb, xtD nBr, xtD nDo, xtD nQdo, xtD nLp, xtD nPl, xtD nUn, xtD nEx⟩
inductive Itm where
 | lay (cs : List Int)
 | br (i : Nat)
structure Cs where
 f : Nat → Int
 h : Nat
 l : List Cfr
def planH (i : Nat) (H : Int) (l : List Cfr) : List Int × List Int × List Cfr := planD i (withMH v0 v0.m H) l
theorem plan_h (i : Nat) (v : V) (l : List Cfr) : planD i v l = planH i v.here l := by
 unfold planH planD
 split <;> rfl
def layS (s : Cs) (cs : List Int) : Cs := ⟨lay s.f s.h cs, s.h + cs.length, s.l⟩
def plS (s : Cs) (i : Nat) : List Int × List Int × List Cfr := planH i ((8 * s.h : Nat) : Int) s.l
def brS (s : Cs) (i : Nat) : Cs := ⟨endsC (lay s.f s.h (plS s i).1) ((8 * (s.h + (plS s i).1.length) : Nat) : Int) (plS s i).2.1, s.h + (plS s i).1.length, (plS s i).2.2⟩
def EndsR (l : List Int) : Prop := ∀ a, a ∈ l → ∃ k : Nat, 171 ≤ k ∧ k < 512 ∧ a = ((8 * k : Nat) : Int)
structure BrOk (s : Cs) (i : Nat) : Prop where
 i13 : i < 13
 fit : FitC i s.l
 room : s.h + (plS s i).1.length ≤ 512
 ends : EndsR (plS s i).2.1
inductive Ch : Cs → List Itm → Cs → Prop
 | nil (s : Cs) : Ch s [] s
 | lay {s s' : Cs} {cs : List Int} {r : List Itm} : s.h + cs.length ≤ 512 → Ch (layS s cs) r s' → Ch s (.lay cs :: r) s'
 | br {s s' : Cs} {i : Nat} {r : List Itm} : BrOk s i → Ch (brS s i) r s' → Ch s (.br i :: r) s'
inductive ChF : Cs → List Itm → Prop
 | here {s : Cs} {r : List Itm} : ¬ FitC 12 s.l → ChF s (.br 12 :: r)
 | lay {s : Cs} {cs : List Int} {r : List Itm} : s.h + cs.length ≤ 512 → ChF (layS s cs) r → ChF s (.lay cs :: r)
 | br {s : Cs} {i : Nat} {r : List Itm} : BrOk s i → ChF (brS s i) r → ChF s (.br i :: r)
theorem Ch.app {s s1 s2 : Cs} {a b : List Itm} (h : Ch s a s1) : Ch s1 b s2 → Ch s (a ++ b) s2 := by
 induction h with
 | nil s => exact fun g => g
 | lay h1 h2 ih => exact fun g => .lay h1 (ih g)
 | br h1 h2 ih => exact fun g => .br h1 (ih g)
theorem Ch.appF {s s1 : Cs} {a b : List Itm} (h : Ch s a s1) : ChF s1 b → ChF s (a ++ b) := by
 induction h with
 | nil s => exact fun g => g
 | lay h1 h2 ih => exact fun g => .lay h1 (ih g)
 | br h1 h2 ih => exact fun g => .br h1 (ih g)
theorem ChF.app {s : Cs} {a : List Itm} (b : List Itm) (h : ChF s a) : ChF s (a ++ b) := by
 induction h with
 | here h1 => exact .here h1
 | lay h1 h2 ih => exact .lay h1 ih
 | br h1 h2 ih => exact .br h1 ih
mutual
def itN (self : Int) : Nod → List Itm
 | .mk k n a b =>
  if k = 1 then [.lay [xtD nLit, n]]
  else if k = 2 then [.lay [n]]
  else if k = 3 then (if n = 0 then .br 0 :: (itL self a ++ [.br 2]) else .br 0 :: (itL self a ++ (.br 1 :: (itL self b ++ [.br 2]))))
  else if k = 4 then .br 3 :: (itL self a ++ [.br 6])
  else if k = 5 then .br 3 :: (itL self a ++ [.br 7])
  else if k = 6 then .br 3 :: (itL self a ++ (.br 4 :: (itL self b ++ [.br 5])))
  else if k = 7 ∨ k = 8 then .br (if n = 1 then 9 else 8) :: (itL self a ++ [.br (if k = 8 then 11 else 10)])
  else if k = 9 then [.br 12]
  else if k = 10 then [.lay [xtD nEx]]
  else [.lay [self]]
def itL (self : Int) : List Nod → List Itm
 | [] => []
 | x :: l => itN self x ++ itL self l
end
theorem itN_eq (self : Int) (x : Nod) : itN self x =
  if x.k = 1 then [.lay [xtD nLit, x.n]]
  else if x.k = 2 then [.lay [x.n]]
  else if x.k = 3 then (if x.n = 0 then .br 0 :: (itL self x.a ++ [.br 2]) else .br 0 :: (itL self x.a ++ (.br 1 :: (itL self x.b ++ [.br 2]))))
  else if x.k = 4 then .br 3 :: (itL self x.a ++ [.br 6])
  else if x.k = 5 then .br 3 :: (itL self x.a ++ [.br 7])
  else if x.k = 6 then .br 3 :: (itL self x.a ++ (.br 4 :: (itL self x.b ++ [.br 5])))
  else if x.k = 7 ∨ x.k = 8 then .br (if x.n = 1 then 9 else 8) :: (itL self x.a ++ [.br (if x.k = 8 then 11 else 10)])
  else if x.k = 9 then [.br 12]
  else if x.k = 10 then [.lay [xtD nEx]]
  else [.lay [self]] := by
 obtain ⟨k, n, a, b⟩ := x
 rw [itN]
 rfl
structure Seg (f : Nat → Int) (h : Nat) (f' : Nat → Int) (h' : Nat) (code : Int → List Int) (xs : List Int) : Prop where
 ln : ∀ en, h' = h + (code en).length
 lo : ∀ j, j < h → f' j = f j
 xr : ∀ x, x ∈ xs → ∃ k : Nat, h ≤ k ∧ k < h' ∧ x = ((8 * k : Nat) : Int)
 cd : ∀ en i c, (code en)[i]? = some c → c = if ((8 * (h + i) : Nat) : Int) ∈ xs then en else f' (h + i)
theorem Seg.nil (f : Nat → Int) (h : Nat) : Seg f h f h (fun _ => []) [] := ⟨fun _ => rfl, fun _ _ => rfl, fun x hx => (by cases hx), fun en i c hc => by cases hc⟩
theorem Seg.app {f f1 f2 : Nat → Int} {h h1 h2 : Nat} {c1 c2 : Int → List Int} {x1 x2 : List Int} (a : Seg f h f1 h1 c1 x1) (b : Seg f1 h1 f2 h2 c2 x2) : Seg f h f2 h2 (fun en => c1 en ++ c2 en) (x1 ++ x2) := by
 have hh : h ≤ h1 := by have := a.ln 0; omega
 have hh2 : h1 ≤ h2 := by have := b.ln 0; omega
 refine ⟨fun en => ?_, fun j hj => ?_, fun x hx => ?_, fun en i c hc => ?_⟩
 ·have e1 := a.ln en
  have e2 := b.ln en
  rw [List.length_append]
  omega
 ·rw [b.lo j (by omega), a.lo j hj]
 ·rcases List.mem_append.1 hx with hx | hx
  ·obtain ⟨k, h3, h4, h5⟩ := a.xr x hx
   exact ⟨k, h3, by omega, h5⟩
  ·obtain ⟨k, h3, h4, h5⟩ := b.xr x hx
   exact ⟨k, by omega, h4, h5⟩
 ·have e1 := a.ln en
  by_cases hi : i < (c1 en).length
  ·rw [List.getElem?_append_left hi] at hc
   have h3 := a.cd en i c hc
   have h4 : f2 (h + i) = f1 (h + i) := b.lo _ (by omega)
   have h5 : ((8 * (h + i) : Nat) : Int) ∈ x1 ++ x2 ↔ ((8 * (h + i) : Nat) : Int) ∈ x1 := by
    rw [List.mem_append]
    refine ⟨fun h => h.elim (fun h => h) (fun h => ?_), .inl⟩
    obtain ⟨k, h6, h7, h8⟩ := b.xr _ h
    omega
   rw [h3, h4]
   by_cases h6 : ((8 * (h + i) : Nat) : Int) ∈ x1
   ·rw [if_pos h6, if_pos (h5.2 h6)]
   ·rw [if_neg h6, if_neg (fun h => h6 (h5.1 h))]
  ·rw [List.getElem?_append_right (by omega)] at hc
   have h3 := b.cd en _ c hc
   have h5 : ((8 * (h + i) : Nat) : Int) ∈ x1 ++ x2 ↔ ((8 * (h + i) : Nat) : Int) ∈ x2 := by
    rw [List.mem_append]
    refine ⟨fun h => h.elim (fun h => ?_) (fun h => h), .inr⟩
    obtain ⟨k, h6, h7, h8⟩ := a.xr _ h
    omega
   rw [show h1 + (i - (c1 en).length) = h + i by omega] at h3
   rw [h3]
   by_cases h6 : ((8 * (h + i) : Nat) : Int) ∈ x2
   ·rw [if_pos h6, if_pos (h5.2 h6)]
   ·rw [if_neg h6, if_neg (fun h => h6 (h5.1 h))]
theorem lay_lo : ∀ (cs : List Int) (f : Nat → Int) (h j : Nat), j < h → lay f h cs j = f j
 | [], f, h, j, hj => rfl
 | a :: cs, f, h, j, hj => by
  rw [lay, lay_lo cs _ _ j (by omega)]
  exact if_neg (by omega)
theorem lay_at : ∀ (cs : List Int) (f : Nat → Int) (h i : Nat) (c : Int), cs[i]? = some c → lay f h cs (h + i) = c
 | a :: cs, f, h, 0, c, hc => by
  rw [lay, lay_lo cs _ _ _ (by omega)]
  simp only [List.getElem?_cons_zero, Option.some.injEq] at hc
  rw [← hc]
  exact if_pos rfl
 | a :: cs, f, h, i + 1, c, hc => by
  rw [lay, show h + (i + 1) = h + 1 + i by omega]
  exact lay_at cs _ _ i c (by simpa using hc)
theorem Seg.lay (f : Nat → Int) (h : Nat) (cs : List Int) : Seg f h (lay f h cs) (h + cs.length) (fun _ => cs) [] :=
 ⟨fun _ => rfl, fun j hj => lay_lo cs f h j hj, fun x hx => (by cases hx), fun en i c hc => by rw [if_neg (by simp)]; exact (lay_at cs f h i c hc).symm⟩
theorem Seg.layE (f : Nat → Int) (h : Nat) (cs : List Int) (z : Int) : Seg f h (Go.Proofs.YtfphgelollhdhaaGreat.lay f h (cs ++ [z])) (h + (cs ++ [z]).length) (fun en => cs ++ [en]) [((8 * (h + cs.length) : Nat) : Int)] := by
 refine ⟨fun en => by rw [List.length_append, List.length_append]; rfl, fun j hj => lay_lo _ f h j hj, fun x hx => ⟨h + cs.length, by omega, by rw [List.length_append, List.length_singleton]; omega, List.mem_singleton.1 hx⟩, fun en i c hc => ?_⟩
 by_cases hi : i < cs.length
 ·rw [if_neg (by rw [List.mem_singleton]; omega)]
  rw [List.getElem?_append_left hi] at hc
  exact (lay_at (cs ++ [z]) f h i c (by rw [List.getElem?_append_left hi]; exact hc)).symm
 ·rw [List.getElem?_append_right (by omega)] at hc
  have h0 : i - cs.length = 0 := by
   have := (List.getElem?_eq_some_iff.1 hc).1
   rw [List.length_singleton] at this
   omega
  rw [h0] at hc
  simp only [List.getElem?_cons_zero, Option.some.injEq] at hc
  rw [if_pos (by rw [List.mem_singleton]; omega), hc]
theorem Seg.patch {f f' : Nat → Int} {h h' : Nat} {code code' : Int → List Int} {xs : List Int} (a : Seg f h f' h' code xs) (k : Nat) (x : Int) (hk : h ≤ k) (hx : ((8 * k : Nat) : Int) ∉ xs) (hc : ∀ en, code' en = (code en).set (k - h) x) : Seg f h (updC f' k x) h' code' xs := by
 refine ⟨fun en => by rw [hc, List.length_set]; exact a.ln en, fun j hj => ?_, a.xr, fun en i c h1 => ?_⟩
 ·rw [show updC f' k x j = f' j from if_neg (by omega), a.lo j hj]
 ·rw [hc, List.getElem?_set] at h1
  by_cases hi : k - h = i
  ·rw [if_pos hi] at h1
   split at h1
   ·have e := Option.some.inj h1
    rw [show h + i = k by omega, if_neg hx, show updC f' k x k = x from if_pos rfl, e]
   ·cases h1
  ·rw [if_neg hi] at h1
   rw [a.cd en i c h1, show updC f' k x (h + i) = f' (h + i) from if_neg (by omega)]
theorem endsC_out : ∀ (l : List Int) (f : Nat → Int) (x : Int) (k : Nat), (∀ a, a ∈ l → ∃ j : Nat, a = ((8 * j : Nat) : Int)) → ((8 * k : Nat) : Int) ∉ l → endsC f x l k = f k
 | [], f, x, k, _, h => rfl
 | a :: l, f, x, k, hl, h => by
  obtain ⟨j, rfl⟩ := hl a (by simp)
  rw [endsC, endsC_out l _ x k (fun b hb => hl b (by simp [hb])) (fun e => h (List.mem_cons_of_mem _ e)), show (((8 * j : Nat) : Int) / 8).toNat = j by omega]
  exact if_neg (fun e => h (by rw [e]; exact List.mem_cons_self))
theorem endsC_in : ∀ (l : List Int) (f : Nat → Int) (x : Int) (k : Nat), (∀ a, a ∈ l → ∃ j : Nat, a = ((8 * j : Nat) : Int)) → ((8 * k : Nat) : Int) ∈ l → endsC f x l k = x
 | a :: l, f, x, k, hq, h => by
  rw [endsC]
  by_cases hl : ((8 * k : Nat) : Int) ∈ l
  ·exact endsC_in l _ x k (fun b hb => hq b (by simp [hb])) hl
  ·rcases List.mem_cons.1 h with e | h
   ·rw [endsC_out l _ x k (fun b hb => hq b (by simp [hb])) hl, ← e, show (((8 * k : Nat) : Int) / 8).toNat = k by omega]
    exact if_pos rfl
   ·exact absurd h hl
theorem Seg.ends {f f' : Nat → Int} {h h' : Nat} {code : Int → List Int} {xs : List Int} (a : Seg f h f' h' code xs) (x : Int) : Seg f h (endsC f' x xs) h' (fun _ => code x) [] := by
 have hq : ∀ a, a ∈ xs → ∃ j : Nat, a = ((8 * j : Nat) : Int) := fun b hb => by
  obtain ⟨k, _, _, e⟩ := a.xr b hb
  exact ⟨k, e⟩
 refine ⟨fun en => a.ln x, fun j hj => ?_, fun x hx => (by cases hx), fun en i c h1 => ?_⟩
 ·rw [endsC_out xs f' x j hq (fun e => by
   obtain ⟨k, h1, h2, h3⟩ := a.xr _ e
   omega), a.lo j hj]
 ·rw [if_neg (by simp), a.cd x i c h1]
  by_cases hi : ((8 * (h + i) : Nat) : Int) ∈ xs
  ·rw [if_pos hi, endsC_in xs f' x _ hq hi]
  ·rw [if_neg hi, endsC_out xs f' x _ hq hi]
def addL (l : List Cfr) (xs : List Int) : List Cfr := xs.foldl (fun l x => addLv l (loopAt l).toNat x) l
theorem addL_app (l : List Cfr) (a b : List Int) : addL l (a ++ b) = addL (addL l a) b := List.foldl_append
theorem loopAt_3 (l : List Cfr) {c : Cfr} (h : c.kind = 3) : loopAt (l ++ [c]) = l.length := by
 unfold loopAt
 rw [List.length_append, List.length_singleton]
 exact loop_hit (by rw [List.getElem?_append_right (Nat.le_refl _), Nat.sub_self]; rfl) h
theorem loopFrom_app (l : List Cfr) (c : Cfr) : ∀ n, n ≤ l.length → loopFrom (l ++ [c]) n = loopFrom l n
 | 0, _ => rfl
 | n + 1, h => by
  rw [loopFrom, loopFrom, List.getElem?_append_left (by omega), loopFrom_app l c n (by omega)]
theorem loopAt_no (l : List Cfr) {c : Cfr} (h : c.kind ≠ 3) : loopAt (l ++ [c]) = loopAt l := by
 unfold loopAt
 rw [List.length_append, List.length_singleton, loop_miss (c := c) (by rw [List.getElem?_append_right (Nat.le_refl _), Nat.sub_self]; rfl) h, loopFrom_app l c _ (Nat.le_refl _)]
theorem loopAt_lt {l : List Cfr} (h : 0 ≤ loopAt l) : (loopAt l).toNat < l.length := by
 obtain ⟨k, c, h1, h2, h3⟩ := loopFrom_mem (l := l) (n := l.length) h
 have := (List.getElem?_eq_some_iff.1 h1).1
 unfold loopAt
 omega
theorem addLv_app {l : List Cfr} (c : Cfr) {k : Nat} (x : Int) (hk : k < l.length) : addLv (l ++ [c]) k x = addLv l k x ++ [c] := by
 have h1 : l[k]? = some l[k] := List.getElem?_eq_getElem hk
 unfold addLv
 rw [List.getElem?_append_left hk, h1]
 dsimp only
 rw [List.set_append_left _ _ hk]
theorem addLv_len (l : List Cfr) (k : Nat) (x : Int) : (addLv l k x).length = l.length := by
 unfold addLv
 split
 ·rw [List.length_set]
 ·rfl
theorem addL_len (xs : List Int) : ∀ l : List Cfr, (addL l xs).length = l.length := by
 induction xs with
 | nil => exact fun l => rfl
 | cons x xs ih => exact fun l => (ih (addLv l (loopAt l).toNat x)).trans (addLv_len _ _ _)
theorem addLv_kind (l : List Cfr) (k : Nat) (x : Int) (i : Nat) : (addLv l k x)[i]?.map Cfr.kind = l[i]?.map Cfr.kind := by
 unfold addLv
 split
 ·rename_i c hc
  rw [List.getElem?_set]
  split
  ·rename_i e
   subst e
   rw [hc, if_pos (List.getElem?_eq_some_iff.1 hc).1]
   rfl
  ·rfl
 ·rfl
theorem loopFrom_congr {a b : List Cfr} (h : ∀ i : Nat, a[i]?.map Cfr.kind = b[i]?.map Cfr.kind) : ∀ n, loopFrom a n = loopFrom b n
 | 0 => rfl
 | n + 1 => by
  rw [loopFrom, loopFrom, loopFrom_congr h n]
  have hn := h n
  cases ha : a[n]? with
  | none =>
   rw [ha] at hn
   cases hb : b[n]? with
   | none => rfl
   | some d => rw [hb] at hn; cases hn
  | some c =>
   rw [ha] at hn
   cases hb : b[n]? with
   | none => rw [hb] at hn; cases hn
   | some d =>
    rw [hb] at hn
    have hk : c.kind = d.kind := Option.some.inj hn
    dsimp only
    rw [hk]
theorem loopAt_addLv (l : List Cfr) (k : Nat) (x : Int) : loopAt (addLv l k x) = loopAt l := by
 unfold loopAt
 rw [addLv_len]
 exact loopFrom_congr (addLv_kind l k x) _
theorem loopAt_addL (xs : List Int) : ∀ l : List Cfr, loopAt (addL l xs) = loopAt l := by
 induction xs with
 | nil => exact fun l => rfl
 | cons x xs ih => exact fun l => (ih (addLv l (loopAt l).toNat x)).trans (loopAt_addLv _ _ _)
theorem addL_no {c : Cfr} (h : c.kind ≠ 3) : ∀ (xs : List Int) (l : List Cfr), (xs = [] ∨ 0 ≤ loopAt l) → addL (l ++ [c]) xs = addL l xs ++ [c]
 | [], l, _ => rfl
 | x :: xs, l, hl => by
  have h0 : 0 ≤ loopAt l := hl.resolve_left (by simp)
  show addL (addLv (l ++ [c]) (loopAt (l ++ [c])).toNat x) xs = addL (addLv l (loopAt l).toNat x) xs ++ [c]
  rw [loopAt_no l h, addLv_app c x (loopAt_lt h0)]
  exact addL_no h xs _ (.inr (by rw [loopAt_addLv]; exact h0))
theorem addL_3 {k at' : Int} (h : k = 3) (l : List Cfr) : ∀ (xs lv : List Int), addL (l ++ [⟨k, at', lv⟩]) xs = l ++ [⟨k, at', lv ++ xs⟩]
 | [], lv => by rw [List.append_nil]; rfl
 | x :: xs, lv => by
  show addL (addLv (l ++ [⟨k, at', lv⟩]) (loopAt (l ++ [⟨k, at', lv⟩])).toNat x) xs = _
  rw [loopAt_3 l (c := ⟨k, at', lv⟩) h, Int.toNat_natCast]
  have e : addLv (l ++ [⟨k, at', lv⟩]) l.length x = l ++ [⟨k, at', lv ++ [x]⟩] := by
   unfold addLv
   rw [List.getElem?_append_right (Nat.le_refl _), Nat.sub_self]
   show (l ++ [(⟨k, at', lv⟩ : Cfr)]).set l.length (⟨k, at', lv ++ [x]⟩ : Cfr) = _
   rw [List.set_append_right _ _ (Nat.le_refl _), Nat.sub_self]
   rfl
  rw [e, addL_3 h l xs (lv ++ [x]), List.append_assoc]
  rfl
theorem lastC_app (l : List Cfr) (c : Cfr) : lastC (l ++ [c]) = c := lastC_snoc l c
theorem lastK_app (l : List Cfr) (c : Cfr) : lastK (l ++ [c]) 0 = c.kind := by
 unfold lastK
 rw [if_neg (by rw [List.length_append, List.length_singleton]; omega), List.length_append, List.length_singleton, show l.length + 1 - 1 - 0 = l.length by omega, List.getElem?_append_right (Nat.le_refl _), Nat.sub_self]
 rfl
theorem lastK_app1 (l : List Cfr) (b c : Cfr) : lastK (l ++ [b] ++ [c]) 1 = b.kind := by
 unfold lastK
 rw [if_neg (by simp), List.length_append, List.length_append, List.length_singleton, List.length_singleton, show l.length + 1 + 1 - 1 - 1 = l.length by omega, List.getElem?_append_left (by rw [List.length_append, List.length_singleton]; omega), List.getElem?_append_right (Nat.le_refl _), Nat.sub_self]
 rfl
theorem take_app1 (l : List Cfr) (c : Cfr) : (l ++ [c]).take ((l ++ [c]).length - 1) = l := by
 rw [List.length_append, List.length_singleton, show l.length + 1 - 1 = l.length by omega, List.take_left]
theorem take_app2 (l : List Cfr) (b c : Cfr) : (l ++ [b] ++ [c]).take ((l ++ [b] ++ [c]).length - 2) = l := by
 rw [List.length_append, List.length_append, List.length_singleton, List.length_singleton, show l.length + 1 + 1 - 2 = l.length by omega, List.append_assoc, List.take_left]
theorem sec_app (l : List Cfr) (b c : Cfr) : (l ++ [b] ++ [c])[(l ++ [b] ++ [c]).length - 2]?.getD cf0 = b := by
 rw [List.length_append, List.length_append, List.length_singleton, List.length_singleton, show l.length + 1 + 1 - 2 = l.length by omega, List.getElem?_append_left (by rw [List.length_append, List.length_singleton]; omega), List.getElem?_append_right (Nat.le_refl _), Nat.sub_self]
 rfl
end Go.Proofs.YtfphgelollhdhaaGreat
namespace Go.Proofs.YtfphgelollhdhaaGreat
open Go Go.RowKit
open Go.Proofs.YtfphgelollhdhaaGreat.Dict (St Bs)
open Gen (Nod Xts codN codL oneS sizS mayM wr wr_in okD okDs loopsM guardM leafM cntN cntL cnt_ab sizS_bound oneS_bound)
set_option maxRecDepth 100000
structure Smt (s s' : Cs) (code : Int → List Int) (xs : List Int) : Prop where
 sg : Seg s.f s.h s'.f s'.h code xs
 l : s'.l = addL s.l xs
 ne : xs = [] ∨ 0 ≤ loopAt s.l
def Res (s : Cs) (its : List Itm) (code : Int → List Int) : Prop := ChF s its ∨ ∃ s' xs, Ch s its s' ∧ Smt s s' code xs
def P8 (k : Nat) : Int := ((8 * k : Nat) : Int)
def SimT (self : Int) (t : List Nod) : Prop := ∀ (m : Nat) (loops : Int) (s : Cs), m ≤ 16 → 0 ≤ loops → (∀ x, x ∈ t → mayM m x loops = true) → s.l.length ≤ 2 * (16 - m) → (0 < loops → 0 ≤ loopAt s.l) → (s.h : Int) + sizS t ≤ 512 → 171 ≤ s.h → Res s (itL self t) (fun en => codL XC self t (P8 s.h) en)
theorem Smt.comp {s s1 s2 : Cs} {c1 c2 : Int → List Int} {x1 x2 : List Int} (a : Smt s s1 c1 x1) (b : Smt s1 s2 c2 x2) : Smt s s2 (fun en => c1 en ++ c2 en) (x1 ++ x2) :=
 ⟨a.sg.app b.sg, by rw [b.l, a.l, addL_app], by
  rcases a.ne with e | e
  ·rcases b.ne with e2 | e2
   ·left; rw [e, e2]; rfl
   ·right; rw [a.l, e] at e2; exact e2
  ·exact .inr e⟩
theorem endsC_one (f : Nat → Int) (x : Int) (k : Nat) : endsC f x [P8 k] = updC f k x := by
 show updC f (P8 k / 8).toNat x = _
 unfold P8
 rw [show (((8 * k : Nat) : Int) / 8).toNat = k by omega]
theorem ends_one {k : Nat} (h : 171 ≤ k ∧ k < 512) : EndsR [P8 k] := fun a ha => ⟨k, h.1, h.2, List.mem_singleton.1 ha⟩
theorem ends_nil : EndsR [] := fun a ha => by cases ha
theorem not_in {xs : List Int} {h h' k : Nat} (hx : ∀ x, x ∈ xs → ∃ j : Nat, h ≤ j ∧ j < h' ∧ x = ((8 * j : Nat) : Int)) (hk : k < h ∨ h' ≤ k) : ((8 * k : Nat) : Int) ∉ xs := fun e => by
 obtain ⟨j, h1, h2, h3⟩ := hx _ e
 omega
theorem pl0 (s : Cs) : plS s 0 = ([xtD nZb, 0], [], s.l ++ [⟨1, P8 (s.h + 1), []⟩]) := by
 show ([xtD nZb, 0], [], s.l.take (s.l.length - 0) ++ [(⟨1, ((8 * s.h : Nat) : Int) + 8, []⟩ : Cfr)]) = _
 rw [Nat.sub_zero, List.take_length, show ((8 * s.h : Nat) : Int) + 8 = P8 (s.h + 1) by unfold P8; omega]
theorem pl1 {s : Cs} {L : List Cfr} {c : Cfr} (e : s.l = L ++ [c]) : plS s 1 = ([xtD nBr, 0], [c.at'], L ++ [⟨1, P8 (s.h + 1), []⟩]) := by
 show ([xtD nBr, 0], [(lastC s.l).at'], s.l.take (s.l.length - 1) ++ [(⟨1, ((8 * s.h : Nat) : Int) + 8, []⟩ : Cfr)]) = _
 rw [e, take_app1, lastC_app, show ((8 * s.h : Nat) : Int) + 8 = P8 (s.h + 1) by unfold P8; omega]
theorem pl2 {s : Cs} {L : List Cfr} {c : Cfr} (e : s.l = L ++ [c]) : plS s 2 = ([], [c.at'], L) := by
 show ([], [(lastC s.l).at'], s.l.take (s.l.length - 1) ++ []) = _
 rw [e, take_app1, lastC_app, List.append_nil]
theorem pl3 (s : Cs) : plS s 3 = ([], [], s.l ++ [⟨2, P8 s.h, []⟩]) := by
 show ([], [], s.l.take (s.l.length - 0) ++ [(⟨2, ((8 * s.h : Nat) : Int), []⟩ : Cfr)]) = _
 rw [Nat.sub_zero, List.take_length]
 rfl
theorem pl4 {s : Cs} {L : List Cfr} {c : Cfr} (e : s.l = L ++ [c]) : plS s 4 = ([xtD nZb, 0], [], L ++ [⟨1, P8 (s.h + 1), []⟩] ++ [c]) := by
 show ([xtD nZb, 0], [], s.l.take (s.l.length - 1) ++ [(⟨1, ((8 * s.h : Nat) : Int) + 8, []⟩ : Cfr), lastC s.l]) = _
 rw [e, take_app1, lastC_app, show ((8 * s.h : Nat) : Int) + 8 = P8 (s.h + 1) by unfold P8; omega, List.append_assoc]
 rfl
theorem pl5 {s : Cs} {L : List Cfr} {b c : Cfr} (e : s.l = L ++ [b] ++ [c]) : plS s 5 = ([xtD nBr, c.at'], [b.at'], L) := by
 show ([xtD nBr, (lastC s.l).at'], [(s.l[s.l.length - 2]?.getD cf0).at'], s.l.take (s.l.length - 2) ++ []) = _
 rw [e, take_app2, lastC_app, sec_app, List.append_nil]
theorem pl6 {s : Cs} {L : List Cfr} {c : Cfr} (e : s.l = L ++ [c]) : plS s 6 = ([xtD nZb, c.at'], [], L) := by
 show ([xtD nZb, (lastC s.l).at'], [], s.l.take (s.l.length - 1) ++ []) = _
 rw [e, take_app1, lastC_app, List.append_nil]
theorem pl7 {s : Cs} {L : List Cfr} {c : Cfr} (e : s.l = L ++ [c]) : plS s 7 = ([xtD nBr, c.at'], [], L) := by
 show ([xtD nBr, (lastC s.l).at'], [], s.l.take (s.l.length - 1) ++ []) = _
 rw [e, take_app1, lastC_app, List.append_nil]
theorem pl8 (s : Cs) : plS s 8 = ([xtD nDo], [], s.l ++ [⟨3, P8 (s.h + 1), []⟩]) := by
 show ([xtD nDo], [], s.l.take (s.l.length - 0) ++ [(⟨3, ((8 * s.h : Nat) : Int) + 8, []⟩ : Cfr)]) = _
 rw [Nat.sub_zero, List.take_length, show ((8 * s.h : Nat) : Int) + 8 = P8 (s.h + 1) by unfold P8; omega]
theorem pl9 (s : Cs) : plS s 9 = ([xtD nQdo, 0], [], s.l ++ [⟨3, P8 (s.h + 2), [P8 (s.h + 1)]⟩]) := by
 show ([xtD nQdo, 0], [], s.l.take (s.l.length - 0) ++ [(⟨3, ((8 * s.h : Nat) : Int) + 16, [((8 * s.h : Nat) : Int) + 8]⟩ : Cfr)]) = _
 rw [Nat.sub_zero, List.take_length, show ((8 * s.h : Nat) : Int) + 8 = P8 (s.h + 1) by unfold P8; omega, show ((8 * s.h : Nat) : Int) + 16 = P8 (s.h + 2) by unfold P8; omega]
theorem pl10 {s : Cs} {L : List Cfr} {c : Cfr} (e : s.l = L ++ [c]) : plS s 10 = ([xtD nLp, c.at'], c.lv, L) := by
 show ([xtD nLp, (lastC s.l).at'], (lastC s.l).lv, s.l.take (s.l.length - 1) ++ []) = _
 rw [e, take_app1, lastC_app, List.append_nil]
theorem pl11 {s : Cs} {L : List Cfr} {c : Cfr} (e : s.l = L ++ [c]) : plS s 11 = ([xtD nPl, c.at'], c.lv, L) := by
 show ([xtD nPl, (lastC s.l).at'], (lastC s.l).lv, s.l.take (s.l.length - 1) ++ []) = _
 rw [e, take_app1, lastC_app, List.append_nil]
theorem pl12 (s : Cs) : plS s 12 = ([xtD nUn, xtD nBr, 0], [], addLv s.l (loopAt s.l).toNat (P8 (s.h + 2))) := by
 show ([xtD nUn, xtD nBr, 0], [], addLv s.l (loopAt s.l).toNat (((8 * s.h : Nat) : Int) + 16)) = _
 rw [show ((8 * s.h : Nat) : Int) + 16 = P8 (s.h + 2) by unfold P8; omega]
theorem brS_of {s : Cs} {i : Nat} {cs ends : List Int} {l : List Cfr} (e : plS s i = (cs, ends, l)) : brS s i = ⟨endsC (lay s.f s.h cs) (P8 (s.h + cs.length)) ends, s.h + cs.length, l⟩ := by
 unfold brS
 rw [e]
 rfl
theorem brOk_of {s : Cs} {i : Nat} {cs ends : List Int} {l : List Cfr} (e : plS s i = (cs, ends, l)) (hi : i < 13) (hf : FitC i s.l) (hr : s.h + cs.length ≤ 512) (he : EndsR ends) : BrOk s i :=
 ⟨hi, hf, by rw [e]; exact hr, by rw [e]; exact he⟩
theorem Res.lay (s : Cs) (cs : List Int) (h : s.h + cs.length ≤ 512) : Res s [.lay cs] (fun _ => cs) :=
 .inr ⟨layS s cs, [], .lay h (.nil _), ⟨Seg.lay _ _ _, rfl, .inl rfl⟩⟩
theorem ne_no {xs : List Int} {l : List Cfr} {c : Cfr} (hk : c.kind ≠ 3) (h : xs = [] ∨ 0 ≤ loopAt (l ++ [c])) : xs = [] ∨ 0 ≤ loopAt l := by
 rw [loopAt_no l hk] at h
 exact h
theorem siz_nat (t : List Nod) : ∃ n : Nat, sizS t = n := ⟨(sizS t).toNat, by have := (sizS_bound t).1; omega⟩
theorem sim_30 {self : Int} {a : List Nod} (ha : SimT self a) {m : Nat} {loops : Int} {s : Cs} (hm : m + 1 ≤ 16) (h0 : 0 ≤ loops) (ka : ∀ x, x ∈ a → mayM m x loops = true) (oa : okDs a = true) (hl : s.l.length ≤ 2 * (16 - (m + 1))) (hp : 0 < loops → 0 ≤ loopAt s.l) {na : Nat} (en : sizS a = na) (hs : s.h + 2 + na ≤ 512) (h171 : 171 ≤ s.h) :
  Res s (.br 0 :: (itL self a ++ [.br 2])) (fun en => [xtD nZb, P8 (s.h + 2 + na)] ++ codL XC self a (P8 (s.h + 2)) en) := by
 have p0 := pl0 s
 have e0 := brS_of p0
 have b0 := brOk_of p0 (by omega) (show s.l.length < 32 by omega) (by show s.h + 2 ≤ 512; omega) ends_nil
 have k1 : (1 : Int) ≠ 3 := by decide
 rcases ha m loops (brS s 0) (by omega) h0 ka (by rw [e0]; show (s.l ++ [_]).length ≤ _; rw [List.length_append, List.length_singleton]; omega) (fun h => by rw [e0]; show 0 ≤ loopAt (s.l ++ [_]); rw [loopAt_no _ k1]; exact hp h) (by rw [e0, en]; show ((s.h + 2 : Nat) : Int) + na ≤ 512; omega) (by rw [e0]; show 171 ≤ s.h + 2; omega) with hF | ⟨s2, xa, hC, hS⟩
 ·exact .inl (.br b0 (hF.app _))
 have hsg := hS.sg
 have hln := fun en' => hsg.ln en'
 rw [e0] at hsg hln
 have h2 : s2.h = s.h + 2 + na := by
  have h3 := Gen.codL_len XC self a (P8 (brS s 0).h) 0 oa
  have h4 := hS.sg.ln 0
  rw [e0] at h3 h4
  have h5 : s2.h = s.h + 2 + (codL XC self a (P8 (s.h + 2)) 0).length := h4
  have h6 : (((codL XC self a (P8 (s.h + 2)) 0).length : Nat) : Int) = sizS a := h3
  omega
 have hl2 : s2.l = addL s.l xa ++ [⟨1, P8 (s.h + 1), []⟩] := by
  have h3 := hS.l
  have h4 := hS.ne
  rw [e0] at h3 h4
  exact h3.trans (addL_no k1 xa s.l (ne_no k1 h4))
 have hne : xa = [] ∨ 0 ≤ loopAt s.l := by
  have h4 := hS.ne
  rw [e0] at h4
  exact ne_no k1 h4
 have p2 := pl2 hl2
 have e2 := brS_of p2
 have b2 := brOk_of p2 (by omega) (show lastK s2.l 0 = 1 by rw [hl2, lastK_app]) (by show s2.h + 0 ≤ 512; omega) (ends_one (show 171 ≤ s.h + 1 ∧ s.h + 1 < 512 by omega))
 refine .inr ⟨brS s2 2, xa, .br b0 (hC.app (.br b2 (.nil _))), ⟨?_, by rw [e2], hne⟩⟩
 rw [e2]
 show Seg s.f s.h (endsC s2.f (P8 (s2.h + 0)) [P8 (s.h + 1)]) (s2.h + 0) _ xa
 rw [endsC_one, h2]
 have h7 := (Seg.lay s.f s.h [xtD nZb, 0]).app hsg
 rw [h2] at h7
 exact Seg.patch h7 (s.h + 1) _ (by omega) (not_in (h := s.h + 2) (fun x hx => hsg.xr x hx) (.inl (by omega))) (fun en => by rw [show s.h + 1 - s.h = 1 by omega]; rfl)
theorem inner {self : Int} {a : List Nod} (ha : SimT self a) (oa : okDs a = true) {m : Nat} {loops : Int} {f : Nat → Int} {h : Nat} {l : List Cfr} (hm : m ≤ 16) (h0 : 0 ≤ loops) (ka : ∀ x, x ∈ a → mayM m x loops = true) (hl : l.length ≤ 2 * (16 - m)) (hp : 0 < loops → 0 ≤ loopAt l) {na : Nat} (en : sizS a = na) (hs : h + na ≤ 512) (h171 : 171 ≤ h) :
  ChF ⟨f, h, l⟩ (itL self a) ∨ ∃ f2 xa, Ch ⟨f, h, l⟩ (itL self a) ⟨f2, h + na, addL l xa⟩ ∧ Seg f h f2 (h + na) (fun en => codL XC self a (P8 h) en) xa ∧ (xa = [] ∨ 0 ≤ loopAt l) := by
 rcases ha m loops ⟨f, h, l⟩ hm h0 ka hl hp (by rw [en]; show ((h : Nat) : Int) + na ≤ 512; omega) h171 with hF | ⟨s2, xa, hC, hS⟩
 ·exact .inl hF
 have h2 : s2.h = h + na := by
  have h3 := Gen.codL_len XC self a (P8 h) 0 oa
  have h4 : s2.h = h + (codL XC self a (P8 h) 0).length := hS.sg.ln 0
  omega
 have h5 : s2.l = addL l xa := hS.l
 obtain ⟨f2, g2, l2⟩ := s2
 dsimp only at h2 h5
 subst h2
 subst h5
 exact .inr ⟨f2, xa, hC, hS.sg, hS.ne⟩
theorem k1 : (1 : Int) ≠ 3 := by decide
theorem k2 : (2 : Int) ≠ 3 := by decide
theorem len_add (l : List Cfr) (c : Cfr) : (l ++ [c]).length = l.length + 1 := by rw [List.length_append, List.length_singleton]
theorem set_at1 {α : Type} (a b : List α) (u v : α) (n : Nat) (h : n = a.length) : (a ++ u :: b).set n v = a ++ v :: b := by
 subst h
 rw [List.set_append_right _ _ (Nat.le_refl _), Nat.sub_self]
 rfl
theorem sim_31 {self : Int} {a b : List Nod} (ha : SimT self a) (hb : SimT self b) {m : Nat} {loops : Int} {s : Cs} (hm : m + 1 ≤ 16) (h0 : 0 ≤ loops) (ka : ∀ x, x ∈ a → mayM m x loops = true) (kb : ∀ x, x ∈ b → mayM m x loops = true) (oa : okDs a = true) (ob : okDs b = true) (hl : s.l.length ≤ 2 * (16 - (m + 1))) (hp : 0 < loops → 0 ≤ loopAt s.l) {na nb : Nat} (ea : sizS a = na) (eb : sizS b = nb) (hs : s.h + 2 + na + 2 + nb ≤ 512) (h171 : 171 ≤ s.h) :
  Res s (.br 0 :: (itL self a ++ (.br 1 :: (itL self b ++ [.br 2])))) (fun en => [xtD nZb, P8 (s.h + 2 + na + 2)] ++ codL XC self a (P8 (s.h + 2)) en ++ [xtD nBr, P8 (s.h + 2 + na + 2 + nb)] ++ codL XC self b (P8 (s.h + 2 + na + 2)) en) := by
 have p0 := pl0 s
 have e0 := brS_of p0
 have b0 := brOk_of p0 (by omega) (show s.l.length < 32 by omega) (by show s.h + 2 ≤ 512; omega) ends_nil
 rcases inner (f := lay s.f s.h [xtD nZb, 0]) (h := s.h + 2) (l := s.l ++ [⟨1, P8 (s.h + 1), []⟩]) ha oa (by omega) h0 ka (by rw [len_add]; omega) (fun h => by rw [loopAt_no _ k1]; exact hp h) ea (by omega) (by omega) with hF | ⟨f2, xa, hC, hg, hx⟩
 ·exact .inl (.br b0 (by rw [e0]; exact ChF.app _ hF))
 have hx := ne_no k1 hx
 rw [addL_no k1 xa s.l hx] at hC
 have p1 := pl1 (s := ⟨f2, s.h + 2 + na, addL s.l xa ++ [⟨1, P8 (s.h + 1), []⟩]⟩) rfl
 have e1 := brS_of p1
 have b1 := brOk_of p1 (by omega) (show lastK _ 0 = 1 by rw [lastK_app]) (by show s.h + 2 + na + 2 ≤ 512; omega) (ends_one (show 171 ≤ s.h + 1 ∧ s.h + 1 < 512 by omega))
 have hlp : 0 < loops → 0 ≤ loopAt (addL s.l xa) := fun h => by rw [loopAt_addL]; exact hp h
 rcases inner (f := endsC (lay f2 (s.h + 2 + na) [xtD nBr, 0]) (P8 (s.h + 2 + na + 2)) [P8 (s.h + 1)]) (h := s.h + 2 + na + 2) (l := addL s.l xa ++ [⟨1, P8 (s.h + 2 + na + 1), []⟩]) hb ob (by omega) h0 kb (by rw [len_add, addL_len]; omega) (fun h => by rw [loopAt_no _ k1]; exact hlp h) eb (by omega) (by omega) with hF | ⟨f4, xb, hD, hh, hy⟩
 ·exact .inl (.br b0 (by rw [e0]; exact hC.appF (.br b1 (by rw [e1]; exact ChF.app _ hF))))
 have hy := ne_no k1 hy
 rw [addL_no k1 xb _ hy] at hD
 have p2 := pl2 (s := ⟨f4, s.h + 2 + na + 2 + nb, addL (addL s.l xa) xb ++ [⟨1, P8 (s.h + 2 + na + 1), []⟩]⟩) rfl
 have e2 := brS_of p2
 have b2 := brOk_of p2 (by omega) (show lastK _ 0 = 1 by rw [lastK_app]) (by show s.h + 2 + na + 2 + nb + 0 ≤ 512; omega) (ends_one (show 171 ≤ s.h + 2 + na + 1 ∧ s.h + 2 + na + 1 < 512 by omega))
 refine .inr ⟨_, xa ++ xb, .br b0 (by rw [e0]; exact hC.app (.br b1 (by rw [e1]; exact hD.app (.br b2 (.nil _))))), ⟨?_, by rw [e2, addL_app], ?_⟩⟩
 ·rw [e2]
  show Seg s.f s.h (endsC f4 (P8 (s.h + 2 + na + 2 + nb + 0)) [P8 (s.h + 2 + na + 1)]) (s.h + 2 + na + 2 + nb + 0) _ _
  rw [endsC_one] at hh ⊢
  have h7 := ((Seg.lay s.f s.h [xtD nZb, 0]).app hg).app (Seg.lay f2 (s.h + 2 + na) [xtD nBr, 0])
  have h8 : Seg s.f s.h (updC (lay f2 (s.h + 2 + na) [xtD nBr, 0]) (s.h + 1) (P8 (s.h + 2 + na + 2))) (s.h + 2 + na + 2) (fun en => [xtD nZb, P8 (s.h + 2 + na + 2)] ++ codL XC self a (P8 (s.h + 2)) en ++ [xtD nBr, 0]) ([] ++ xa ++ []) :=
   Seg.patch h7 (s.h + 1) _ (by omega) (by rw [List.append_nil, List.nil_append]; exact not_in (h := s.h + 2) (fun x hx => hg.xr x hx) (.inl (by omega))) (fun en => by rw [show s.h + 1 - s.h = 1 by omega]; rfl)
  have h9 := h8.app hh
  rw [List.append_nil, List.nil_append] at h9
  refine Seg.patch h9 (s.h + 2 + na + 1) _ (by omega) (fun e => ?_) (fun en => ?_)
  ·rcases List.mem_append.1 e with e | e
   ·exact not_in (h := s.h + 2) (fun x hx => hg.xr x hx) (.inr (by omega)) e
   ·exact not_in (h := s.h + 2 + na + 2) (fun x hx => hh.xr x hx) (.inl (by omega)) e
  ·have hla : (codL XC self a (P8 (s.h + 2)) en).length = na := by
    have := Gen.codL_len XC self a (P8 (s.h + 2)) en oa
    omega
   show _ = ([xtD nZb, P8 (s.h + 2 + na + 2)] ++ codL XC self a (P8 (s.h + 2)) en ++ [xtD nBr, 0] ++ codL XC self b (P8 (s.h + 2 + na + 2)) en).set (s.h + 2 + na + 1 - s.h) _
   rw [List.append_assoc _ [xtD nBr, 0], show [xtD nBr, 0] ++ codL XC self b (P8 (s.h + 2 + na + 2)) en = [xtD nBr] ++ (0 :: codL XC self b (P8 (s.h + 2 + na + 2)) en) from rfl, ← List.append_assoc, set_at1 _ _ _ _ _ (by simp only [List.length_append, List.length_cons, List.length_nil, hla]; omega)]
   simp only [List.append_assoc]
   rfl
 ·rcases hx with e | e
  ·rcases hy with e' | e'
   ·left; rw [e, e']; rfl
   ·right; rw [loopAt_addL] at e'; exact e'
  ·exact .inr e
theorem set_at2 {α : Type} (A B C : List α) (z u v : α) (n : Nat) (h : n = A.length + 1) : (A ++ [z, u] ++ B ++ C).set n v = A ++ [z, v] ++ B ++ C := by
 have e : ∀ w : α, A ++ [z, w] ++ B ++ C = (A ++ [z]) ++ w :: (B ++ C) := fun w => by simp
 rw [e u, e v]
 exact set_at1 _ _ _ _ _ (by rw [List.length_append, List.length_singleton, h])
theorem sim_45 {self : Int} {a : List Nod} (ha : SimT self a) {m : Nat} {loops : Int} {s : Cs} (i : Nat) (X : Int) (hi : (i = 6 ∧ X = xtD nZb) ∨ (i = 7 ∧ X = xtD nBr)) (hm : m + 1 ≤ 16) (h0 : 0 ≤ loops) (ka : ∀ x, x ∈ a → mayM m x loops = true) (oa : okDs a = true) (hl : s.l.length ≤ 2 * (16 - (m + 1))) (hp : 0 < loops → 0 ≤ loopAt s.l) {na : Nat} (ea : sizS a = na) (hs : s.h + na + 2 ≤ 512) (h171 : 171 ≤ s.h) :
  Res s (.br 3 :: (itL self a ++ [.br i])) (fun en => codL XC self a (P8 s.h) en ++ [X, P8 s.h]) := by
 have p0 := pl3 s
 have e0 := brS_of p0
 have b0 := brOk_of p0 (by omega) (show s.l.length < 32 by omega) (by show s.h + 0 ≤ 512; omega) ends_nil
 rcases inner (f := s.f) (h := s.h) (l := s.l ++ [⟨2, P8 s.h, []⟩]) ha oa (by omega) h0 ka (by rw [len_add]; omega) (fun h => by rw [loopAt_no _ k2]; exact hp h) ea (by omega) (by omega) with hF | ⟨f2, xa, hC, hg, hx⟩
 ·exact .inl (.br b0 (by rw [e0]; exact ChF.app _ hF))
 have hx := ne_no k2 hx
 rw [addL_no k2 xa s.l hx] at hC
 have fit : FitC i (addL s.l xa ++ [(⟨2, P8 s.h, []⟩ : Cfr)]) := by
  rcases hi with ⟨rfl, _⟩ | ⟨rfl, _⟩
  ·show lastK _ 0 = 2; rw [lastK_app]
  ·show lastK _ 0 = 2; rw [lastK_app]
 have p2 : plS ⟨f2, s.h + na, addL s.l xa ++ [⟨2, P8 s.h, []⟩]⟩ i = ([X, P8 s.h], [], addL s.l xa) := by
  rcases hi with ⟨rfl, rfl⟩ | ⟨rfl, rfl⟩
  ·exact pl6 (L := addL s.l xa) (c := ⟨2, P8 s.h, []⟩) rfl
  ·exact pl7 (L := addL s.l xa) (c := ⟨2, P8 s.h, []⟩) rfl
 have e2 := brS_of p2
 have b2 := brOk_of p2 (by omega) fit (by show s.h + na + 2 ≤ 512; omega) ends_nil
 refine .inr ⟨_, xa, .br b0 (by rw [e0]; exact hC.app (.br b2 (.nil _))), ⟨?_, by rw [e2], hx⟩⟩
 rw [e2]
 have h7 := hg.app (Seg.lay f2 (s.h + na) [X, P8 s.h])
 rw [List.append_nil] at h7
 exact h7
theorem sim_6 {self : Int} {a b : List Nod} (ha : SimT self a) (hb : SimT self b) {m : Nat} {loops : Int} {s : Cs} (hm : m + 1 ≤ 16) (h0 : 0 ≤ loops) (ka : ∀ x, x ∈ a → mayM m x loops = true) (kb : ∀ x, x ∈ b → mayM m x loops = true) (oa : okDs a = true) (ob : okDs b = true) (hl : s.l.length ≤ 2 * (16 - (m + 1))) (hp : 0 < loops → 0 ≤ loopAt s.l) {na nb : Nat} (ea : sizS a = na) (eb : sizS b = nb) (hs : s.h + na + 2 + nb + 2 ≤ 512) (h171 : 171 ≤ s.h) :
  Res s (.br 3 :: (itL self a ++ (.br 4 :: (itL self b ++ [.br 5])))) (fun en => codL XC self a (P8 s.h) en ++ [xtD nZb, P8 (s.h + na + 2 + nb + 2)] ++ codL XC self b (P8 (s.h + na + 2)) en ++ [xtD nBr, P8 s.h]) := by
 have p0 := pl3 s
 have e0 := brS_of p0
 have b0 := brOk_of p0 (by omega) (show s.l.length < 32 by omega) (by show s.h + 0 ≤ 512; omega) ends_nil
 rcases inner (f := s.f) (h := s.h) (l := s.l ++ [⟨2, P8 s.h, []⟩]) ha oa (by omega) h0 ka (by rw [len_add]; omega) (fun h => by rw [loopAt_no _ k2]; exact hp h) ea (by omega) (by omega) with hF | ⟨f2, xa, hC, hg, hx⟩
 ·exact .inl (.br b0 (by rw [e0]; exact ChF.app _ hF))
 have hx := ne_no k2 hx
 rw [addL_no k2 xa s.l hx] at hC
 have p1 := pl4 (s := ⟨f2, s.h + na, addL s.l xa ++ [⟨2, P8 s.h, []⟩]⟩) rfl
 have e1 := brS_of p1
 have fit4 : FitC 4 (addL s.l xa ++ [(⟨2, P8 s.h, []⟩ : Cfr)]) := by
  show lastK _ 0 = 2 ∧ List.length _ < 32
  exact ⟨lastK_app _ _, by rw [len_add, addL_len]; omega⟩
 have b1 := brOk_of p1 (by omega) fit4 (by show s.h + na + 2 ≤ 512; omega) ends_nil
 have hlp : 0 < loops → 0 ≤ loopAt (addL s.l xa) := fun h => by rw [loopAt_addL]; exact hp h
 rcases inner (f := lay f2 (s.h + na) [xtD nZb, 0]) (h := s.h + na + 2) (l := addL s.l xa ++ [⟨1, P8 (s.h + na + 1), []⟩] ++ [⟨2, P8 s.h, []⟩]) hb ob (by omega) h0 kb (by rw [len_add, len_add, addL_len]; omega) (fun h => by rw [loopAt_no _ k2, loopAt_no _ k1]; exact hlp h) eb (by omega) (by omega) with hF | ⟨f4, xb, hD, hh, hy⟩
 ·exact .inl (.br b0 (by rw [e0]; exact hC.appF (.br b1 (by rw [e1]; exact ChF.app _ hF))))
 have hy1 := ne_no k2 hy
 have hy := ne_no k1 hy1
 rw [addL_no k2 xb _ hy1, addL_no k1 xb _ hy] at hD
 have p2 := pl5 (s := ⟨f4, s.h + na + 2 + nb, addL (addL s.l xa) xb ++ [⟨1, P8 (s.h + na + 1), []⟩] ++ [⟨2, P8 s.h, []⟩]⟩) rfl
 have e2 := brS_of p2
 have fit5 : FitC 5 (addL (addL s.l xa) xb ++ [(⟨1, P8 (s.h + na + 1), []⟩ : Cfr)] ++ [(⟨2, P8 s.h, []⟩ : Cfr)]) := by
  show lastK _ 0 = 2 ∧ lastK _ 1 = 1
  exact ⟨lastK_app _ _, lastK_app1 _ _ _⟩
 have b2 := brOk_of p2 (by omega) fit5 (by show s.h + na + 2 + nb + 2 ≤ 512; omega) (ends_one (show 171 ≤ s.h + na + 1 ∧ s.h + na + 1 < 512 by omega))
 refine .inr ⟨_, xa ++ xb, .br b0 (by rw [e0]; exact hC.app (.br b1 (by rw [e1]; exact hD.app (.br b2 (.nil _))))), ⟨?_, by rw [e2, addL_app], ?_⟩⟩
 ·rw [e2]
  show Seg s.f s.h (endsC (lay f4 (s.h + na + 2 + nb) [xtD nBr, P8 s.h]) (P8 (s.h + na + 2 + nb + 2)) [P8 (s.h + na + 1)]) (s.h + na + 2 + nb + 2) _ _
  rw [endsC_one]
  have h7 := ((hg.app (Seg.lay f2 (s.h + na) [xtD nZb, 0])).app hh).app (Seg.lay f4 (s.h + na + 2 + nb) [xtD nBr, P8 s.h])
  rw [List.append_nil, List.append_nil] at h7
  refine Seg.patch h7 (s.h + na + 1) _ (by omega) (fun e => ?_) (fun en => ?_)
  ·rcases List.mem_append.1 e with e | e
   ·exact not_in (h := s.h) (fun x hx => hg.xr x hx) (.inr (by omega)) e
   ·exact not_in (h := s.h + na + 2) (fun x hx => hh.xr x hx) (.inl (by omega)) e
  ·have hla : (codL XC self a (P8 s.h) en).length = na := by
    have := Gen.codL_len XC self a (P8 s.h) en oa
    omega
   show _ = (codL XC self a (P8 s.h) en ++ [xtD nZb, 0] ++ codL XC self b (P8 (s.h + na + 2)) en ++ [xtD nBr, P8 s.h]).set (s.h + na + 1 - s.h) _
   exact (set_at2 _ _ _ _ _ _ _ (by rw [hla]; omega)).symm
 ·rcases hx with e | e
  ·rcases hy with e' | e'
   ·left; rw [e, e']; rfl
   ·right; rw [loopAt_addL] at e'; exact e'
  ·exact .inr e
theorem ends_xs {h h' : Nat} {xs : List Int} (hx : ∀ x, x ∈ xs → ∃ j : Nat, h ≤ j ∧ j < h' ∧ x = ((8 * j : Nat) : Int)) (hh : h' ≤ 512) (hl : 171 ≤ h) : EndsR xs := fun a ha => by
 obtain ⟨j, h1, h2, h3⟩ := hx a ha
 exact ⟨j, by omega, by omega, h3⟩
theorem sim_7 {self : Int} {a : List Nod} (ha : SimT self a) {m : Nat} {loops : Int} {s : Cs} (j i : Nat) (Y : Int) (hd : List Int) (hdE : Int → List Int) (lv : List Int) (hj : (j = 8 ∧ hd = [xtD nDo] ∧ hdE = (fun _ => [xtD nDo]) ∧ lv = []) ∨ (j = 9 ∧ hd = [xtD nQdo, 0] ∧ hdE = (fun en => [xtD nQdo, en]) ∧ lv = [P8 (s.h + 1)])) (hi : (i = 10 ∧ Y = xtD nLp) ∨ (i = 11 ∧ Y = xtD nPl)) (hm : m + 1 ≤ 16) (h0 : 0 ≤ loops) (ka : ∀ x, x ∈ a → mayM m x (loops + 1) = true) (oa : okDs a = true) (hl : s.l.length ≤ 2 * (16 - (m + 1))) {na : Nat} (ea : sizS a = na) (hs : s.h + hd.length + na + 2 ≤ 512) (h171 : 171 ≤ s.h) :
  Res s (.br j :: (itL self a ++ [.br i])) (fun _ => hdE (P8 (s.h + hd.length + na + 2)) ++ codL XC self a (P8 (s.h + hd.length)) (P8 (s.h + hd.length + na + 2)) ++ [Y, P8 (s.h + hd.length)]) := by
 have p0 : plS s j = (hd, [], s.l ++ [⟨3, P8 (s.h + hd.length), lv⟩]) := by
  rcases hj with ⟨rfl, rfl, _, rfl⟩ | ⟨rfl, rfl, _, rfl⟩
  ·exact pl8 s
  ·exact pl9 s
 have hsg : Seg s.f s.h (lay s.f s.h hd) (s.h + hd.length) hdE lv := by
  rcases hj with ⟨_, rfl, rfl, rfl⟩ | ⟨_, rfl, rfl, rfl⟩
  ·exact Seg.lay _ _ _
  ·exact Seg.layE s.f s.h [xtD nQdo] 0
 have fit0 : FitC j s.l := by
  rcases hj with ⟨rfl, _⟩ | ⟨rfl, _⟩
  ·show s.l.length < 32; omega
  ·show s.l.length < 32; omega
 have e0 := brS_of p0
 have b0 := brOk_of p0 (by omega) fit0 (by omega) ends_nil
 rcases inner (f := lay s.f s.h hd) (h := s.h + hd.length) (l := s.l ++ [⟨3, P8 (s.h + hd.length), lv⟩]) ha oa (by omega) (show 0 ≤ loops + 1 by omega) ka (by rw [len_add]; omega) (fun h => by rw [loopAt_3 _ rfl]; omega) ea (by omega) (by omega) with hF | ⟨f2, xa, hC, hg, hx⟩
 ·exact .inl (.br b0 (by rw [e0]; exact ChF.app _ hF))
 rw [addL_3 rfl s.l xa lv] at hC
 have fit : FitC i (s.l ++ [(⟨3, P8 (s.h + hd.length), lv ++ xa⟩ : Cfr)]) := by
  rcases hi with ⟨rfl, _⟩ | ⟨rfl, _⟩
  ·show lastK _ 0 = 3; rw [lastK_app]
  ·show lastK _ 0 = 3; rw [lastK_app]
 have p2 : plS ⟨f2, s.h + hd.length + na, s.l ++ [⟨3, P8 (s.h + hd.length), lv ++ xa⟩]⟩ i = ([Y, P8 (s.h + hd.length)], lv ++ xa, s.l) := by
  rcases hi with ⟨rfl, rfl⟩ | ⟨rfl, rfl⟩
  ·exact pl10 (L := s.l) (c := ⟨3, P8 (s.h + hd.length), lv ++ xa⟩) rfl
  ·exact pl11 (L := s.l) (c := ⟨3, P8 (s.h + hd.length), lv ++ xa⟩) rfl
 have h7 := (hsg.app hg).app (Seg.lay f2 (s.h + hd.length + na) [Y, P8 (s.h + hd.length)])
 rw [List.append_nil] at h7
 have e2 := brS_of p2
 have b2 := brOk_of p2 (by omega) fit (by show s.h + hd.length + na + 2 ≤ 512; omega) (ends_xs (h := s.h) (h' := s.h + hd.length + na + 2) h7.xr (by omega) (by omega))
 refine .inr ⟨_, [], .br b0 (by rw [e0]; exact hC.app (.br b2 (.nil _))), ⟨?_, by rw [e2]; rfl, .inl rfl⟩⟩
 rw [e2]
 exact Seg.ends h7 _
theorem sim_9 {self : Int} {s : Cs} (hp : 0 ≤ loopAt s.l) (hs : s.h + 3 ≤ 512) : Res s [.br 12] (fun en => [xtD nUn, xtD nBr, en]) := by
 by_cases hf : FitC 12 s.l
 ·have p0 := pl12 s
  have e0 := brS_of p0
  have b0 := brOk_of p0 (by omega) hf (by show s.h + 3 ≤ 512; omega) ends_nil
  refine .inr ⟨_, [P8 (s.h + 2)], .br b0 (.nil _), ⟨?_, by rw [e0]; rfl, .inr hp⟩⟩
  rw [e0]
  exact Seg.layE s.f s.h [xtD nUn, xtD nBr] 0
 ·exact .inl (.here hf)
end Go.Proofs.YtfphgelollhdhaaGreat
namespace Go.Proofs.YtfphgelollhdhaaGreat
open Go Go.RowKit
open Go.Proofs.YtfphgelollhdhaaGreat.Dict (St Bs)
open Gen (Nod Xts codN codL oneS sizS mayM wr wr_in okD okDs loopsM guardM leafM cntN cntL cnt_ab sizS_bound oneS_bound codN_eq oneS_eq okD_ab may_ok)
set_option maxRecDepth 100000
theorem Res.to {s : Cs} {its its' : List Itm} {c c' : Int → List Int} (h : Res s its c) (hi : its' = its) (e : ∀ en, c' en = c en) : Res s its' c' := by
 rw [hi, show c' = c from funext e]
 exact h
theorem mayN_9 {m : Nat} {x : Nod} {loops : Int} (h : mayM m x loops = true) (hk : x.k = 9) : 0 < loops := by
 rw [Gen.mayM.eq_def] at h
 dsimp only at h
 rw [if_pos (by rw [hk]; decide)] at h
 unfold leafM at h
 rw [if_neg (by rw [hk]; decide), if_pos hk] at h
 simp only [Bool.and_eq_true, decide_eq_true_eq] at h
 exact h.2.2
theorem mayN_br {m : Nat} {x : Nod} {loops : Int} (h : mayM m x loops = true) (hk : ¬ (x.k = 1 ∨ x.k = 2 ∨ x.k = 9 ∨ x.k = 10 ∨ x.k = 11)) : ∃ m', m = m' + 1 ∧ (∀ y, y ∈ x.a → mayM m' y (loopsM x loops) = true) ∧ (∀ y, y ∈ x.b → mayM m' y (loopsM x loops) = true) := by
 rw [Gen.mayM.eq_def] at h
 dsimp only at h
 rw [if_neg hk, Bool.and_eq_true] at h
 cases m with
 | zero => exact absurd h.2 (by simp)
 | succ m =>
  have h2 := h.2
  simp only [Bool.and_eq_true, List.all_eq_true] at h2
  exact ⟨m, rfl, h2.1, h2.2⟩
theorem wrp (h : Nat) (z : Int) (k : Nat) (e : P8 h + z = P8 k) (hk : k ≤ 100000) : wr (P8 h + z) = P8 k := by
 rw [e, wr_in (by unfold P8; omega)]
theorem simX {self : Int} (x : Nod) (ha : SimT self x.a) (hb : SimT self x.b) {m : Nat} {loops : Int} {s : Cs} (hm : m ≤ 16) (h0 : 0 ≤ loops) (hmay : mayM m x loops = true) (hl : s.l.length ≤ 2 * (16 - m)) (hp : 0 < loops → 0 ≤ loopAt s.l) (hs : (s.h : Int) + oneS x ≤ 512) (h171 : 171 ≤ s.h) : Res s (itN self x) (fun en => codN XC self x (P8 s.h) en) := by
 have ok := may_ok m x loops hmay
 obtain ⟨oa, ob⟩ := okD_ab ok
 obtain ⟨na, ea⟩ := siz_nat x.a
 obtain ⟨nb, eb⟩ := siz_nat x.b
 have ho := oneS_eq x
 have hc := Gen.okD_cases ok
 have hi := itN_eq self x
 have hcd := fun en => codN_eq XC self x (P8 s.h) en
 by_cases h1 : x.k = 1
 ·rw [if_pos h1] at ho hi
  exact (Res.lay s [xtD nLit, x.n] (by show s.h + 2 ≤ 512; omega)).to hi (fun en => by rw [hcd en, if_pos h1]; rfl)
 rw [if_neg h1] at ho hi
 by_cases h2 : x.k = 2
 ·rw [if_pos h2] at hi
  rw [if_neg (by omega), if_neg (by omega), if_neg (by omega), if_neg (by omega), if_neg (by omega)] at ho
  exact (Res.lay s [x.n] (by show s.h + 1 ≤ 512; omega)).to hi (fun en => by rw [hcd en, if_neg h1, if_pos h2])
 rw [if_neg h2] at hi
 by_cases h9 : x.k = 9
 ·rw [if_neg (by omega), if_neg (by omega), if_neg (by omega), if_neg (by omega), if_neg (by omega), if_pos h9] at hi
  rw [if_neg (by omega), if_neg (by omega), if_neg (by omega), if_neg (by omega), if_pos h9] at ho
  exact (sim_9 (self := self) (hp (mayN_9 hmay h9)) (by omega)).to hi (fun en => by rw [hcd en, if_neg h1, if_neg h2, if_neg (by omega), if_neg (by omega), if_neg (by omega), if_neg (by omega), if_neg (by omega), if_pos h9]; rfl)
 by_cases h10 : x.k = 10
 ·rw [if_neg (by omega), if_neg (by omega), if_neg (by omega), if_neg (by omega), if_neg (by omega), if_neg h9, if_pos h10] at hi
  rw [if_neg (by omega), if_neg (by omega), if_neg (by omega), if_neg (by omega), if_neg h9] at ho
  exact (Res.lay s [xtD nEx] (by show s.h + 1 ≤ 512; omega)).to hi (fun en => by rw [hcd en, if_neg h1, if_neg h2, if_neg (by omega), if_neg (by omega), if_neg (by omega), if_neg (by omega), if_neg (by omega), if_neg h9, if_pos h10]; rfl)
 by_cases h11 : x.k = 11
 ·rw [if_neg (by omega), if_neg (by omega), if_neg (by omega), if_neg (by omega), if_neg (by omega), if_neg h9, if_neg h10] at hi
  rw [if_neg (by omega), if_neg (by omega), if_neg (by omega), if_neg (by omega), if_neg h9] at ho
  exact (Res.lay s [self] (by show s.h + 1 ≤ 512; omega)).to hi (fun en => by rw [hcd en, if_neg h1, if_neg h2, if_neg (by omega), if_neg (by omega), if_neg (by omega), if_neg (by omega), if_neg (by omega), if_neg h9, if_neg h10])
 obtain ⟨m', rfl, ka, kb⟩ := mayN_br hmay (by omega)
 by_cases h3 : x.k = 3
 ·have hL : loopsM x loops = loops := if_neg (by omega)
  rw [hL] at ka kb
  rw [if_pos h3] at ho hi
  rcases hc with ⟨h, _⟩ | ⟨_, hn⟩ | ⟨h, _⟩ | h | ⟨h, _⟩
  ·omega
  ·rcases hn with hn | ⟨hn, hbn⟩
   ·rw [if_pos hn] at ho
    rw [if_neg (by omega)] at hi
    refine (sim_31 ha hb hm h0 ka kb oa ob hl hp ea eb (by omega) h171).to hi (fun en => ?_)
    rw [hcd en, if_neg h1, if_neg h2, if_pos h3, if_neg (by omega), ho, ea, eb, wrp s.h (8 * (4 + (na : Int) + nb)) (s.h + 2 + na + 2 + nb) (by unfold P8; omega) (by omega), wrp s.h (8 * (4 + (na : Int))) (s.h + 2 + na + 2) (by unfold P8; omega) (by omega), wrp s.h 16 (s.h + 2) (by unfold P8; omega) (by omega)]
    rfl
   ·rw [if_neg (by omega)] at ho
    rw [if_pos hn] at hi
    refine (sim_30 ha hm h0 ka oa hl hp ea (by omega) h171).to hi (fun en => ?_)
    rw [hcd en, if_neg h1, if_neg h2, if_pos h3, if_pos hn, ho, ea, wrp s.h (8 * (2 + (na : Int))) (s.h + 2 + na) (by unfold P8; omega) (by omega), wrp s.h 16 (s.h + 2) (by unfold P8; omega) (by omega)]
    rfl
  ·omega
  ·omega
  ·omega
 rw [if_neg h3] at ho hi
 by_cases h4 : x.k = 4
 ·have hL : loopsM x loops = loops := if_neg (by omega)
  rw [hL] at ka kb
  rw [if_pos h4] at hi
  rw [if_pos (.inl h4)] at ho
  refine (sim_45 ha 6 (xtD nZb) (.inl ⟨rfl, rfl⟩) hm h0 ka oa hl hp ea (by omega) h171).to hi (fun en => ?_)
  rw [hcd en, if_neg h1, if_neg h2, if_neg h3, if_pos h4]
  rfl
 rw [if_neg h4] at hi
 by_cases h5 : x.k = 5
 ·have hL : loopsM x loops = loops := if_neg (by omega)
  rw [hL] at ka kb
  rw [if_pos h5] at hi
  rw [if_pos (.inr h5)] at ho
  refine (sim_45 ha 7 (xtD nBr) (.inr ⟨rfl, rfl⟩) hm h0 ka oa hl hp ea (by omega) h171).to hi (fun en => ?_)
  rw [hcd en, if_neg h1, if_neg h2, if_neg h3, if_neg h4, if_pos h5]
  rfl
 rw [if_neg h5] at hi
 rw [if_neg (by omega)] at ho
 by_cases h6 : x.k = 6
 ·have hL : loopsM x loops = loops := if_neg (by omega)
  rw [hL] at ka kb
  rw [if_pos h6] at hi ho
  refine (sim_6 ha hb hm h0 ka kb oa ob hl hp ea eb (by omega) h171).to hi (fun en => ?_)
  rw [hcd en, if_neg h1, if_neg h2, if_neg h3, if_neg h4, if_neg h5, if_pos h6, ho, ea, eb, wrp s.h (8 * ((na : Int) + 2 + nb + 2)) (s.h + na + 2 + nb + 2) (by unfold P8; omega) (by omega), wrp s.h (8 * ((na : Int) + 2)) (s.h + na + 2) (by unfold P8; omega) (by omega)]
  rfl
 rw [if_neg h6] at hi ho
 have h78 : x.k = 7 ∨ x.k = 8 := by
  rcases hc with ⟨h, _⟩ | ⟨h, _⟩ | ⟨h, _⟩ | h | ⟨h, _⟩
  ·omega
  ·omega
  ·omega
  ·omega
  ·exact h
 have hn : x.n = 0 ∨ x.n = 1 := by
  rcases hc with ⟨h, _⟩ | ⟨h, _⟩ | ⟨h, _⟩ | h | ⟨_, h, _⟩
  ·omega
  ·omega
  ·omega
  ·omega
  ·exact h
 have hL : loopsM x loops = loops + 1 := if_pos h78
 rw [hL] at ka kb
 rw [if_pos h78] at hi ho
 have hy : ((if x.k = 8 then (11 : Nat) else 10) = 10 ∧ (if x.k = 8 then xtD nPl else xtD nLp) = xtD nLp) ∨ ((if x.k = 8 then (11 : Nat) else 10) = 11 ∧ (if x.k = 8 then xtD nPl else xtD nLp) = xtD nPl) := by
  by_cases h8 : x.k = 8
  ·right; rw [if_pos h8, if_pos h8]; exact ⟨rfl, rfl⟩
  ·left; rw [if_neg h8, if_neg h8]; exact ⟨rfl, rfl⟩
 rcases hn with hn | hn
 ·rw [if_neg (by omega)] at ho hi
  refine (sim_7 (s := s) ha 8 _ (if x.k = 8 then xtD nPl else xtD nLp) [xtD nDo] (fun _ => [xtD nDo]) [] (.inl ⟨rfl, rfl, rfl, rfl⟩) hy hm h0 ka oa hl ea (by show s.h + 1 + na + 2 ≤ 512; omega) h171).to hi (fun en => ?_)
  rw [hcd en, if_neg h1, if_neg h2, if_neg h3, if_neg h4, if_neg h5, if_neg h6, if_pos h78, if_neg (by omega), ho, ea, wrp s.h (8 * (1 + (na : Int) + 2)) (s.h + 1 + na + 2) (by unfold P8; omega) (by omega), wrp s.h 8 (s.h + 1) (by unfold P8; omega) (by omega)]
  rfl
 ·rw [if_pos hn] at ho hi
  refine (sim_7 (s := s) ha 9 _ (if x.k = 8 then xtD nPl else xtD nLp) [xtD nQdo, 0] (fun en => [xtD nQdo, en]) [P8 (s.h + 1)] (.inr ⟨rfl, rfl, rfl, rfl⟩) hy hm h0 ka oa hl ea (by show s.h + 2 + na + 2 ≤ 512; omega) h171).to hi (fun en => ?_)
  rw [hcd en, if_neg h1, if_neg h2, if_neg h3, if_neg h4, if_neg h5, if_neg h6, if_pos h78, if_pos hn, ho, ea, wrp s.h (8 * (2 + (na : Int) + 2)) (s.h + 2 + na + 2) (by unfold P8; omega) (by omega), wrp s.h 16 (s.h + 2) (by unfold P8; omega) (by omega)]
  rfl
theorem sim_nil (self : Int) : SimT self [] := fun m loops s _ _ _ _ _ _ _ => .inr ⟨s, [], .nil s, ⟨Seg.nil _ _, rfl, .inl rfl⟩⟩
theorem sim_all (self : Int) : ∀ (M : Nat) (t : List Nod), cntL t < M → SimT self t
 | 0, t, h => by omega
 | M + 1, [], h => sim_nil self
 | M + 1, x :: t, h => by
  rw [cntL] at h
  have hab := cnt_ab x
  have hx1 : 1 ≤ cntN x := by omega
  intro m loops s hm h0 hmay hl hp hs h171
  rw [sizS] at hs
  have hz := (sizS_bound t).1
  have hz1 := (oneS_bound x).1
  rcases simX x (sim_all self M x.a (by omega)) (sim_all self M x.b (by omega)) hm h0 (hmay x (by simp)) hl hp (by omega) h171 with hF | ⟨s1, xa, hC, hS⟩
  ·exact .inl (by rw [itL]; exact hF.app _)
  have hn : (s1.h : Int) = s.h + oneS x := by
   have h3 := Gen.codN_len XC self x (P8 s.h) 0 (may_ok m x loops (hmay x (by simp)))
   have h4 := hS.sg.ln 0
   omega
  have hl1 : s1.l.length = s.l.length := by rw [hS.l, addL_len]
  have hp1 : loopAt s1.l = loopAt s.l := by rw [hS.l, loopAt_addL]
  rcases sim_all self M t (by omega) m loops s1 hm h0 (fun y hy => hmay y (by simp [hy])) (by omega) (fun h => by rw [hp1]; exact hp h) (by omega) (by omega) with hF | ⟨s2, xb, hD, hT⟩
  ·exact .inl (by rw [itL]; exact hC.appF hF)
  refine .inr ⟨s2, xa ++ xb, by rw [itL]; exact hC.app hD, ?_⟩
  have h5 := hS.comp hT
  have h6 : wr (P8 s.h + 8 * oneS x) = P8 s1.h := wrp s.h _ s1.h (by unfold P8; omega) (by omega)
  have e : (fun en => codL XC self (x :: t) (P8 s.h) en) = fun en => codN XC self x (P8 s.h) en ++ codL XC self t (P8 s1.h) en := funext (fun en => by rw [codL, h6])
  rw [e]
  exact h5
end Go.Proofs.YtfphgelollhdhaaGreat
