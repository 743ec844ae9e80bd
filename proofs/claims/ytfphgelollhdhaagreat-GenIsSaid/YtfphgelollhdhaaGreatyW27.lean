/- yB20, yB21, yB22, yB23, yB24. -/
import Derived.Test.YtfphgelollhdhaaGreatW1
import Derived.Test.YtfphgelollhdhaaGreatW2
import Derived.Test.YtfphgelollhdhaaGreatW3
import Derived.Test.YtfphgelollhdhaaGreatW4
import Derived.Test.YtfphgelollhdhaaGreatyW5
import Derived.Test.YtfphgelollhdhaaGreatyW6
import Derived.Test.YtfphgelollhdhaaGreatyW7
import Derived.Test.YtfphgelollhdhaaGreatyW8
import Derived.Test.YtfphgelollhdhaaGreatyW9
import Derived.Test.YtfphgelollhdhaaGreatyW10
import Derived.Test.YtfphgelollhdhaaGreatyW11
import Derived.Test.YtfphgelollhdhaaGreatyW12
import Derived.Test.YtfphgelollhdhaaGreatyW13
import Derived.Test.YtfphgelollhdhaaGreatyW14
import Derived.Test.YtfphgelollhdhaaGreatyW15
import Derived.Test.YtfphgelollhdhaaGreatyW16
import Derived.Test.YtfphgelollhdhaaGreatyW17
import Derived.Test.YtfphgelollhdhaaGreatyW18
import Derived.Test.YtfphgelollhdhaaGreatyW19
import Derived.Test.YtfphgelollhdhaaGreatyW20
import Derived.Test.YtfphgelollhdhaaGreatyW21
import Derived.Test.YtfphgelollhdhaaGreatyW22
import Derived.Test.YtfphgelollhdhaaGreatyW23
import Derived.Test.YtfphgelollhdhaaGreatyW24
import Derived.Test.YtfphgelollhdhaaGreatyW25
import Derived.Test.YtfphgelollhdhaaGreatyW26
set_option linter.unusedVariables false
set_option linter.unusedSimpArgs false
namespace Go.Proofs.YtfphgelollhdhaaGreat
open Go Go.RowKit
open Go.Proofs.YtfphgelollhdhaaGreat.Dict (St Bs Wd addD flagD cutD findD foundD lastAt findP hidD alikeD NameIn namedD setFl lastAt_hit lastAt_miss found_hit)
open Go.Proofs.YtfphgelollhdhaaGreat.Mem (Mm storeD fetchD commaD alignD writeD layD padN thereD)
set_option maxRecDepth 100000
theorem align_n {m : Mm} {h : Nat} (hl : 8 * h ≤ m.b.length) : alignD m ((8 * h : Nat) : Int) = (m, ((8 * h : Nat) : Int), 0) := by
 have hp : padN ((8 * h : Nat) : Int) = 0 := by unfold padN; omega
 unfold alignD
 rw [hp]
 show layD m _ [] = _
 unfold layD
 rw [if_neg (by show ¬ (m.b.length : Int) - ((8 * h : Nat) : Int) < ((0 : Nat) : Int); omega)]
 have hw : (writeD m ((8 * h : Nat) : Int) []).1 = m := by
  unfold writeD
  split
  ·rfl
  ·rw [if_pos rfl]
 rw [hw]
 show (m, ((8 * h : Nat) : Int) + ((0 : Nat) : Int), (0 : Int)) = _
 rw [show ((8 * h : Nat) : Int) + ((0 : Nat) : Int) = ((8 * h : Nat) : Int) by omega]
theorem add_y {l : List Wd} {name : Bs} {xt fl w : Int} (h1 : namedD name = 0) (h2 : 0 ≤ fl ∧ fl ≤ 7) (h3 : (l.length : Int) < w) (h4 : l.length < 1024) : addD l name xt fl w = (l ++ [⟨name, xt, fl⟩], 0) := by
 unfold addD
 rw [if_neg (fun e => e h1), if_neg (fun e => e h2), if_neg (by omega)]
theorem last_appB {P : Wd → Bool} {l r : List Wd} : ∀ {n : Nat}, n ≤ l.length → lastAt P (l ++ r) n = lastAt P l n
 | 0, _ => rfl
 | n + 1, h => by
  have hw : l[n]? = some l[n] := List.getElem?_eq_getElem (by omega)
  have hw' : (l ++ r)[n]? = some l[n] := by rw [List.getElem?_append_left (by omega), hw]
  cases hp : P l[n] with
  | true => rw [lastAt_hit hw' hp, lastAt_hit hw hp]
  | false => rw [lastAt_miss hw' hp, lastAt_miss hw hp, last_appB (by omega)]
theorem find_missB {l : List Wd} {w : Wd} {name : Bs} (h : findP name w = false) : findD (l ++ [w]) name = findD l name := by
 have hw : (l ++ [w])[l.length]? = some w := by simp
 unfold findD
 rw [List.length_append, List.length_singleton, lastAt_miss hw h, last_appB (Nat.le_refl _)]
 cases hc : lastAt (findP name) l l.length with
 | none => rfl
 | some i =>
  have h1 := last_ltB hc
  simp only [foundD]
  rw [List.getElem?_append_left h1]
def nIt : Bs := [105, 116]
def wIt : Wd := ⟨nIt, 1368, 2⟩
def DI : List Wd := D0 ++ [wIt]
theorem findP_it (n : Bs) : findP n wIt = false := by
 unfold findP
 rw [show hidD wIt = true from rfl]
 rfl
theorem find_di (w : Bs) : findD DI w = findD D0 w := find_missB (findP_it w)
theorem d0_l : D0.length = 167 := by kernel_rfl
theorem di_l : DI.length = 168 := by
 unfold DI
 rw [List.length_append, d0_l]
 rfl
theorem di_in : NameIn DI := fun w hw => by
 rcases List.mem_append.1 hw with hw | hw
 ·exact ⟨by have := (wd_at hw).nm; omega, (wd_at hw).fl⟩
 ·rw [List.mem_singleton.1 hw]
  exact ⟨by decide, by decide, by decide⟩
theorem it_ok : namedD nIt = 0 := by kernel_rfl
def compC (l : List Cfr) : Cp := ⟨1368, l, 1368, 167, 0, false, 0⟩
def fB : Nat → Int := updC f0 1 (-1)
structure CI (f : Fo) (s : Cs) (n : Nat) : Prop where
 fl : FlN 512 f.v s.f s.h
 c : f.c = compC s.l
 up : f.v = upV v1 f.v.m f.v.here DI 0 []
 ok : Okk f.v n
 ri : RightC s.l
 lo : ∀ j, j < 171 → s.f j = fB j
 h : 171 ≤ s.h
theorem CI.dict {f : Fo} {s : Cs} {n : Nat} (h : CI f s n) : f.v.dict = DI := by rw [h.up]; rfl
theorem CI.mb {f : Fo} {s : Cs} {n : Nat} (h : CI f s n) : f.v.m.b.length = 4096 := by rw [h.fl.b, cellsC_len]
theorem CI.le {f : Fo} {s : Cs} {n k : Nat} (h : CI f s n) (hk : k ≤ n) : CI f s k := ⟨h.fl, h.c, h.up, h.ok.le hk, h.ri, h.lo, h.h⟩
theorem CI.kd {f : Fo} {s : Cs} {n : Nat} (h : CI f s n) {x : Wd} (hx : x ∈ D0) : kindD f.v x.xt = (kdW x, 0) := by
 have h0 := wd_at hx
 have h1 := h0.lo
 have h2 := h0.hi
 have h3 := h0.al
 have e : x.xt = ((8 * (x.xt / 8).toNat : Nat) : Int) := by omega
 have hf : s.f (x.xt / 8).toNat = kdW x := by
  rw [h.lo _ (by omega)]
  exact if_neg (by omega)
 rw [e]
 refine kd_n (N := 512) (f := s.f) h.fl.b (by omega) (n := kdW x) hf ?_
 rcases h0.kd with h | h
 ·exact .inl h
 ·exact .inr (.inr h.1)
theorem CI.st {f : Fo} {s : Cs} {n : Nat} (h : CI f s n) : fetchD f.v.m 8 = (-1, 0) :=
 ft_n (N := 512) (f := s.f) h.fl.b (k := 1) (by omega) ((h.lo 1 (by omega)).trans (by kernel_rfl)) (by omega)
theorem CI.ba {f : Fo} {s : Cs} {n : Nat} (h : CI f s n) : fetchD f.v.m 0 = (10, 0) :=
 ft_n (N := 512) (f := s.f) h.fl.b (k := 0) (by omega) ((h.lo 0 (by omega)).trans (by kernel_rfl)) (by omega)
theorem Okk.rngB {v : V} {k : Nat} (h : Okk v k) : Rng v := ⟨h.h0, h.h1⟩
theorem Lays.okkB {v x : V} {k n : Nat} (h : Lays v x k) (ho : Okk v (n + k)) : Okk x n := by
 have h1 := h.rng ho.rngB
 exact ⟨by rw [h.bl]; exact ho.b, by have := h.ol; have := ho.o; omega, h1.h0, h1.h1⟩
theorem up_lays {f : Fo} {v' : V} {k : Nat} (h : f.v = upV v1 f.v.m f.v.here DI 0 []) (g : Lays f.v v' k) : v' = upV v1 v'.m v'.here DI 0 [] := by
 have e := g.eq
 rw [h] at e
 exact e
theorem ci_lay {f : Fo} {s : Cs} {n : Nat} (h : CI f s (n + 1)) (c : Int) (hr : s.h < 512) : ∃ v', vlayD f.v c = (v', 0) ∧ CI ⟨v', f.c⟩ (layS s [c]) n := by
 obtain ⟨v', e, g⟩ := vlay_n h.fl c hr
 have hl := lays_vlay c h.ok.rngB
 rw [e] at hl
 exact ⟨v', e, ⟨g, h.c, up_lays h.up hl, hl.okkB h.ok, h.ri, fun j hj => (if_neg (by have := h.h; omega)).trans (h.lo j hj), by show 171 ≤ s.h + 1; have := h.h; omega⟩⟩
theorem ci_lit {f : Fo} {s : Cs} {n : Nat} (h : CI f s (n + 2)) (c : Int) (hr : s.h + 2 ≤ 512) : ∃ v', outD (litK f.v c) f.v = (v', 0) ∧ CI ⟨v', f.c⟩ (layS s [xtD nLit, c]) n := by
 obtain ⟨v', e, g⟩ := lit_n h.fl c hr
 have hl := lays_lit c h.ok.rngB
 rw [e] at hl
 exact ⟨v', e, ⟨g, h.c, up_lays h.up hl, hl.okkB h.ok, h.ri, fun j hj => (lay_lo _ _ _ _ (by have := h.h; omega)).trans (h.lo j hj), by show 171 ≤ s.h + 2; have := h.h; omega⟩⟩
theorem ci_br {f : Fo} {s : Cs} {n i : Nat} (h : CI f s (n + 63)) (hb : BrOk s i) : ∃ v', brI i f.v f.c.cf = (v', (plS s i).2.2, 0) ∧ CI ⟨v', compC (plS s i).2.2⟩ (brS s i) n := by
 have hcf : f.c.cf = s.l := by rw [h.c]; rfl
 have hpl : planD i f.v s.l = plS s i := by
  rw [plan_h, h.fl.here]
  rfl
 rw [hcf]
 have hEn : EndsN 512 (planD i f.v s.l).2.1 := by
  rw [hpl]
  intro a ha
  obtain ⟨k, _, h2, h3⟩ := hb.ends a ha
  exact ⟨k, h2, h3⟩
 obtain ⟨v', e, g⟩ := brI_n (N := 512) hb.fit h.fl (by rw [hpl]; exact hb.room) hEn
 have hl := lays_brI (i := i) h.ok.rngB h.ri.lv
 have hr := right_brI (v := f.v) hb.i13 h.ri
 rw [e] at hl hr
 rw [hpl] at e g hr
 refine ⟨v', e, ⟨g, rfl, up_lays h.up hl, hl.okkB h.ok, hr, fun j hj => ?_, by show 171 ≤ s.h + _; have := h.h; omega⟩⟩
 show endsC (lay s.f s.h (plS s i).1) _ (plS s i).2.1 j = fB j
 rw [endsC_out _ _ _ _ (fun a ha => by obtain ⟨k, _, _, h3⟩ := hb.ends a ha; exact ⟨k, h3⟩) (fun e => by
  obtain ⟨k, h1, _, h3⟩ := hb.ends _ e
  omega), lay_lo _ _ _ _ (by have := h.h; omega)]
 exact h.lo j hj
end Go.Proofs.YtfphgelollhdhaaGreat
namespace Go.Proofs.YtfphgelollhdhaaGreat
open Go Go.RowKit
open Go.Proofs.YtfphgelollhdhaaGreat.Dict (St Bs Wd addD flagD cutD findD foundD lastAt findP hidD alikeD NameIn namedD setFl lastAt_hit lastAt_miss found_hit)
open Go.Proofs.YtfphgelollhdhaaGreat.Mem (Mm storeD fetchD commaD alignD writeD layD padN thereD)
set_option maxRecDepth 100000
theorem v1_last : v1.last = 0 := rfl
theorem v1_hand : v1.hand = [] := rfl
theorem v1_here : v1.here = 1368 := rfl
theorem v1_words : v1.cf.words = 250 := rfl
theorem up_v1 (m m' : Mm) (h h' : Int) : withMH (withMHD v1 m h DI) m' h' = upV v1 m' h' DI 0 [] := by
 unfold withMH withMHD upV
 rw [v1_last, v1_hand]
theorem st_up (m : Mm) (h n : Int) : stV (upV v1 m h DI 0 []) n = upV v1 (storeD m 8 n).1 h DI 0 [] := rfl
theorem v1_bl : v1.m.b.length = 4096 := by rw [v1_fl.b, cellsC_len]
theorem v1_ol : v1.m.old.length = 0 := rfl
theorem word_it : ∃ m, wordR v1 nIt 2 [256] = (upV v1 m 1376 DI 0 [], 1368, 0) ∧ m.b = cellsC (lay f0 171 [256]) 512 ∧ m.old.length ≤ 1 := by
 have hl0 := v1_bl
 have hv : FlN 512 (withMHD v1 v1.m 1368 DI) f0 171 := ⟨v1_fl.b, rfl⟩
 have hc := cells_n [256] (w := wk0 (withMHD v1 v1.m 1368 DI)) hv rfl (by decide)
 have hly : Lays (withMHD v1 v1.m 1368 DI) (cellsK (withMHD v1 v1.m 1368 DI) [256]).v 1 := lays_cells [256] (w := wk0 (withMHD v1 v1.m 1368 DI)) ⟨by show (0 : Int) ≤ 1368; decide, by show (1368 : Int) ≤ v1.m.b.length; rw [hl0]; decide⟩
 have hc1 : FlN 512 (cellsK (withMHD v1 v1.m 1368 DI) [256]).v (lay f0 171 [256]) 172 := hc.1
 have hc2 : (cellsK (withMHD v1 v1.m 1368 DI) [256]).bad = 0 := hc.2
 have ha : alignD v1.m v1.here = (v1.m, 1368, 0) := by
  rw [v1_here]
  exact align_n (m := v1.m) (h := 171) (by rw [hl0]; decide)
 have hd : addD v1.dict nIt 1368 2 v1.cf.words = (DI, 0) := by
  rw [v1_dict, v1_words]
  exact add_y (l := D0) it_ok ⟨by decide, by decide⟩ (by rw [d0_l]; decide) (by rw [d0_l]; decide)
 have hw : wordR v1 nIt 2 [256] = ((cellsK (withMHD v1 v1.m 1368 DI) [256]).v, 1368, 0) := by
  unfold wordR
  rw [ha]
  dsimp only
  rw [if_neg (fun e => e rfl), hd]
  dsimp only
  rw [if_neg (fun e => e rfl), if_neg (fun e => e hc2)]
 generalize cellsK (withMHD v1 v1.m 1368 DI) [256] = k at *
 have e := hly.eq
 rw [hc1.here, up_v1] at e
 refine ⟨k.v.m, ?_, hc1.b, ?_⟩
 ·rw [hw]
  exact congrArg (fun z => (z, (1368 : Int), (0 : Int))) e
 ·have h2 := hly.ol
  have h3 : (withMHD v1 v1.m 1368 DI).m.old.length = v1.m.old.length := rfl
  rw [h3, v1_ol] at h2
  exact h2
theorem begin_it : ∃ f1, beginD ⟨v1, cp0⟩ nIt false 0 = (f1, 0) ∧ CI f1 ⟨updC (lay f0 171 [256]) 1 (-1), 172, []⟩ 60000 := by
 obtain ⟨m, hw, hm, ho⟩ := word_it
 have hs := store_flat (k := 1) (-1) hm (by omega)
 have hso := store_ok m 8 (-1)
 have hml : m.b.length = 4096 := by rw [hm, cellsC_len]
 refine ⟨⟨upV v1 (storeD m 8 (-1)).1 1376 DI 0 [], compC []⟩, ?_, ⟨⟨hs.1, rfl⟩, rfl, rfl, ?_, ⟨fun c h => (by cases h), by decide⟩, fun j hj => ?_, by decide⟩⟩
 ·unfold beginD
  dsimp only
  rw [hw]
  dsimp only
  rw [if_neg (by decide), if_neg (by decide), if_neg (by decide), if_neg (fun e => e rfl), st_up, v1_dict, d0_l, v1_here, v1_last]
  rfl
 ·exact ⟨by show (storeD m 8 (-1)).1.b.length ≤ _; omega, by show (storeD m 8 (-1)).1.old.length + _ ≤ _; omega, by show (0 : Int) ≤ 1376; omega, by show (1376 : Int) ≤ ((storeD m 8 (-1)).1.b.length : Nat); omega⟩
 ·by_cases h1 : j = 1
  ·subst h1; rfl
  ·show updC (updC f0 171 256) 1 (-1) j = updC f0 1 (-1) j
   unfold updC
   rw [if_neg h1, if_neg h1, if_neg (by omega)]
theorem CI.gd {f : Fo} {s : Cs} {n : Nat} (h : CI f s n) (hn : 100 ≤ n) : Gd f.v 100 := by
 have hd := h.dict
 refine ⟨h.ok.le hn, by rw [h.mb]; omega, by rw [hd, di_l]; omega, by rw [hd]; exact di_in, ?_⟩
 rw [h.up]
 exact Nat.zero_le _
theorem end_it {f : Fo} {s : Cs} {n : Nat} (h : CI f s (n + 5)) (hl : s.l = []) (hr : s.h < 512) : ∃ f', endD' f = (f', 0) ∧ f'.v.here = ((8 * (s.h + 1) : Nat) : Int) ∧ f'.v.m.b = cellsC (updC (updC s.f s.h 32) 1 0) 512 ∧ f'.c = cp0 := by
 have hc := cells_n [32] (w := wk0 f.v) h.fl rfl (by show s.h + 1 ≤ 512; omega)
 have hc1 : FlN 512 (cellsK f.v [32]).v (updC s.f s.h 32) (s.h + 1) := hc.1
 have hc2 : (cellsK f.v [32]).bad = 0 := hc.2
 have hs := store_flat (k := 1) 0 hc1.b (by omega)
 have ex : f.c.xt = 1368 := by rw [h.c]; rfl
 have ecf : f.c.cf = [] := by rw [h.c, hl]; rfl
 have eon : f.c.on = false := by rw [h.c]; rfl
 refine ⟨⟨stV (upV (cellsK f.v [32]).v (cellsK f.v [32]).v.m (cellsK f.v [32]).v.here (flagD f.v.dict f.c.dict (clearH (flAt f.v.dict f.c.dict))).1 f.v.last (if f.c.on = true then f.v.hand ++ [⟨f.c.xt, f.c.fuel, 0, false⟩] else f.v.hand)) 0, cp0⟩, ?_, hc1.here, hs.1, rfl⟩
 unfold endD'
 rw [if_neg (by rw [ex]; decide), if_neg (by rw [ecf]; decide), if_neg (fun e => by rw [eon] at e; cases e.1), if_neg (fun e => e hc2)]
def txt : List Bs → Bs
 | [] => [59]
 | w :: r => w ++ 32 :: txt r
def GoodW (w : Bs) : Prop := w ≠ [] ∧ ∀ c, c ∈ w → 32 < c.toNat
theorem tok_acc : ∀ (w : Bs) (r acc : Bs) (p : Nat), (∀ c, c ∈ w → 32 < c.toNat) → acc ++ w ≠ [] → tokD (w ++ 32 :: r) acc p = (acc ++ w, p + w.length + 1)
 | [], r, acc, p, _, hne => by
  rw [List.nil_append, tokD, if_neg (by decide), List.append_nil] 
  rw [List.append_nil] at hne
  rw [if_neg hne]
  rfl
 | c :: w, r, acc, p, h, hne => by
  rw [List.cons_append, tokD, if_pos (h c (by simp)), tok_acc w r (acc ++ [c]) (p + 1) (fun d hd => h d (by simp [hd])) (by simp), List.append_assoc]
  refine Prod.ext rfl ?_
  show p + 1 + w.length + 1 = p + (w.length + 1) + 1
  omega
theorem tok_word {w r : Bs} {p : Nat} (h : GoodW w) : tokD (w ++ 32 :: r) [] p = (w, p + w.length + 1) := tok_acc w r [] p h.2 (by rw [List.nil_append]; exact h.1)
structure At (s : Bs) (ws : List Bs) (a j : Nat) : Prop where
 le : a ≤ s.length
 dr : s.drop a = txt (ws.drop j)
theorem at_next {s : Bs} {ws : List Bs} {a j : Nat} {w : Bs} (h : At s ws a j) (hw : ws[j]? = some w) (g : GoodW w) : tokD (s.drop a) [] a = (w, a + w.length + 1) ∧ At s ws (a + w.length + 1) (j + 1) := by
 have e : ws.drop j = w :: ws.drop (j + 1) := by
  rw [List.drop_eq_getElem_cons (List.getElem?_eq_some_iff.1 hw).1, (List.getElem?_eq_some_iff.1 hw).2]
 have hd := h.dr
 rw [e, txt] at hd
 have hlen := congrArg List.length hd
 rw [List.length_drop, List.length_append, List.length_cons] at hlen
 refine ⟨by rw [hd]; exact tok_word g, by have := h.le; omega, ?_⟩
 have e2 : s.drop (a + w.length + 1) = (s.drop a).drop (w.length + 1) := by rw [List.drop_drop, Nat.add_assoc]
 rw [e2, hd, show w ++ 32 :: txt (ws.drop (j + 1)) = (w ++ [32]) ++ txt (ws.drop (j + 1)) by simp, List.drop_left' (by rw [List.length_append, List.length_singleton])]
theorem at_end {s : Bs} {ws : List Bs} {a : Nat} (h : At s ws a ws.length) : tokD (s.drop a) [] a = ([59], s.length) ∧ tokD (s.drop s.length) [] s.length = ([], s.length) := by
 have hd := h.dr
 rw [List.drop_length, txt] at hd
 have hlen := congrArg List.length hd
 rw [List.length_drop, List.length_singleton] at hlen
 refine ⟨?_, by rw [List.drop_length]; rfl⟩
 rw [hd]
 show (([59] : Bs), a + 1) = _
 rw [show a + 1 = s.length by have := h.le; omega]
def lineT (ws : List Bs) : Bs := [58, 32, 105, 116] ++ ws.flatMap (fun w => 32 :: w) ++ [32, 59]
theorem txt_flat : ∀ ws : List Bs, ws.flatMap (fun w => 32 :: w) ++ [32, 59] = 32 :: txt ws
 | [] => rfl
 | w :: r => by rw [List.flatMap_cons, List.append_assoc, txt_flat r, txt]; rfl
theorem line_eq (ws : List Bs) : lineT ws = [58] ++ 32 :: (nIt ++ 32 :: txt ws) := by
 unfold lineT
 rw [List.append_assoc, txt_flat]
 rfl
theorem line_colon (ws : List Bs) : tokD ((lineT ws).drop 0) [] 0 = ([58], 2) := by
 rw [List.drop_zero, line_eq]
 exact tok_word (w := [58]) ⟨by decide, fun c h => by rw [List.mem_singleton.1 h]; decide⟩
theorem line_it (ws : List Bs) : tokD ((lineT ws).drop 2) [] 2 = (nIt, 5) := by
 rw [line_eq]
 exact tok_word (w := nIt) (p := 2) ⟨by decide, fun c h => by
  simp only [nIt, List.mem_cons, List.not_mem_nil, or_false] at h
  rcases h with rfl | rfl <;> decide⟩
theorem line_at (ws : List Bs) : At (lineT ws) ws 5 0 := by
 refine ⟨?_, ?_⟩
 ·rw [line_eq]
  simp [nIt]
 ·rw [line_eq, List.drop_zero]
  rfl
end Go.Proofs.YtfphgelollhdhaaGreat
namespace Go.Proofs.YtfphgelollhdhaaGreat
open Go Go.RowKit
open Go.Proofs.YtfphgelollhdhaaGreat.Dict (St Bs bs_eq Wd encW encWs closed_ws findD encFd NameIn)
open Go.Proofs.YtfphgelollhdhaaGreat.Mem (Mm storeD fetchD)
set_option maxRecDepth 100000
def WordR (s : Bs) (fu : Int) (f : Fo) (a : Nat) (f' : Fo) (a' : Nat) (is : Bool) (bad : Int) : Prop := FnC Tryz.prog 15 [.agg (encFo f), St s, .val (.int .i64 (a : Nat)), .val (.int .i64 fu)] (.tup [.agg (encFo f'), .val (.int .i64 (a' : Nat)), .val (.int .i64 fu), .val (.bool is), .val (.int .i64 bad)])
structure GoodWs (ws : List Bs) : Prop where
 n : ws.length ≤ 40
 w : ∀ w, w ∈ ws → GoodW w ∧ w.length ≤ 40
theorem flat_len (l : List Bs) : ∀ n : Nat, (∀ w, w ∈ l → w.length ≤ 40) → l.length ≤ n → (l.flatMap (fun w => 32 :: w)).length ≤ 41 * n := by
 induction l with
 | nil => intro n _ _; exact Nat.zero_le _
 | cons w l ih =>
  intro n h hn
  rw [List.length_cons] at hn
  obtain ⟨m, rfl⟩ : ∃ m, n = m + 1 := ⟨n - 1, by omega⟩
  have h1 := ih m (fun x hx => h x (by simp [hx])) (by omega)
  have h2 := h w (by simp)
  rw [List.flatMap_cons, List.length_append, List.length_cons]
  omega
theorem line_len {ws : List Bs} (g : GoodWs ws) : (lineT ws).length ≤ 10000 := by
 have := flat_len ws 40 (fun w hw => (g.w w hw).2) g.n
 unfold lineT
 rw [List.length_append, List.length_append]
 simp only [List.length_cons, List.length_nil]
 omega
theorem cc_ci {f : Fo} {s : Cs} {n : Nat} (h : CI f s n) : FnC Tryz.prog 34 [.agg (encFo f)] (.val (.bool true)) :=
 compil_c f (-1) (by rw [h.mb]; omega) h.st true (.inr ⟨by rw [h.c]; show (1368 : Int) ≠ 0; decide, .inr ⟨by decide, rfl⟩⟩)
theorem nm_apart : nmC.all (fun x => !(mkN.contains x) && !(lyN.contains x) && !(spN.contains x) && handled.contains x) = true := by decide
theorem nm_of {b : Nat} {nm : Bs} (h : nmC[b]? = some nm) : nm ∉ mkN ∧ nm ∉ lyN ∧ nm ∉ spN ∧ nm ∈ handled := by
 have h1 := List.all_eq_true.1 nm_apart nm (List.mem_of_getElem? h)
 simp only [Bool.and_eq_true, Bool.not_eq_true', List.contains_eq_mem, decide_eq_false_iff_not, decide_eq_true_eq] at h1
 exact ⟨h1.1.1.1, h1.1.1.2, h1.1.2, h1.2⟩
theorem sp_facts {ws : List Bs} {j : Nat} {nm : Bs} (h : SpAt ws j nm) (hh : nm ∈ handled) : ∃ w, ws[j]? = some w ∧ (findD D0 w).2.2 = true ∧ WdF (findD D0 w).1 ∧ (300 ≤ kdW (findD D0 w).1 ∧ kdW (findD D0 w).1 ≤ 336) ∧ (findD D0 w).1.fl % 2 = 1 ∧ nameS (kdW (findD D0 w).1) = nm := by
 obtain ⟨w, h1, h2, h3, h4⟩ := h
 have hw := wd_at (find_in h2)
 rcases hw.kd with hk | ⟨hk, hk2, hk3⟩
 ·omega
 ·exact ⟨w, h1, h2, hw, hk, hk3 (by rw [h4]; exact hh), h4⟩
theorem find_ci {f : Fo} {s : Cs} {n : Nat} (h : CI f s n) {w : Bs} (hf : (findD D0 w).2.2 = true) : findD f.v.dict w = ((findD D0 w).1, (findD D0 w).2.1, true) := by
 rw [h.dict, find_di]
 exact Prod.ext rfl (Prod.ext rfl hf)
theorem w_spec {ws : List Bs} {f : Fo} {cs : Cs} {n a j : Nat} {nm : Bs} {fu : Int} (g : GoodWs ws) (h : CI f cs n) (ha : At (lineT ws) ws a j) (hs : SpAt ws j nm) (hh : nm ∈ handled) (hfu : 0 ≤ fu) :
  ∃ a2 : Nat, At (lineT ws) ws a2 (j + 1) ∧ (∀ (f' : Fo) (a3 : Nat), FnL Tryz.prog 40 [.ptr 1000 0 0 0, St nm] [(34, [encLw ⟨f, lineT ws, (a2 : Nat), fu, 0⟩])] (.tup []) [[encLw ⟨f', lineT ws, (a3 : Nat), fu, 0⟩]] → WordR (lineT ws) fu f a f' a3 true 0) ∧ (∀ (e : Int), e ≠ 0 → FnL Tryz.prog 40 [.ptr 1000 0 0 0, St nm] [(34, [encLw ⟨f, lineT ws, (a2 : Nat), fu, 0⟩])] (.tup []) [[encLw ⟨f, lineT ws, (a2 : Nat), fu, e⟩]] → WordR (lineT ws) fu f a f a true e) := by
 obtain ⟨w, hw, hf, hwd, hk, h0, hnm⟩ := sp_facts hs hh
 have hg := g.w w (List.mem_of_getElem? hw)
 obtain ⟨ht, ha2⟩ := at_next ha hw hg.1
 have hl := line_len g
 have hd : f.v.dict.length ≤ 1000000 := by rw [h.dict, di_l]; omega
 have hin : NameIn f.v.dict := by rw [h.dict]; exact di_in
 have hmb : f.v.m.b.length ≤ 1000000 := by rw [h.mb]; omega
 have cc := cc_ci h
 have hfc := find_ci h hf
 have hkd := h.kd (find_in hf)
 refine ⟨_, ha2, fun f' a3 cS => ?_, fun e he cS => ?_⟩
 ·rw [← hnm] at cS
  cases hob : ((findD D0 w).1.fl / 4 % 2 == 1) with
  | true =>
   cases hwb : wiD (kdW (findD D0 w).1) with
   | true => exact w15_spec_tt0 f (lineT ws) a fu w _ hfu (by omega) ha.le ht hg.1.1 (by omega) hd hin _ _ hfc _ hmb hkd hwd.fl cc h0 hk hob hwb ⟨f', lineT ws, (a3 : Nat), fu, 0⟩ rfl cS
   | false => exact w15_spec_tf0 f (lineT ws) a fu w _ hfu (by omega) ha.le ht hg.1.1 (by omega) hd hin _ _ hfc _ hmb hkd hwd.fl cc h0 hk hob hwb ⟨f', lineT ws, (a3 : Nat), fu, 0⟩ rfl cS
  | false =>
   cases hwb : wiD (kdW (findD D0 w).1) with
   | true => exact w15_spec_ft0 f (lineT ws) a fu w _ hfu (by omega) ha.le ht hg.1.1 (by omega) hd hin _ _ hfc _ hmb hkd hwd.fl cc h0 hk hob hwb ⟨f', lineT ws, (a3 : Nat), fu, 0⟩ rfl cS
   | false => exact w15_spec_ff0 f (lineT ws) a fu w _ hfu (by omega) ha.le ht hg.1.1 (by omega) hd hin _ _ hfc _ hmb hkd hwd.fl cc h0 hk hob hwb ⟨f', lineT ws, (a3 : Nat), fu, 0⟩ rfl cS
 ·rw [← hnm] at cS
  cases hob : ((findD D0 w).1.fl / 4 % 2 == 1) with
  | true =>
   cases hwb : wiD (kdW (findD D0 w).1) with
   | true => exact w15_spec_tt1 f (lineT ws) a fu w _ hfu (by omega) ha.le ht hg.1.1 (by omega) hd hin _ _ hfc _ hmb hkd hwd.fl cc h0 hk hob hwb ⟨f, lineT ws, _, fu, e⟩ he cS
   | false => exact w15_spec_tf1 f (lineT ws) a fu w _ hfu (by omega) ha.le ht hg.1.1 (by omega) hd hin _ _ hfc _ hmb hkd hwd.fl cc h0 hk hob hwb ⟨f, lineT ws, _, fu, e⟩ he cS
  | false =>
   cases hwb : wiD (kdW (findD D0 w).1) with
   | true => exact w15_spec_ft1 f (lineT ws) a fu w _ hfu (by omega) ha.le ht hg.1.1 (by omega) hd hin _ _ hfc _ hmb hkd hwd.fl cc h0 hk hob hwb ⟨f, lineT ws, _, fu, e⟩ he cS
   | false => exact w15_spec_ff1 f (lineT ws) a fu w _ hfu (by omega) ha.le ht hg.1.1 (by omega) hd hin _ _ hfc _ hmb hkd hwd.fl cc h0 hk hob hwb ⟨f, lineT ws, _, fu, e⟩ he cS
theorem step_lay {ws : List Bs} {f : Fo} {cs : Cs} {n a j : Nat} {L : List Int} {fu : Int} (g : GoodWs ws) (h : CI f cs (n + 100)) (ha : At (lineT ws) ws a j) (ht : Tok1 ws j (.lay L)) (hr : cs.h + L.length ≤ 512) (hfu : 0 ≤ fu) : ∃ f' a', WordR (lineT ws) fu f a f' a' true 0 ∧ CI f' (layS cs L) (n + 37) ∧ At (lineT ws) ws a' (j + 1) := by
 have hl := line_len g
 have hd : f.v.dict.length ≤ 1000000 := by rw [h.dict, di_l]; omega
 have hin : NameIn f.v.dict := by rw [h.dict]; exact di_in
 have hmb : f.v.m.b.length ≤ 1000000 := by rw [h.mb]; omega
 have cc := cc_ci h
 have ok2 : Okk f.v 2 := h.ok.le (by omega)
 cases ht with
 | num hw hf hn =>
  rename_i w
  have hg := g.w w (List.mem_of_getElem? hw)
  obtain ⟨htk, ha2⟩ := at_next ha hw hg.1
  obtain ⟨v', e, hc⟩ := ci_lit (n := n + 37) (h.le (by omega)) (numD w).1 hr
  exact ⟨_, _, w15_num f (lineT ws) a fu w _ hfu (by omega) ha.le htk hg.1.1 (by omega) hd hin (by rw [h.dict, find_di]; exact hf) hn hmb h.ba cc v' ok2 e, hc, ha2⟩
 | prim hw hf hk h0 =>
  rename_i w
  have hg := g.w w (List.mem_of_getElem? hw)
  have hwd := wd_at (find_in hf)
  obtain ⟨htk, ha2⟩ := at_next ha hw hg.1
  obtain ⟨v', e, hc⟩ := ci_lay (n := n + 37) (h.le (by omega)) (findD D0 w).1.xt (by have : cs.h + 1 ≤ 512 := hr; omega)
  cases hob : ((findD D0 w).1.fl / 4 % 2 == 1) with
  | true => exact ⟨_, _, w15_prim_true f (lineT ws) a fu w _ hfu (by omega) ha.le htk hg.1.1 (by omega) hd hin _ _ (find_ci h hf) _ hmb (h.kd (find_in hf)) hwd.fl cc h0 hk hob v' ok2 e, hc, ha2⟩
  | false => exact ⟨_, _, w15_prim_false f (lineT ws) a fu w _ hfu (by omega) ha.le htk hg.1.1 (by omega) hd hin _ _ (find_ci h hf) _ hmb (h.kd (find_in hf)) hwd.fl cc h0 hk hob v' ok2 e, hc, ha2⟩
 | exit hs =>
  obtain ⟨a2, ha2, hgo, _⟩ := w_spec g h ha hs (by decide) hfu
  obtain ⟨v', e, hc⟩ := ci_lay (n := n + 37) (h.le (by omega)) (xtD nEx) (by have : cs.h + 1 ≤ 512 := hr; omega)
  exact ⟨_, a2, hgo _ a2 (spec_laid f (lineT ws) a2 fu nEXIT (by decide) _ (lays_exit f (lineT ws) a2 fu v' ok2 e)), hc, ha2⟩
 | self hs =>
  obtain ⟨a2, ha2, hgo, _⟩ := w_spec g h ha hs (by decide) hfu
  obtain ⟨v', e, hc⟩ := ci_lay (n := n + 37) (h.le (by omega)) 1368 (by have : cs.h + 1 ≤ 512 := hr; omega)
  have ex : f.c.xt = 1368 := by rw [h.c]; rfl
  exact ⟨_, a2, hgo _ a2 (spec_laid f (lineT ws) a2 fu nRECURSE (by decide) _ (lays_rec f (lineT ws) a2 fu v' ok2 (by rw [ex]; exact e))), hc, ha2⟩
theorem step_two {ws : List Bs} {f : Fo} {cs : Cs} {n a j : Nat} {L : List Int} {fu : Int} (g : GoodWs ws) (h : CI f cs (n + 100)) (ha : At (lineT ws) ws a j) (ht : Tok2 ws j (.lay L)) (hr : cs.h + L.length ≤ 512) (hfu : 0 ≤ fu) : ∃ f' a', WordR (lineT ws) fu f a f' a' true 0 ∧ CI f' (layS cs L) (n + 37) ∧ At (lineT ws) ws a' (j + 2) := by
 have hl := line_len g
 have hd : f.v.dict.length ≤ 1000000 := by rw [h.dict, di_l]; omega
 have hin : NameIn f.v.dict := by rw [h.dict]; exact di_in
 have ok2 : Okk f.v 2 := h.ok.le (by omega)
 cases ht with
 | char hs hw =>
  rename_i c w
  have hg := g.w (c :: w) (List.mem_of_getElem? hw)
  obtain ⟨a2, ha2, hgo, _⟩ := w_spec g h ha hs (by decide) hfu
  obtain ⟨htk, ha3⟩ := at_next ha2 hw hg.1
  obtain ⟨v', e, hc⟩ := ci_lit (n := n + 37) (h.le (by omega)) (c.toNat : Int) hr
  exact ⟨_, _, hgo _ _ (spec_laid f (lineT ws) a2 fu nBCHAR (by decide) _ (lays_char f (lineT ws) a2 fu c w _ (by omega) ha2.le htk v' ok2 e)), hc, ha3⟩
 | tick hs hw hne hf =>
  rename_i w
  have hg := g.w w (List.mem_of_getElem? hw)
  obtain ⟨a2, ha2, hgo, _⟩ := w_spec g h ha hs (by decide) hfu
  obtain ⟨htk, ha3⟩ := at_next ha2 hw hg.1
  obtain ⟨v', e, hc⟩ := ci_lit (n := n + 37) (h.le (by omega)) (findD D0 w).1.xt hr
  exact ⟨_, _, hgo _ _ (spec_laid f (lineT ws) a2 fu nBTICK (by decide) _ (lays_tick f (lineT ws) a2 fu w _ (by omega) (by omega) hd hin ha2.le htk hne _ _ (find_ci h hf) v' ok2 e)), hc, ha3⟩
theorem step_br {ws : List Bs} {f : Fo} {cs : Cs} {n a j i : Nat} {fu : Int} (g : GoodWs ws) (h : CI f cs (n + 100)) (ha : At (lineT ws) ws a j) (ht : Tok1 ws j (.br i)) (hb : BrOk cs i) (hfu : 0 ≤ fu) : ∃ f' a', WordR (lineT ws) fu f a f' a' true 0 ∧ CI f' (brS cs i) (n + 37) ∧ At (lineT ws) ws a' (j + 1) := by
 cases ht with
 | br hs hn hi =>
  rename_i nm
  obtain ⟨m1, m2, m3, m4⟩ := nm_of hn
  obtain ⟨a2, ha2, hgo, _⟩ := w_spec g h ha hs m4 hfu
  obtain ⟨v', e, hc⟩ := ci_br (n := n + 37) (h.le (by omega)) hb
  have hcf : f.c.cf = cs.l := by rw [h.c]; rfl
  have hwc : withCf f.c (plS cs i).2.2 = compC (plS cs i).2.2 := by rw [h.c]; rfl
  have c1 := spec_br f (lineT ws) a2 fu nm i hi hn m1 m2 m3 (by rw [hcf]; have := h.ri.2; omega) (by rw [hcf]; exact h.ri.lv) (h.ok.le (by omega)) true (cc_ci h) v' (plS cs i).2.2 e
  rw [hwc] at c1
  exact ⟨_, a2, hgo _ a2 c1, hc, ha2⟩
theorem step_no {ws : List Bs} {f : Fo} {cs : Cs} {n a j : Nat} {fu : Int} (g : GoodWs ws) (h : CI f cs (n + 100)) (ha : At (lineT ws) ws a j) (ht : Tok1 ws j (.br 12)) (hb : ¬ FitC 12 cs.l) (hfu : 0 ≤ fu) : WordR (lineT ws) fu f a f a true (-22) := by
 cases ht with
 | br hs hn hi =>
  rename_i nm
  obtain ⟨m1, m2, m3, m4⟩ := nm_of hn
  obtain ⟨a2, ha2, _, hgo⟩ := w_spec g h ha hs m4 hfu
  have hcf : f.c.cf = cs.l := by rw [h.c]; rfl
  have c1 := spec_br_no f (lineT ws) a2 fu nm 12 hi hn m1 m2 m3 (by rw [hcf]; have := h.ri.2; omega) (by rw [hcf]; exact h.ri.lv) (h.ok.le (by omega)) true (cc_ci h) (by rw [hcf]; exact brI_no hb)
  exact hgo (-22) (by decide) c1
end Go.Proofs.YtfphgelollhdhaaGreat
namespace Go.Proofs.YtfphgelollhdhaaGreat
open Go Go.RowKit
open Go.Proofs.YtfphgelollhdhaaGreat.Dict (St Bs bs_eq Wd encW encWs closed_ws findD encFd NameIn)
open Go.Proofs.YtfphgelollhdhaaGreat.Mem (Mm encM encBs closed_bs encP encP_closed closed_m storeD fetchD freeD)
open Go.Proofs.YtfphgelollhdhaaGreat.Stk (encS closed_s encI_closed)
set_option maxRecDepth 100000
inductive RunN (s : Bs) (fu : Int) : Nat → Fo → Nat → Fo → Nat → Prop
 | nil (f : Fo) (a : Nat) : RunN s fu 0 f a f a
 | cons {k : Nat} {f f1 f2 : Fo} {a a1 a2 : Nat} : WordR s fu f a f1 a1 true 0 → RunN s fu k f1 a1 f2 a2 → RunN s fu (k + 1) f a f2 a2
theorem RunN.app {s : Bs} {fu : Int} {k l : Nat} {f f1 f2 : Fo} {a a1 a2 : Nat} (h : RunN s fu k f a f1 a1) : RunN s fu l f1 a1 f2 a2 → RunN s fu (k + l) f a f2 a2 := by
 induction h with
 | nil f a => exact fun g => by rw [Nat.zero_add]; exact g
 | cons h1 h2 ih => exact fun g => by rw [show ∀ k, k + 1 + l = k + l + 1 from fun k => by omega]; exact .cons h1 (ih g)
theorem chain_run {ws : List Bs} {fu : Int} (g : GoodWs ws) (hfu : 0 ≤ fu) {cs cs' : Cs} {its : List Itm} (h : Ch cs its cs') : ∀ (f : Fo) (a j j' n : Nat), CI f cs (n + 63 * its.length + 100) → At (lineT ws) ws a j → Toks ws j its j' → ∃ k f' a', RunN (lineT ws) fu k f a f' a' ∧ CI f' cs' (n + 100) ∧ At (lineT ws) ws a' j' := by
 induction h with
 | nil s =>
  intro f a j j' n hc ha ht
  cases ht
  exact ⟨0, f, a, .nil f a, hc.le (by simp), ha⟩
 | lay hr h2 ih =>
  rename_i r
  intro f a j j' n hc ha ht
  rw [List.length_cons] at hc
  cases ht with
  | one t1 t2 =>
   obtain ⟨f1, a1, hw, hc1, ha1⟩ := step_lay (n := n + 63 * r.length + 63) g (hc.le (by omega)) ha t1 hr hfu
   obtain ⟨k, f', a', hr', hc', ha'⟩ := ih f1 a1 _ j' n (hc1.le (by omega)) ha1 t2
   exact ⟨k + 1, f', a', .cons hw hr', hc', ha'⟩
  | two t1 t2 =>
   obtain ⟨f1, a1, hw, hc1, ha1⟩ := step_two (n := n + 63 * r.length + 63) g (hc.le (by omega)) ha t1 hr hfu
   obtain ⟨k, f', a', hr', hc', ha'⟩ := ih f1 a1 _ j' n (hc1.le (by omega)) ha1 t2
   exact ⟨k + 1, f', a', .cons hw hr', hc', ha'⟩
 | br hb h2 ih =>
  rename_i r
  intro f a j j' n hc ha ht
  rw [List.length_cons] at hc
  cases ht with
  | one t1 t2 =>
   obtain ⟨f1, a1, hw, hc1, ha1⟩ := step_br (n := n + 63 * r.length + 63) g (hc.le (by omega)) ha t1 hb hfu
   obtain ⟨k, f', a', hr', hc', ha'⟩ := ih f1 a1 _ j' n (hc1.le (by omega)) ha1 t2
   exact ⟨k + 1, f', a', .cons hw hr', hc', ha'⟩
  | two t1 t2 => cases t1
theorem chain_fail {ws : List Bs} {fu : Int} (g : GoodWs ws) (hfu : 0 ≤ fu) {cs : Cs} {its : List Itm} (h : ChF cs its) : ∀ (f : Fo) (a j j' n : Nat), CI f cs (n + 63 * its.length + 100) → At (lineT ws) ws a j → Toks ws j its j' → ∃ k f' a' cs', RunN (lineT ws) fu k f a f' a' ∧ WordR (lineT ws) fu f' a' f' a' true (-22) ∧ CI f' cs' (n + 100) := by
 induction h with
 | here hn =>
  intro f a j j' n hc ha ht
  cases ht with
  | one t1 t2 => exact ⟨0, f, a, _, .nil f a, step_no (n := n) g (hc.le (by omega)) ha t1 hn hfu, hc.le (by omega)⟩
  | two t1 t2 => cases t1
 | lay hr h2 ih =>
  rename_i r
  intro f a j j' n hc ha ht
  rw [List.length_cons] at hc
  cases ht with
  | one t1 t2 =>
   obtain ⟨f1, a1, hw, hc1, ha1⟩ := step_lay (n := n + 63 * r.length + 63) g (hc.le (by omega)) ha t1 hr hfu
   obtain ⟨k, f', a', cs', hr', hc', hd'⟩ := ih f1 a1 _ j' n (hc1.le (by omega)) ha1 t2
   exact ⟨k + 1, f', a', cs', .cons hw hr', hc', hd'⟩
  | two t1 t2 =>
   obtain ⟨f1, a1, hw, hc1, ha1⟩ := step_two (n := n + 63 * r.length + 63) g (hc.le (by omega)) ha t1 hr hfu
   obtain ⟨k, f', a', cs', hr', hc', hd'⟩ := ih f1 a1 _ j' n (hc1.le (by omega)) ha1 t2
   exact ⟨k + 1, f', a', cs', .cons hw hr', hc', hd'⟩
 | br hb h2 ih =>
  rename_i r
  intro f a j j' n hc ha ht
  rw [List.length_cons] at hc
  cases ht with
  | one t1 t2 =>
   obtain ⟨f1, a1, hw, hc1, ha1⟩ := step_br (n := n + 63 * r.length + 63) g (hc.le (by omega)) ha t1 hb hfu
   obtain ⟨k, f', a', cs', hr', hc', hd'⟩ := ih f1 a1 _ j' n (hc1.le (by omega)) ha1 t2
   exact ⟨k + 1, f', a', cs', .cons hw hr', hc', hd'⟩
  | two t1 t2 => cases t1
def freeF (f : Fo) : Fo := ⟨withMH f.v (freeD f.v.m) f.v.here, f.c⟩
attribute [local irreducible] Decidable.decide awp ARun regK toK
set_option maxHeartbeats 8000000 in
theorem line_ok (f0 f1 : Fo) (s : Bs) (fu : Int) (hfu : 0 ≤ fu) (k a1 a2 : Nat) (hrun : RunN s fu k f0 0 f1 a1) (hend : WordR s fu f1 a1 f1 a2 false 0) : FnC Tryz.prog 7 [.agg (encFo f0), St s, .val (.int .i64 fu)] (.tup [.agg (encFo (freeF f1)), .val (.int .i64 fu), .val (.int .i64 0)]) := by
 have e0 : decide (fu < 0) = false := decide_eq_false (by omega)
 have z := z00
 have z1 : ((0 : Int) != 0) = false := by simp
 have c9 := Mem.ref_free_c f1.v.m
 unfold WordR at hend
 refine goF Tryz.func7 (closedL_cons (.agg (encFo_closed f0)) (closedL_cons (.val _) (closedL_cons (.val _) closedL_nil))) (fun w0 st0 => ?_)
 dsimp only [frOf]
 (repeat' (first | refine goA ?_ | refine goB ?_ | fail))
 refine awp_loopT (T := Bool × Nat × Fo × Nat × Nat) (fun t => ⟨[(6, .ptr 6 1 0 0), (9, .ptr 9 7 0 0), (1, St s), (2, .val (.int .i64 fu)), (10, .val (.int .i64 (t.2.2.2.1 : Nat))), (11, .val (.bool t.1)), (12, .val (.int .i64 0))], [(9, some ⟨7, 30, [encFo t.2.2.1]⟩), (6, some ⟨1, 30, [[.val (.int .i64 0), .val (.int .i64 0), .val (.int .i64 0), .val (.int .i64 0), .val (.int .i64 0), .sl 0 true [], .sl 0 true [], .val (.int .i64 0), .sl 0 true [], .sl 0 true [], .sl 0 true [], .sl 0 true [], .val (.int .i64 0), .sl 0 true [], .sl 0 true [], .val (.bool false), .sl 0 true [], .val (.int .i64 0), .val (.int .i64 0), .val (.int .i64 0), .val (.int .i64 0), .val (.int .i64 0), .sl 0 true [], .val (.int .i64 0), .sl 0 true [], .val (.int .i64 0), .val (.int .i64 0), .val (.int .i64 0), .val (.bool false), .val (.int .i64 0)]]⟩)], t.2.2.2.2⟩) (fun t => (t.1 = true → RunN s fu t.2.1 t.2.2.1 t.2.2.2.1 f1 a1) ∧ (t.1 = false → t.2.2.1 = f1)) (fun t => if t.1 = true then t.2.1 + 1 else 0) (true, k, f0, 0, _) ⟨fun _ => hrun, fun h => by cases h⟩ ⟨⟨rfl, rfl, rfl, rfl, rfl, rfl, rfl, trivial⟩, ⟨rfl, rfl, trivial⟩, Nat.le_refl _⟩ (fun t ht => ?_)
 obtain ⟨ph, m, f, a, gc⟩ := t
 obtain ⟨h1, h2⟩ := ht
 dsimp only at h1 h2 ⊢
 cases ph with
 | true =>
  have hr := h1 rfl
  cases hr with
  | nil =>
   (repeat' (first | refine goA ?_ | refine cX hend ?_ | refine goB ?_ | fail))
   exact ⟨(false, 0, f1, a2, _), ⟨⟨rfl, rfl, rfl, rfl, rfl, rfl, rfl, trivial⟩, ⟨rfl, rfl, trivial⟩, Nat.le_refl _⟩, ⟨fun h => (by cases h), fun _ => rfl⟩, by dsimp only; rw [if_neg (by decide), if_pos rfl]; omega⟩
  | cons hw hr =>
   unfold WordR at hw
   (repeat' (first | refine goA ?_ | refine cX hw ?_ | refine goB ?_ | fail))
   exact ⟨(true, _, _, _, _), ⟨⟨rfl, rfl, rfl, rfl, rfl, rfl, rfl, trivial⟩, ⟨rfl, rfl, trivial⟩, Nat.le_refl _⟩, ⟨fun _ => hr, fun h => (by cases h)⟩, by dsimp only; rw [if_pos rfl, if_pos rfl]; omega⟩
 | false =>
  obtain rfl := h2 rfl
  (repeat' (first | refine goA ?_ | refine cX c9 ?_ | refine goB ?_ | fail))
  exact awp_ret ⟨_, ResL.cons (ResA.agg rfl rfl rfl rfl rfl rfl rfl (RL.allClosed (encFo_closed (freeF f)))) (ResL.cons (ResA.tmp (.val _)) (ResL.cons (ResA.tmp (.val _)) .nil)), rfl⟩
def badF (f0 f : Fo) : Fo := ⟨⟨f.v.cf, freeD f.v.m, f.v.here, [], f.v.r, f.v.f, f.v.dict, f.v.last, f.v.out, [], false, f0.v.req, f0.v.free, f0.v.next, f.v.arg, f.v.self, f.v.now, f.v.hand⟩, f.c⟩
set_option maxHeartbeats 8000000 in
theorem line_bad (f0 f1 : Fo) (s : Bs) (fu : Int) (hfu : 0 ≤ fu) (k a1 : Nat) (hrun : RunN s fu k f0 0 f1 a1) (hend : WordR s fu f1 a1 f1 a1 true (-22)) (g : Gd f1.v 10) : FnC Tryz.prog 7 [.agg (encFo f0), St s, .val (.int .i64 fu)] (.tup [.agg (encFo (badF f0 (undoD f1))), .val (.int .i64 fu), .val (.int .i64 (-22))]) := by
 have e0 : decide (fu < 0) = false := decide_eq_false (by omega)
 have z := z00
 have z1 : ((-22 : Int) != 0) = true := by simp
 have z2 : ((-22 : Int) == 0) = false := by simp
 have c8 := ref_undo_c f1 g
 have c9 := Mem.ref_free_c (undoD f1).v.m
 unfold WordR at hend
 generalize undoD f1 = fx at *
 refine goF Tryz.func7 (closedL_cons (.agg (encFo_closed f0)) (closedL_cons (.val _) (closedL_cons (.val _) closedL_nil))) (fun w0 st0 => ?_)
 dsimp only [frOf]
 (repeat' (first | refine goA ?_ | refine goB ?_ | fail))
 refine awp_loopT (T := Bool × Nat × Fo × Nat × Nat) (fun t => ⟨[(6, .ptr 6 1 0 0), (3, .ptr 3 0 0 0), (9, .ptr 9 7 0 0), (1, St s), (2, .val (.int .i64 fu)), (10, .val (.int .i64 (t.2.2.2.1 : Nat))), (11, .val (.bool true)), (12, .val (.int .i64 (if t.1 = true then 0 else -22)))], [(9, some ⟨7, 30, [encFo t.2.2.1]⟩), (6, some ⟨1, 30, [[.val (.int .i64 0), .val (.int .i64 0), .val (.int .i64 0), .val (.int .i64 0), .val (.int .i64 0), .sl 0 true [], .sl 0 true [], .val (.int .i64 0), .sl 0 true [], .sl 0 true [], .sl 0 true [], .sl 0 true [], .val (.int .i64 0), .sl 0 true [], .sl 0 true [], .val (.bool false), .sl 0 true [], .val (.int .i64 0), .val (.int .i64 0), .val (.int .i64 0), .val (.int .i64 0), .val (.int .i64 0), .sl 0 true [], .val (.int .i64 0), .sl 0 true [], .val (.int .i64 0), .val (.int .i64 0), .val (.int .i64 0), .val (.bool false), .val (.int .i64 0)]]⟩), (3, some ⟨0, 30, [encFo f0]⟩)], t.2.2.2.2⟩) (fun t => (t.1 = true → RunN s fu t.2.1 t.2.2.1 t.2.2.2.1 f1 a1) ∧ (t.1 = false → t.2.2.1 = f1)) (fun t => if t.1 = true then t.2.1 + 1 else 0) (true, k, f0, 0, _) ⟨fun _ => hrun, fun h => by cases h⟩ ⟨⟨rfl, rfl, rfl, rfl, rfl, rfl, rfl, rfl, trivial⟩, ⟨rfl, rfl, rfl, trivial⟩, Nat.le_refl _⟩ (fun t ht => ?_)
 obtain ⟨ph, m, f, a, gc⟩ := t
 obtain ⟨h1, h2⟩ := ht
 dsimp only at h1 h2 ⊢
 cases ph with
 | true =>
  rw [if_pos rfl]
  have hr := h1 rfl
  cases hr with
  | nil =>
   (repeat' (first | refine goA ?_ | refine cX hend ?_ | refine goB ?_ | fail))
   exact ⟨(false, 0, f1, a1, _), ⟨⟨rfl, rfl, rfl, rfl, rfl, rfl, rfl, rfl, trivial⟩, ⟨rfl, rfl, rfl, trivial⟩, Nat.le_refl _⟩, ⟨fun h => (by cases h), fun _ => rfl⟩, by dsimp only; rw [if_neg (by decide), if_pos rfl]; omega⟩
  | cons hw hr =>
   unfold WordR at hw
   (repeat' (first | refine goA ?_ | refine cX hw ?_ | refine goB ?_ | fail))
   exact ⟨(true, _, _, _, _), ⟨⟨rfl, rfl, rfl, rfl, rfl, rfl, rfl, rfl, trivial⟩, ⟨rfl, rfl, rfl, trivial⟩, Nat.le_refl _⟩, ⟨fun _ => hr, fun h => (by cases h)⟩, by dsimp only; rw [if_pos rfl, if_pos rfl]; omega⟩
 | false =>
  rw [if_neg (by decide)]
  obtain rfl := h2 rfl
  (repeat' (first | refine goA ?_ | refine cX c8 ?_ | refine cX c9 ?_ | refine goB ?_ | fail))
  exact awp_ret ⟨_, ResL.cons (ResA.agg rfl rfl rfl rfl rfl rfl rfl reuT) (ResL.cons (ResA.tmp (.val _)) (ResL.cons (ResA.tmp (.val _)) .nil)), rfl⟩
end Go.Proofs.YtfphgelollhdhaaGreat
namespace Go.Proofs.YtfphgelollhdhaaGreat
open Go Go.RowKit
open Go.Proofs.YtfphgelollhdhaaGreat.Dict (St Bs bs_eq Wd findD NameIn)
open Go.Proofs.YtfphgelollhdhaaGreat.Mem (Mm storeD fetchD freeD)
open Gen (Nod Xts codN codL oneS sizS mayM wr wr_in wr_range okD okDs cntN cntL cnt_ab codN_eq codeS)
set_option maxRecDepth 100000
theorem xs_eq : Gen.XS = XC := by kernel_rfl
def AllIn (l : List Int) : Prop := ∀ c, c ∈ l → In64 c
theorem AllIn.nil : AllIn [] := fun c h => by cases h
theorem AllIn.cons {a : Int} {l : List Int} (h : In64 a) (g : AllIn l) : AllIn (a :: l) := fun c hc => by
 rcases List.mem_cons.1 hc with rfl | hc
 ·exact h
 ·exact g c hc
theorem AllIn.app {a b : List Int} (h : AllIn a) (g : AllIn b) : AllIn (a ++ b) := fun c hc => by
 rcases List.mem_append.1 hc with hc | hc
 ·exact h c hc
 ·exact g c hc
theorem xt_in (s : Bs) : In64 (xtD s) := by
 have h := idx_rng nmsV s 0
 have hl := len_nms
 rw [List.length_map] at hl
 unfold xtD
 exact ⟨by omega, by omega⟩
theorem rgN_at {x : Nod} (h : rgN x) : In64 x.n ∧ rgL x.a ∧ rgL x.b := by
 obtain ⟨k, n, a, b⟩ := x
 rw [rgN] at h
 exact h
def CodIn (self : Int) (t : List Nod) : Prop := rgL t → ∀ pos en, In64 pos → In64 en → AllIn (codL XC self t pos en)
theorem codN_in {self : Int} (hs : In64 self) (x : Nod) (hx : rgN x) (ha : CodIn self x.a) (hb : CodIn self x.b) (pos en : Int) (hp : In64 pos) (he : In64 en) : AllIn (codN XC self x pos en) := by
 obtain ⟨hn, ga, gb⟩ := rgN_at hx
 rw [codN_eq]
 have q1 : In64 XC.lit := xt_in _
 have q2 : In64 XC.zb := xt_in _
 have q3 : In64 XC.br := xt_in _
 have q4 : In64 XC.doo := xt_in _
 have q5 : In64 XC.qdo := xt_in _
 have q6 : In64 XC.lp := xt_in _
 have q7 : In64 XC.plp := xt_in _
 have q8 : In64 XC.unl := xt_in _
 have q9 : In64 XC.ex := xt_in _
 (repeat' split) <;> (repeat' (first
  | assumption
  | exact AllIn.nil
  | exact wr_range _
  | exact ha ga _ _ (by first | assumption | exact wr_range _) (by first | assumption | exact wr_range _)
  | exact hb gb _ _ (by first | assumption | exact wr_range _) (by first | assumption | exact wr_range _)
  | refine AllIn.app ?_ ?_
  | refine AllIn.cons ?_ ?_))
theorem cod_in {self : Int} (hs : In64 self) : ∀ (M : Nat) (t : List Nod), cntL t < M → CodIn self t
 | 0, t, h => by omega
 | M + 1, [], h => fun _ pos en _ _ => by rw [codL]; exact AllIn.nil
 | M + 1, x :: t, h => fun hr pos en hp he => by
  rw [cntL] at h
  have hab := cnt_ab x
  rw [rgL] at hr
  rw [codL]
  exact (codN_in hs x hr.1 (cod_in hs M x.a (by omega)) (cod_in hs M x.b (by omega)) pos en hp he).app (cod_in hs M t (by omega) hr.2 _ _ (wr_range _) he)
theorem f_colon : (findD D0 [58]).2.2 = true ∧ kdW (findD D0 [58]).1 = 300 ∧ (findD D0 [58]).1.fl / 4 % 2 = 0 ∧ nameS 300 = [58] := ⟨by kernel_rfl, by kernel_rfl, by kernel_rfl, by kernel_rfl⟩
theorem f_semi : (findD D0 [59]).2.2 = true ∧ kdW (findD D0 [59]).1 = 301 ∧ (findD D0 [59]).1.fl = 5 ∧ nameS 301 = [59] := ⟨by kernel_rfl, by kernel_rfl, by kernel_rfl, by kernel_rfl⟩
theorem gd_v1 : Gd v1 100 := by
 have hl := v1_bl
 exact ⟨⟨by omega, by rw [v1_ol]; omega, by rw [v1_here]; omega, by rw [v1_here, hl]; omega⟩, by omega, by rw [v1_dict, d0_l]; omega, by rw [v1_dict]; exact fun w hw => ⟨by have := (wd_at hw).nm; omega, (wd_at hw).fl⟩, by rw [v1_hand]; exact Nat.zero_le _⟩
theorem kd_v1 {x : Wd} (hx : x ∈ D0) : kindD v1 x.xt = (kdW x, 0) := by
 have h := wd_at hx
 have h1 := h.lo
 have h2 := h.hi
 have h3 := h.al
 have e : x.xt = ((8 * (x.xt / 8).toNat : Nat) : Int) := by omega
 rw [e]
 refine kd_n (N := 512) (f := f0) v1_fl.b (by omega) (n := kdW x) rfl ?_
 rcases h.kd with h | h
 ·exact .inl h
 ·exact .inr (.inr h.1)
theorem w_colon {ws : List Bs} (g : GoodWs ws) {f1 : Fo} (hb : beginD ⟨v1, cp0⟩ nIt false 0 = (f1, 0)) : WordR (lineT ws) 100 ⟨v1, cp0⟩ 0 f1 5 true 0 := by
 have hl := line_len g
 have h2 : 2 ≤ (lineT ws).length := by
  rw [line_eq]
  simp [nIt]
 obtain ⟨e1, e2, e3, e4⟩ := f_colon
 have hst : fetchD v1.m 8 = (0, 0) := ft_n (N := 512) (f := f0) v1_fl.b (k := 1) (by omega) (by kernel_rfl) (by omega)
 have cc := compil_c ⟨v1, cp0⟩ 0 (by show v1.m.b.length ≤ _; rw [v1_bl]; omega) hst false (.inl ⟨rfl, rfl⟩)
 have cS := spec_made ⟨v1, cp0⟩ (lineT ws) (2 : Nat) 100 [58] ⟨f1, lineT ws, (5 : Nat), 100, 0⟩ (makes_colon ⟨v1, cp0⟩ (lineT ws) 2 100 nIt 5 (by omega) (by decide) h2 (line_it ws) (by decide) f1 gd_v1 hb)
 have hwd := wd_at (find_in e1)
 have hkd := kd_v1 (find_in e1)
 rw [e2] at hkd
 rw [← e4] at cS
 exact w15_spec_co0 ⟨v1, cp0⟩ (lineT ws) 0 100 [58] 2 (by omega) (by omega) (Nat.zero_le _) (line_colon ws) (by decide) (by decide) (by show v1.dict.length ≤ _; rw [v1_dict, d0_l]; omega) gd_v1.ni (findD D0 [58]).1 (findD D0 [58]).2.1 (by rw [show (⟨v1, cp0⟩ : Fo).v.dict = D0 from v1_dict]; exact Prod.ext rfl (Prod.ext rfl e1)) 300 (by show v1.m.b.length ≤ _; rw [v1_bl]; omega) hkd hwd.fl cc ⟨by omega, by omega⟩ (by rw [e3]; rfl) (by decide) ⟨f1, lineT ws, (5 : Nat), 100, 0⟩ rfl cS
theorem w_semi {ws : List Bs} (g : GoodWs ws) {f f' : Fo} {cs : Cs} {n a : Nat} (h : CI f cs (n + 100)) (ha : At (lineT ws) ws a ws.length) (he : endD' f = (f', 0)) : WordR (lineT ws) 100 f a f' (lineT ws).length true 0 := by
 have hl := line_len g
 obtain ⟨e1, e2, e3, e4⟩ := f_semi
 have ht := (at_end ha).1
 have ex : f.c.dict = 167 := by rw [h.c]; rfl
 have cS := spec_made f (lineT ws) ((lineT ws).length : Nat) 100 [59] ⟨f', lineT ws, ((lineT ws).length : Nat), 100, 0⟩ (makes_semi f (lineT ws) ((lineT ws).length : Nat) 100 f' (h.gd (by omega)) (fun _ => by rw [ex, h.dict, di_l]; exact ⟨by decide, by decide⟩) he)
 have hwd := wd_at (find_in e1)
 have hkd := h.kd (find_in e1)
 rw [e2] at hkd
 rw [← e4] at cS
 exact w15_spec_tt0 f (lineT ws) a 100 [59] _ (by omega) (by omega) ha.le ht (by decide) (by decide) (by rw [h.dict, di_l]; omega) (by rw [h.dict]; exact di_in) _ _ (find_ci h e1) 301 (by rw [h.mb]; omega) hkd hwd.fl (cc_ci h) (by rw [e3]; rfl) ⟨by omega, by omega⟩ (by rw [e3]; rfl) (by decide) ⟨f', lineT ws, ((lineT ws).length : Nat), 100, 0⟩ rfl cS
theorem w_end {ws : List Bs} (g : GoodWs ws) {a : Nat} (f : Fo) (ha : At (lineT ws) ws a ws.length) : WordR (lineT ws) 100 f (lineT ws).length f (lineT ws).length false 0 := by
 have hl := line_len g
 exact w15_end f (lineT ws) (lineT ws).length 100 (lineT ws).length (by omega) (by omega) (Nat.le_refl _) (at_end ha).2
end Go.Proofs.YtfphgelollhdhaaGreat
