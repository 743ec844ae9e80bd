/- zI1, zI2, zI3, zI4, zH1. -/
import Derived.Test.YtpkkplojpjakiaaGreatW1
import Derived.Test.YtpkkplojpjakiaaGreatW2
import Derived.Test.YtpkkplojpjakiaaGreatW3
import Derived.Test.YtpkkplojpjakiaaGreatW4
import Derived.Test.YtpkkplojpjakiaaGreatzW5
import Derived.Test.YtpkkplojpjakiaaGreatzW6
import Derived.Test.YtpkkplojpjakiaaGreatzW7
import Derived.Test.YtpkkplojpjakiaaGreatzW8
import Derived.Test.YtpkkplojpjakiaaGreatzW9
import Derived.Test.YtpkkplojpjakiaaGreatzW10
import Derived.Test.YtpkkplojpjakiaaGreatzW11
import Derived.Test.YtpkkplojpjakiaaGreatzW12
import Derived.Test.YtpkkplojpjakiaaGreatzW13
import Derived.Test.YtpkkplojpjakiaaGreatzW14
import Derived.Test.YtpkkplojpjakiaaGreatzW15
import Derived.Test.YtpkkplojpjakiaaGreatzW16
import Derived.Test.YtpkkplojpjakiaaGreatzW17
import Derived.Test.YtpkkplojpjakiaaGreatzW18
import Derived.Test.YtpkkplojpjakiaaGreatRows
set_option linter.unusedVariables false
set_option linter.unusedSimpArgs false
namespace Go.Proofs.YtpkkplojpjakiaaGreat
open Go Go.RowKit
open Go.Proofs.YtpkkplojpjakiaaGreat.Dict (St Bs)
open Go.Proofs.YtpkkplojpjakiaaGreat.Mem (Mm storeD fetchD commaD alignD writeD padN thereD partD putB putB_len numB byteAt byteAt_nat uAt textD)
set_option maxRecDepth 100000
theorem putB_of (l : Bs) (h : l.length = 8) : ∃ n, putB n = l := by
 match l, h with
 | [a, b, c, d, e, f, g, k], _ =>
  refine ⟨numB [a, b, c, d, e, f, g, k], ?_⟩
  have key : ∀ (n : Int) (i : Nat) (x : UInt8), uAt n i % 256 = (x.toNat : Int) → byteAt n i = x := fun n i x h => UInt8.toNat_inj.1 (by have := byteAt_nat n i; omega)
  have ha := a.toNat_lt
  have hb := b.toNat_lt
  have hc := c.toNat_lt
  have hd := d.toNat_lt
  have he := e.toNat_lt
  have hf := f.toNat_lt
  have hg := g.toNat_lt
  have hk := k.toNat_lt
  show [byteAt _ 0, byteAt _ 1, byteAt _ 2, byteAt _ 3, byteAt _ 4, byteAt _ 5, byteAt _ 6, byteAt _ 7] = _
  have hn : numB [a, b, c, d, e, f, g, k] = a.toNat + 256 * (b.toNat + 256 * (c.toNat + 256 * (d.toNat + 256 * (e.toNat + 256 * (f.toNat + 256 * (g.toNat + 256 * (k.toNat : Int))))))) := by simp [numB]
  rw [hn]
  rw [key _ 0 a (by simp only [uAt]; omega), key _ 1 b (by simp only [uAt]; omega), key _ 2 c (by simp only [uAt]; omega), key _ 3 d (by simp only [uAt]; omega), key _ 4 e (by simp only [uAt]; omega), key _ 5 f (by simp only [uAt]; omega), key _ 6 g (by simp only [uAt]; omega), key _ 7 k (by simp only [uAt]; omega)]
theorem cells_ext {f : Nat → Int} {h : Nat} : ∀ (d : Nat) (b : Bs), b.length = 8 * (h + d) → b.take (8 * h) = cellsC f h → ∃ g, b = cellsC g (h + d) ∧ ∀ j, j < h → g j = f j
 | 0, b, hl, ht => ⟨f, by rw [Nat.add_zero, ← ht]; exact (List.take_of_length_le (show b.length ≤ 8 * h by omega)).symm, fun _ _ => rfl⟩
 | d + 1, b, hl, ht => by
  obtain ⟨g, hg, hj⟩ := cells_ext (f := f) (h := h) d (b.take (8 * (h + d))) (by rw [List.length_take]; omega) (by rw [List.take_take, Nat.min_eq_left (show 8 * h ≤ 8 * (h + d) by omega)]; exact ht)
  obtain ⟨x, hx⟩ := putB_of (b.drop (8 * (h + d))) (by rw [List.length_drop]; omega)
  refine ⟨updC g (h + d) x, ?_, fun j hh => ?_⟩
  ·show b = cellsC (updC g (h + d) x) (h + d) ++ putB (updC g (h + d) x (h + d))
   rw [show updC g (h + d) x (h + d) = x from if_pos rfl, cellsC_congr (f := updC g (h + d) x) (g := g) (fun j hj => if_neg (by omega)), ← hg, hx, List.take_append_drop]
  ·rw [show updC g (h + d) x j = g j from if_neg (by omega), hj j hh]
theorem cellsC_take (f : Nat → Int) {k : Nat} : ∀ {n : Nat}, k ≤ n → (cellsC f n).take (8 * k) = cellsC f k
  | 0, h => by obtain rfl : k = 0 := by omega
               rfl
  | n + 1, h => by
    by_cases e : k = n + 1
    · subst e
      exact List.take_of_length_le (by rw [cellsC_len]; omega)
    · rw [cellsC, List.take_append_of_le_length (by rw [cellsC_len]; omega)]
      exact cellsC_take f (by omega)
theorem part_take {α : Type} (b : List α) (a l m : Nat) (h : a + l ≤ m) : (b.drop a).take l = ((b.take m).drop a).take l := by
 rw [List.drop_take, List.take_take, Nat.min_eq_left (by omega)]
theorem write_b {m : Mm} {a : Nat} {b : Bs} (h : a + b.length ≤ m.b.length) : (writeD m (a : Int) b).1.b = overL m.b a b := by
 have ht : thereD m.b.length ((a : Nat) : Int) b.length = true := by
  unfold thereD
  rw [decide_eq_true_eq]
  omega
 by_cases hb : b = []
 ·subst hb
  unfold writeD
  rw [if_neg (by rw [ht]; simp), if_pos rfl]
  unfold overL
  simp
 ·rw [Mem.writeD_yes ht hb]
  rfl
theorem text_cells {f : Nat → Int} {h : Nat} {b : Bs} (s : Bs) (hb : b = cellsC f 256) (hh : h + (s.length + 7) / 8 ≤ 256) :
  ∃ g, overL (overL b (8 * h) s) (8 * h + s.length) (List.replicate (padN ((8 * h + s.length : Nat) : Int)) 0) = cellsC g 256 ∧ (∀ j, j < h → g j = f j) ∧ ((cellsC g 256).drop (8 * h)).take s.length = s := by
 have hl : b.length = 2048 := by rw [hb, cellsC_len]
 have hp : padN ((8 * h + s.length : Nat) : Int) + (8 * h + s.length) ≤ 2048 := by unfold padN; omega
 generalize hz : List.replicate (padN ((8 * h + s.length : Nat) : Int)) (0 : UInt8) = z
 have hzl : z.length = padN ((8 * h + s.length : Nat) : Int) := by rw [← hz, List.length_replicate]
 have l1 : (overL b (8 * h) s).length = 2048 := by rw [overL_length (by omega), hl]
 have l2 : (overL (overL b (8 * h) s) (8 * h + s.length) z).length = 2048 := by rw [overL_length (by omega), l1]
 have lp : (b.take (8 * h)).length = 8 * h := by rw [List.length_take]; omega
 have lq : (b.take (8 * h) ++ s).length = 8 * h + s.length := by rw [List.length_append, lp]
 have e1 : overL b (8 * h) s = (b.take (8 * h) ++ s) ++ b.drop (8 * h + s.length) := by unfold overL; rw [List.append_assoc]
 have e2 : ∃ r, overL (overL b (8 * h) s) (8 * h + s.length) z = b.take (8 * h) ++ (s ++ r) := by
  refine ⟨z ++ (overL b (8 * h) s).drop (8 * h + s.length + z.length), ?_⟩
  conv => lhs; unfold overL
  rw [show (b.take (8 * h) ++ (s ++ b.drop (8 * h + s.length))) = (b.take (8 * h) ++ s) ++ b.drop (8 * h + s.length) by rw [List.append_assoc], ← e1]
  rw [show (overL b (8 * h) s).take (8 * h + s.length) = b.take (8 * h) ++ s by rw [e1, List.take_left' lq], List.append_assoc]
 obtain ⟨r, hr⟩ := e2
 generalize overL (overL b (8 * h) s) (8 * h + s.length) z = b2 at *
 obtain ⟨g, hg, hj⟩ := cells_ext (f := f) (h := h) (256 - h) b2 (by omega) (by rw [hr, List.take_left' lp, hb, cellsC_take f (by omega)])
 rw [show h + (256 - h) = 256 by omega] at hg
 refine ⟨g, hg, hj, ?_⟩
 rw [← hg, hr, List.drop_left' lp, List.take_left]
theorem mlay_b {m : Mm} {a : Nat} {b : Bs} (h : a + b.length ≤ m.b.length) : (Mem.layD m (a : Int) b).1.b = overL m.b a b ∧ (Mem.layD m (a : Int) b).2 = (((a + b.length : Nat) : Int), 0) := by
 have h2 : ¬ (m.b.length : Int) - ((a : Nat) : Int) < b.length := by omega
 refine ⟨?_, by rw [layD_ok h2]; rfl⟩
 unfold Mem.layD
 rw [if_neg h2]
 exact write_b h
theorem vlay_fl {v : V} {f : Nat → Int} {h : Nat} (hv : Fl v f h) (n : Int) (hh : h < 256) : ∃ x, vlayD v n = (x, 0) ∧ Fl x (updC f h n) (h + 1) := by
 have hc := comma_fl n hv.b hh
 rw [← hv.here] at hc
 exact ⟨withMH v (commaD v.m v.here n).1 (commaD v.m v.here n).2.1, by unfold vlayD; rw [hc.2.2], hc.1, hc.2.1⟩
theorem lit_fl {v : V} {f : Nat → Int} {h : Nat} (hv : Fl v f h) (n : Int) (hh : h + 2 ≤ 256) : ∃ x, outD (litK v n) v = (x, 0) ∧ Fl x (updC (updC f h (xtD nLit)) (h + 1) n) (h + 2) := by
 have hz := cells_fl [xtD nLit, n] (w := wk0 v) hv rfl hh
 exact ⟨_, if_pos hz.2, hz.1⟩
theorem str_fl {v : V} {f : Nat → Int} {h : Nat} (hv : Fl v f h) (s : Bs) (hh : h + 2 + (s.length + 7) / 8 ≤ 256) : ∃ x g, outD (strK v s) v = (x, 0) ∧ Fl x g (h + 2 + (s.length + 7) / 8) ∧ (∀ j, j < h → g j = f j) ∧ g h = xtD nStr ∧ g (h + 1) = s.length ∧ ((cellsC g 256).drop (8 * (h + 2))).take s.length = s := by
 have hs := cells_fl [xtD nStr, (s.length : Int)] (w := wk0 v) hv rfl (by show h + 2 ≤ 256; omega)
 have hk0 : strK0 v s = cellsK v [xtD nStr, (s.length : Int)] := rfl
 have b0 : (cellsK v [xtD nStr, (s.length : Int)]).bad = 0 := hs.2
 have f1 : Fl (cellsK v [xtD nStr, (s.length : Int)]).v (updC (updC f h (xtD nStr)) (h + 1) s.length) (h + 2) := hs.1
 clear hs
 unfold strK
 rw [hk0]
 clear hk0
 generalize cellsK v [xtD nStr, (s.length : Int)] = w at *
 have l1 : w.v.m.b.length = 2048 := by rw [f1.b, cellsC_len]
 have q1 := mlay_b (m := w.v.m) (a := 8 * (h + 2)) (b := s) (by omega)
 rw [f1.here]
 have l2 : (Mem.layD w.v.m ((8 * (h + 2) : Nat) : Int) s).1.b.length = 2048 := by rw [q1.1, overL_length (by omega), l1]
 rw [if_pos b0, if_pos (by rw [q1.2])]
 have hp : padN ((8 * (h + 2) + s.length : Nat) : Int) + (8 * (h + 2) + s.length) = 8 * (h + 2 + (s.length + 7) / 8) := by unfold padN; omega
 have q2 := mlay_b (m := (Mem.layD w.v.m ((8 * (h + 2) : Nat) : Int) s).1) (a := 8 * (h + 2) + s.length) (b := List.replicate (padN ((8 * (h + 2) + s.length : Nat) : Int)) 0) (by rw [List.length_replicate]; omega)
 rw [show (Mem.layD w.v.m ((8 * (h + 2) : Nat) : Int) s).2.1 = ((8 * (h + 2) + s.length : Nat) : Int) by rw [q1.2]]
 unfold alignD
 rw [q1.1] at q2
 obtain ⟨g, g1, g2, g3⟩ := text_cells (h := h + 2) s f1.b (by omega)
 refine ⟨_, g, if_pos rfl, ⟨?_, ?_⟩, fun j hj => ?_, ?_, ?_, g3⟩
 ·show (Mem.layD _ _ _).1.b = _
  rw [q2.1, g1]
 ·show (Mem.layD _ _ _).2.1 = _
  rw [q2.2, List.length_replicate]
  show ((_ : Nat) : Int) = _
  omega
 ·rw [g2 j (by omega), show updC (updC f h (xtD nStr)) (h + 1) s.length j = updC f h (xtD nStr) j from if_neg (by omega), show updC f h (xtD nStr) j = f j from if_neg (by omega)]
 ·rw [g2 h (by omega), show updC (updC f h (xtD nStr)) (h + 1) s.length h = updC f h (xtD nStr) h from if_neg (by omega)]
  exact if_pos rfl
 ·rw [g2 (h + 1) (by omega)]
  exact if_pos rfl
def nTy : Bs := [84, 89, 80, 69]
def nEx : Bs := [40, 101, 120, 105, 116, 41]
structure Txt (s : Bs) (n : Int) (a b c d x : V) (f : Nat → Int) : Prop where
 ea : vlayD v0 256 = (a, 0)
 eb : outD (strK a s) a = (b, 0)
 ec : vlayD b (xtD nTy) = (c, 0)
 ed : outD (litK c n) c = (d, 0)
 ex : vlayD d (xtD nEx) = (x, 0)
 oa : Okk a 5
 ob : Okk b 5
 oc : Okk c 5
 od : Okk d 5
 up : x = withMH v0 x.m x.here
 mb : x.m.b = cellsC f 256
 lo : ∀ j, j < 171 → f j = f0 j
 c1 : f 171 = 256
 c2 : f 172 = xtD nStr
 c3 : f 173 = s.length
 tx : ((cellsC f 256).drop 1392).take s.length = s
 c4 : f (174 + (s.length + 7) / 8) = xtD nTy
 c5 : f (175 + (s.length + 7) / 8) = xtD nLit
 c6 : f (176 + (s.length + 7) / 8) = n
 c7 : f (177 + (s.length + 7) / 8) = xtD nEx
theorem okk_lays {x : V} {k : Nat} (h : Lays v0 x k) (hk : k ≤ 100) : Okk x 5 := by
 have hr : Rng v0 := ⟨by show (0 : Int) ≤ 1368; decide, by rw [v0_fl.b, cellsC_len]; show (1368 : Int) ≤ _; decide⟩
 have h1 := h.rng hr
 have h2 := h.bl
 have h3 : v0.m.b.length = 2048 := by rw [v0_fl.b, cellsC_len]
 have h4 := h.ol
 have h5 : v0.m.old.length = 0 := rfl
 exact ⟨by omega, by omega, h1.h0, h1.h1⟩
theorem txt (s : Bs) (n : Int) (hs : s.length ≤ 100) : ∃ a b c d x f, Txt s n a b c d x f := by
 have hr : Rng v0 := ⟨by show (0 : Int) ≤ 1368; decide, by rw [v0_fl.b, cellsC_len]; show (1368 : Int) ≤ _; decide⟩
 have hq : (s.length + 7) / 8 ≤ 13 := by omega
 obtain ⟨a, ea, fa⟩ := vlay_fl v0_fl 256 (by omega)
 have la : Lays v0 a 1 := by have := lays_vlay 256 hr; rw [ea] at this; exact this
 obtain ⟨b, g, eb, fb, g1, g2, g3, g4⟩ := str_fl fa s (by omega)
 have lb : Lays v0 b (1 + 4) := by have := lays_str s (la.rng hr); rw [eb] at this; exact la.trans this
 obtain ⟨c, ec, fc⟩ := vlay_fl fb (xtD nTy) (by omega)
 have lc : Lays v0 c (1 + 4 + 1) := by have := lays_vlay (xtD nTy) (lb.rng hr); rw [ec] at this; exact lb.trans this
 obtain ⟨d, ed, fd⟩ := lit_fl fc n (by omega)
 have ld : Lays v0 d (1 + 4 + 1 + 2) := by have := lays_lit n (lc.rng hr); rw [ed] at this; exact lc.trans this
 obtain ⟨x, ex, fx⟩ := vlay_fl fd (xtD nEx) (by omega)
 have lx : Lays v0 x (1 + 4 + 1 + 2 + 1) := by have := lays_vlay (xtD nEx) (ld.rng hr); rw [ex] at this; exact ld.trans this
 generalize hQ : (s.length + 7) / 8 = q at *
 generalize hF : updC (updC (updC (updC g (171 + 1 + 2 + q) (xtD nTy)) (171 + 1 + 2 + q + 1) (xtD nLit)) (171 + 1 + 2 + q + 1 + 1) n) (171 + 1 + 2 + q + 1 + 2) (xtD nEx) = f at *
 have lo : ∀ j, j < 174 + q → f j = g j := fun j hj => by
  subst hF
  unfold updC
  rw [if_neg (by omega), if_neg (by omega), if_neg (by omega), if_neg (by omega)]
 have hg : ∀ j, j < 171 → g j = f0 j := fun j hj => by rw [g1 j (by omega)]; exact if_neg (by omega)
 refine ⟨a, b, c, d, x, f, ⟨ea, eb, ec, ed, ex, okk_lays la (by omega), okk_lays lb (by omega), okk_lays lc (by omega), okk_lays ld (by omega), lx.eq, fx.b, fun j hj => by rw [lo j (by omega), hg j hj], ?_, ?_, ?_, ?_, ?_, ?_, ?_, ?_⟩⟩
 ·rw [lo _ (by omega), g1 _ (by omega)]
  exact if_pos rfl
 ·rw [lo _ (by omega)]
  exact g2
 ·rw [lo _ (by omega)]
  exact g3
 ·have e : (cellsC f 256).take (8 * (174 + q)) = (cellsC g 256).take (8 * (174 + q)) := by
   rw [cellsC_take f (by omega), cellsC_take g (by omega)]
   exact cellsC_congr lo
  rw [part_take _ 1392 s.length (8 * (174 + q)) (by omega), e, ← part_take _ 1392 s.length (8 * (174 + q)) (by omega)]
  exact g4
 ·rw [hQ, ← hF]; unfold updC
  rw [if_neg (by omega), if_neg (by omega), if_neg (by omega), if_pos (by omega)]
 ·rw [hQ, ← hF]; unfold updC
  rw [if_neg (by omega), if_neg (by omega), if_pos (by omega)]
 ·rw [hQ, ← hF]; unfold updC
  rw [if_neg (by omega), if_pos (by omega)]
 ·rw [hQ, ← hF]; unfold updC
  rw [if_pos (by omega)]
end Go.Proofs.YtpkkplojpjakiaaGreat
namespace Go.Proofs.YtpkkplojpjakiaaGreat
open Go Go.RowKit
open Go.Proofs.YtpkkplojpjakiaaGreat.Dict (St Bs bs_eq Wd encW encWs closed_ws)
open Go.Proofs.YtpkkplojpjakiaaGreat.Mem (Mm encM encBs closed_bs encP encP_closed closed_m storeD fetchD thereD textD)
open Go.Proofs.YtpkkplojpjakiaaGreat.Stk (encS closed_s encI_closed)
set_option maxRecDepth 100000
theorem q_al0 : ((ByteArray.mk #[65, 76, 73, 71, 78, 69, 68]).toList == (ByteArray.mk #[78, 69, 71, 65, 84, 69]).toList) = false := by rw [bs_eq [65, 76, 73, 71, 78, 69, 68] [78, 69, 71, 65, 84, 69]]; exact decide_eq_false (by decide)
theorem q_al1 : ((ByteArray.mk #[65, 76, 73, 71, 78, 69, 68]).toList == (ByteArray.mk #[65, 66, 83]).toList) = false := by rw [bs_eq [65, 76, 73, 71, 78, 69, 68] [65, 66, 83]]; exact decide_eq_false (by decide)
theorem q_al2 : ((ByteArray.mk #[65, 76, 73, 71, 78, 69, 68]).toList == (ByteArray.mk #[73, 78, 86, 69, 82, 84]).toList) = false := by rw [bs_eq [65, 76, 73, 71, 78, 69, 68] [73, 78, 86, 69, 82, 84]]; exact decide_eq_false (by decide)
theorem q_al3 : ((ByteArray.mk #[65, 76, 73, 71, 78, 69, 68]).toList == (ByteArray.mk #[49, 43]).toList) = false := by rw [bs_eq [65, 76, 73, 71, 78, 69, 68] [49, 43]]; exact decide_eq_false (by decide)
theorem q_al4 : ((ByteArray.mk #[65, 76, 73, 71, 78, 69, 68]).toList == (ByteArray.mk #[49, 45]).toList) = false := by rw [bs_eq [65, 76, 73, 71, 78, 69, 68] [49, 45]]; exact decide_eq_false (by decide)
theorem q_al5 : ((ByteArray.mk #[65, 76, 73, 71, 78, 69, 68]).toList == (ByteArray.mk #[50, 42]).toList) = false := by rw [bs_eq [65, 76, 73, 71, 78, 69, 68] [50, 42]]; exact decide_eq_false (by decide)
theorem q_al6 : ((ByteArray.mk #[65, 76, 73, 71, 78, 69, 68]).toList == (ByteArray.mk #[50, 47]).toList) = false := by rw [bs_eq [65, 76, 73, 71, 78, 69, 68] [50, 47]]; exact decide_eq_false (by decide)
theorem q_al7 : ((ByteArray.mk #[65, 76, 73, 71, 78, 69, 68]).toList == (ByteArray.mk #[48, 61]).toList) = false := by rw [bs_eq [65, 76, 73, 71, 78, 69, 68] [48, 61]]; exact decide_eq_false (by decide)
theorem q_al8 : ((ByteArray.mk #[65, 76, 73, 71, 78, 69, 68]).toList == (ByteArray.mk #[48, 60]).toList) = false := by rw [bs_eq [65, 76, 73, 71, 78, 69, 68] [48, 60]]; exact decide_eq_false (by decide)
theorem q_al9 : ((ByteArray.mk #[65, 76, 73, 71, 78, 69, 68]).toList == (ByteArray.mk #[48, 60, 62]).toList) = false := by rw [bs_eq [65, 76, 73, 71, 78, 69, 68] [48, 60, 62]]; exact decide_eq_false (by decide)
theorem q_al10 : ((ByteArray.mk #[65, 76, 73, 71, 78, 69, 68]).toList == (ByteArray.mk #[48, 62]).toList) = false := by rw [bs_eq [65, 76, 73, 71, 78, 69, 68] [48, 62]]; exact decide_eq_false (by decide)
theorem q_al11 : ((ByteArray.mk #[65, 76, 73, 71, 78, 69, 68]).toList == (ByteArray.mk #[67, 69, 76, 76, 83]).toList) = false := by rw [bs_eq [65, 76, 73, 71, 78, 69, 68] [67, 69, 76, 76, 83]]; exact decide_eq_false (by decide)
theorem q_al12 : ((ByteArray.mk #[65, 76, 73, 71, 78, 69, 68]).toList == (ByteArray.mk #[67, 69, 76, 76, 43]).toList) = false := by rw [bs_eq [65, 76, 73, 71, 78, 69, 68] [67, 69, 76, 76, 43]]; exact decide_eq_false (by decide)
theorem q_al13 : ((ByteArray.mk #[65, 76, 73, 71, 78, 69, 68]).toList == (ByteArray.mk #[65, 76, 73, 71, 78, 69, 68]).toList) = true := by rw [bs_eq [65, 76, 73, 71, 78, 69, 68] [65, 76, 73, 71, 78, 69, 68]]; exact decide_eq_true rfl
def alN (a : Int) : Int := if a % 8 = 0 then a else a - a % 8 + 8
theorem alN_of (h n : Nat) : alN ((8 * h : Nat) + (n : Nat) : Int) = ((8 * (h + (n + 7) / 8) : Nat) : Int) := by
 unfold alN
 split <;> omega
attribute [local irreducible] Decidable.decide awp ARun regK toK
theorem div8 (a : Int) (ha : 0 ≤ a ∧ a ≤ 1000000) : FnC Tryz.prog 116 [.val (.int .i64 a), .val (.int .i64 8)] (.tup [.val (.int .i64 (a / 8)), .val (.int .i64 (a % 8)), .val (.int .i64 0)]) := by
 have d0 : ((8 : Int) == 0) = false := by simp
 have hq : BinR Tryz.prog .quo 3 (.int .i64 a) (.int .i64 8) (.int .i64 (a / 8)) := bin_wrap (fun w => by simp [binOp, Op.intDiv]; rw [Int.tdiv_eq_ediv_of_nonneg ha.1, IntKind.wrap_i64]; omega)
 have d1 : decide (a - a / 8 * 8 < 0) = false := decide_eq_false (by omega)
 have d2 : decide ((0 : Int) < a - a / 8 * 8) = false ∨ decide ((0 : Int) < a - a / 8 * 8) = true := by cases decide ((0 : Int) < a - a / 8 * 8) <;> simp
 have e1 : a % 8 = a - a / 8 * 8 := by omega
 have d3 : decide ((8 : Int) < 0) = false := decide_eq_false (by omega)
 have d4 : decide ((0 : Int) < 8) = true := decide_eq_true (by omega)
 rw [e1]
 rcases d2 with d2 | d2
 ·refine goF Tryz.func116 (closedL_cons (.val _) (closedL_cons (.val _) closedL_nil)) (fun w0 st0 => ?_)
  dsimp only [frOf]
  (repeat' (first | refine ARun.bin rfl rfl hq rfl (guardF_spec rfl) ?_ | refine goA ?_ | refine goB ?_ | fail))
  exact awp_ret ⟨_, ResL.cons (ResA.tmp (.val _)) (ResL.cons (ResA.tmp (.val _)) (ResL.cons (ResA.tmp (.val _)) .nil)), rfl⟩
 ·refine goF Tryz.func116 (closedL_cons (.val _) (closedL_cons (.val _) closedL_nil)) (fun w0 st0 => ?_)
  dsimp only [frOf]
  (repeat' (first | refine ARun.bin rfl rfl hq rfl (guardF_spec rfl) ?_ | refine goA ?_ | refine goB ?_ | fail))
  exact awp_ret ⟨_, ResL.cons (ResA.tmp (.val _)) (ResL.cons (ResA.tmp (.val _)) (ResL.cons (ResA.tmp (.val _)) .nil)), rfl⟩
set_option maxHeartbeats 4000000 in
theorem one_al (a : Int) (ha : 0 ≤ a ∧ a ≤ 1000000) : FnC Tryz.prog 96 [St [65, 76, 73, 71, 78, 69, 68], .val (.int .i64 a)] (.tup [.val (.int .i64 (alN a)), .val (.bool true)]) := by
 have c1 := div8 a ha
 have n0 := q_al0
 have n1 := q_al1
 have n2 := q_al2
 have n3 := q_al3
 have n4 := q_al4
 have n5 := q_al5
 have n6 := q_al6
 have n7 := q_al7
 have n8 := q_al8
 have n9 := q_al9
 have n10 := q_al10
 have n11 := q_al11
 have n12 := q_al12
 have n13 := q_al13
 unfold alN
 by_cases h : a % 8 = 0
 ·have d1 : (a % 8 == 0) = true := beq_iff_eq.2 h
  rw [if_pos h]
  generalize a % 8 = r at *
  generalize a / 8 = q at *
  refine goF Tryz.func96 (closedL_cons (.val _) (closedL_cons (.val _) closedL_nil)) (fun w0 st0 => ?_)
  dsimp only [frOf]
  (repeat' (first | refine goA ?_ | refine cX c1 ?_ | refine goB ?_ | fail))
  exact awp_ret ⟨_, ResL.cons (ResA.tmp (.val _)) (ResL.cons (ResA.tmp (.val _)) .nil), rfl⟩
 ·have d1 : (a % 8 == 0) = false := beq_eq_false_iff_ne.2 h
  have hr : 0 ≤ a % 8 ∧ a % 8 < 8 := by omega
  rw [if_neg h]
  generalize a % 8 = r at *
  generalize a / 8 = q at *
  refine goF Tryz.func96 (closedL_cons (.val _) (closedL_cons (.val _) closedL_nil)) (fun w0 st0 => ?_)
  dsimp only [frOf]
  (repeat' (first | refine goA ?_ | refine cX c1 ?_ | refine goB ?_ | fail))
  exact awp_ret ⟨_, ResL.cons (ResA.tmp (.val _)) (ResL.cons (ResA.tmp (.val _)) .nil), rfl⟩
set_option maxHeartbeats 8000000 in
theorem code_str (v v1 v2 : V) (ip w : Int) (go over : Bool) (n : Int) (hi : 0 ≤ ip ∧ ip ≤ 100000) (hn : 0 ≤ n ∧ n ≤ 1000) (hb : v.m.b.length ≤ 1000000) (hd : v.d.length ≤ 1000000) (hd1 : v1.d.length ≤ 1000000) (h1 : fetchD v.m ip = (n, 0)) (ht : thereD v.m.b.length (ip + 8) n = true) (h2 : vpushD v (ip + 8) = (v1, 0)) (h3 : vpushD v1 n = (v2, 0)) : FnL Tryz.prog 72 [.ptr 1000 0 0 0, St [40, 115, 116, 114, 41]] [(28, [encRk ⟨v, ip, w, go, over, 0⟩])] (.val (.bool true)) [[encRk ⟨v2, alN (ip + 8 + n), w, go, over, 0⟩]] := by
 have c1 := rget_l v ip w go over ip n hb h1
 have c2 := Mem.ref_there_c v.m (ip + 8) n hb
 rw [ht] at c2
 have c3 := rpushS_l v v1 ip w go over (ip + 8) hd h2
 have c4 := rpushS_l v1 v2 ip w go over n hd1 h3
 have c5 := one_al (ip + 8 + n) ⟨by omega, by omega⟩
 have nt : (!true) = false := rfl
 have n0 := q_st0
 have n1 := q_st1
 have n2 := q_st2
 have n3 := q_st3
 have n4 := q_st4
 have n5 := q_st5
 have n6 := q_st6
 have n7 := q_st7
 have n8 := q_st8
 have n9 := q_st9
 have n10 := q_st10
 have n11 := q_st11
 generalize alN (ip + 8 + n) = y at *
 refine FnL.of_awp (T := tt) (ok := tok) Tryz.func72 (by kernel_rfl) rfl (by kernel_rfl) (by kernel_rfl) (fun w0 st0 lent c0 => ?_)
 dsimp only [frOf, hpFrom, List.length_cons, List.length_nil]
 (repeat' (first | refine goA ?_ | refine ARun.nilCheckP rfl rfl (guardF_spec rfl) ?_ | refine cX c2 ?_ | refine cX c5 ?_ | refine callK 1000 0 28 (encRk ⟨v, ip, w, go, over, 0⟩) (encRk ⟨v, ip, w, go, over, 0⟩) (c1) (encRk_closed _) (encRk_closed _) (RelL.cons (.ptr (j := 0) 0 0 rfl) (RelL.cons (.wk (.same _) (.val _)) (RelL.nil _))) (by first | exact .same _ (.tup closedL_nil) | exact .same _ (.val _) | exact .same _ (.agg (encCf_closed _)) | exact .same _ (.tup (closedL_cons (.agg (encFo_closed _)) (closedL_cons (.val _) closedL_nil))) | exact .same _ (.tup (closedL_cons (closedV _) (closedL_cons (closedLCf _) (closedL_cons (.val _) closedL_nil))))) ?_ | refine callK 1000 0 28 (encRk ⟨v, ip, w, go, over, 0⟩) (encRk ⟨v1, ip, w, go, over, 0⟩) (c3) (encRk_closed _) (encRk_closed _) (RelL.cons (.ptr (j := 0) 0 0 rfl) (RelL.cons (.wk (.same _) (.val _)) (RelL.nil _))) (by first | exact .same _ (.tup closedL_nil) | exact .same _ (.val _) | exact .same _ (.agg (encCf_closed _)) | exact .same _ (.tup (closedL_cons (.agg (encFo_closed _)) (closedL_cons (.val _) closedL_nil))) | exact .same _ (.tup (closedL_cons (closedV _) (closedL_cons (closedLCf _) (closedL_cons (.val _) closedL_nil))))) ?_ | refine callK 1000 0 28 (encRk ⟨v1, ip, w, go, over, 0⟩) (encRk ⟨v2, ip, w, go, over, 0⟩) (c4) (encRk_closed _) (encRk_closed _) (RelL.cons (.ptr (j := 0) 0 0 rfl) (RelL.cons (.wk (.same _) (.val _)) (RelL.nil _))) (by first | exact .same _ (.tup closedL_nil) | exact .same _ (.val _) | exact .same _ (.agg (encCf_closed _)) | exact .same _ (.tup (closedL_cons (.agg (encFo_closed _)) (closedL_cons (.val _) closedL_nil))) | exact .same _ (.tup (closedL_cons (closedV _) (closedL_cons (closedLCf _) (closedL_cons (.val _) closedL_nil))))) ?_ | refine goB ?_ | fail))
 first
  | exact ⟨_, ResL.cons (ResA.tmp (.val _)) .nil, rfl, ⟨_, rfl, RlR.closed (one_cl (encRk_closed ⟨v2, y, w, go, over, 0⟩))⟩, trivial⟩
  | exact awp_ret ⟨_, ResL.cons (ResA.tmp (.val _)) .nil, rfl, ⟨_, rfl, RlR.closed (one_cl (encRk_closed ⟨v2, y, w, go, over, 0⟩))⟩, trivial⟩
end Go.Proofs.YtpkkplojpjakiaaGreat
namespace Go.Proofs.YtpkkplojpjakiaaGreat
open Go Go.RowKit
open Go.Proofs.YtpkkplojpjakiaaGreat.Dict (St Bs bs_eq Wd encW encWs closed_ws)
open Go.Proofs.YtpkkplojpjakiaaGreat.Mem (Mm encM encBs closed_bs encP encP_closed closed_m storeD fetchD thereD textD)
open Go.Proofs.YtpkkplojpjakiaaGreat.Stk (encS closed_s encI_closed)
set_option maxRecDepth 100000
theorem q_ty0 : ((ByteArray.mk #[84, 89, 80, 69]).toList == (ByteArray.mk #[65, 70, 84, 69, 82]).toList) = false := by rw [bs_eq [84, 89, 80, 69] [65, 70, 84, 69, 82]]; exact decide_eq_false (by decide)
theorem q_ty1 : ((ByteArray.mk #[84, 89, 80, 69]).toList == (ByteArray.mk #[69, 86, 69, 82, 89]).toList) = false := by rw [bs_eq [84, 89, 80, 69] [69, 86, 69, 82, 89]]; exact decide_eq_false (by decide)
theorem q_ty2 : ((ByteArray.mk #[84, 89, 80, 69]).toList == (ByteArray.mk #[42, 47]).toList) = false := by rw [bs_eq [84, 89, 80, 69] [42, 47]]; exact decide_eq_false (by decide)
theorem q_ty3 : ((ByteArray.mk #[84, 89, 80, 69]).toList == (ByteArray.mk #[42, 47, 77, 79, 68]).toList) = false := by rw [bs_eq [84, 89, 80, 69] [42, 47, 77, 79, 68]]; exact decide_eq_false (by decide)
theorem q_ty4 : ((ByteArray.mk #[84, 89, 80, 69]).toList == (ByteArray.mk #[85, 77, 47, 77, 79, 68]).toList) = false := by rw [bs_eq [84, 89, 80, 69] [85, 77, 47, 77, 79, 68]]; exact decide_eq_false (by decide)
theorem q_ty5 : ((ByteArray.mk #[84, 89, 80, 69]).toList == (ByteArray.mk #[83, 77, 47, 82, 69, 77]).toList) = false := by rw [bs_eq [84, 89, 80, 69] [83, 77, 47, 82, 69, 77]]; exact decide_eq_false (by decide)
theorem q_ty6 : ((ByteArray.mk #[84, 89, 80, 69]).toList == (ByteArray.mk #[70, 77, 47, 77, 79, 68]).toList) = false := by rw [bs_eq [84, 89, 80, 69] [70, 77, 47, 77, 79, 68]]; exact decide_eq_false (by decide)
theorem q_ty7 : ((ByteArray.mk #[84, 89, 80, 69]).toList == (ByteArray.mk #[87, 73, 84, 72, 73, 78]).toList) = false := by rw [bs_eq [84, 89, 80, 69] [87, 73, 84, 72, 73, 78]]; exact decide_eq_false (by decide)
theorem q_ty8 : ((ByteArray.mk #[84, 89, 80, 69]).toList == (ByteArray.mk #[50, 33]).toList) = false := by rw [bs_eq [84, 89, 80, 69] [50, 33]]; exact decide_eq_false (by decide)
theorem q_ty9 : ((ByteArray.mk #[84, 89, 80, 69]).toList == (ByteArray.mk #[70, 73, 76, 76]).toList) = false := by rw [bs_eq [84, 89, 80, 69] [70, 73, 76, 76]]; exact decide_eq_false (by decide)
theorem q_ty10 : ((ByteArray.mk #[84, 89, 80, 69]).toList == (ByteArray.mk #[77, 79, 86, 69]).toList) = false := by rw [bs_eq [84, 89, 80, 69] [77, 79, 86, 69]]; exact decide_eq_false (by decide)
theorem q_ty11 : ((ByteArray.mk #[84, 89, 80, 69]).toList == (ByteArray.mk #[80, 79, 83, 84]).toList) = false := by rw [bs_eq [84, 89, 80, 69] [80, 79, 83, 84]]; exact decide_eq_false (by decide)
theorem q_ty12 : ((ByteArray.mk #[84, 89, 80, 69]).toList == (ByteArray.mk #[65, 84, 45, 83, 84, 65, 84, 69]).toList) = false := by rw [bs_eq [84, 89, 80, 69] [65, 84, 45, 83, 84, 65, 84, 69]]; exact decide_eq_false (by decide)
theorem q_ty13 : ((ByteArray.mk #[84, 89, 80, 69]).toList == (ByteArray.mk #[47, 77, 79, 68]).toList) = false := by rw [bs_eq [84, 89, 80, 69] [47, 77, 79, 68]]; exact decide_eq_false (by decide)
theorem q_ty14 : ((ByteArray.mk #[84, 89, 80, 69]).toList == (ByteArray.mk #[85, 77, 42]).toList) = false := by rw [bs_eq [84, 89, 80, 69] [85, 77, 42]]; exact decide_eq_false (by decide)
theorem q_ty15 : ((ByteArray.mk #[84, 89, 80, 69]).toList == (ByteArray.mk #[77, 42]).toList) = false := by rw [bs_eq [84, 89, 80, 69] [77, 42]]; exact decide_eq_false (by decide)
theorem q_ty16 : ((ByteArray.mk #[84, 89, 80, 69]).toList == (ByteArray.mk #[33]).toList) = false := by rw [bs_eq [84, 89, 80, 69] [33]]; exact decide_eq_false (by decide)
theorem q_ty17 : ((ByteArray.mk #[84, 89, 80, 69]).toList == (ByteArray.mk #[67, 33]).toList) = false := by rw [bs_eq [84, 89, 80, 69] [67, 33]]; exact decide_eq_false (by decide)
theorem q_ty18 : ((ByteArray.mk #[84, 89, 80, 69]).toList == (ByteArray.mk #[43, 33]).toList) = false := by rw [bs_eq [84, 89, 80, 69] [43, 33]]; exact decide_eq_false (by decide)
theorem q_ty19 : ((ByteArray.mk #[84, 89, 80, 69]).toList == (ByteArray.mk #[84, 89, 80, 69]).toList) = true := by rw [bs_eq [84, 89, 80, 69] [84, 89, 80, 69]]; exact decide_eq_true rfl
theorem q_ty20 : ((ByteArray.mk #[84, 89, 80, 69]).toList == (ByteArray.mk #[83, 62, 68]).toList) = false := by rw [bs_eq [84, 89, 80, 69] [83, 62, 68]]; exact decide_eq_false (by decide)
theorem q_ty21 : ((ByteArray.mk #[84, 89, 80, 69]).toList == (ByteArray.mk #[84, 82, 85, 69]).toList) = false := by rw [bs_eq [84, 89, 80, 69] [84, 82, 85, 69]]; exact decide_eq_false (by decide)
theorem q_ty22 : ((ByteArray.mk #[84, 89, 80, 69]).toList == (ByteArray.mk #[66, 65, 83, 69]).toList) = false := by rw [bs_eq [84, 89, 80, 69] [66, 65, 83, 69]]; exact decide_eq_false (by decide)
theorem q_ty23 : ((ByteArray.mk #[84, 89, 80, 69]).toList == (ByteArray.mk #[70, 65, 76, 83, 69]).toList) = false := by rw [bs_eq [84, 89, 80, 69] [70, 65, 76, 83, 69]]; exact decide_eq_false (by decide)
theorem q_ty24 : ((ByteArray.mk #[84, 89, 80, 69]).toList == (ByteArray.mk #[83, 84, 65, 84, 69]).toList) = false := by rw [bs_eq [84, 89, 80, 69] [83, 84, 65, 84, 69]]; exact decide_eq_false (by decide)
theorem q_ty25 : ((ByteArray.mk #[84, 89, 80, 69]).toList == (ByteArray.mk #[66, 76]).toList) = false := by rw [bs_eq [84, 89, 80, 69] [66, 76]]; exact decide_eq_false (by decide)
theorem q_ty26 : ((ByteArray.mk #[84, 89, 80, 69]).toList == (ByteArray.mk #[64]).toList) = false := by rw [bs_eq [84, 89, 80, 69] [64]]; exact decide_eq_false (by decide)
theorem q_ty27 : ((ByteArray.mk #[84, 89, 80, 69]).toList == (ByteArray.mk #[71, 69, 84, 45, 83, 84, 65, 84, 69]).toList) = false := by rw [bs_eq [84, 89, 80, 69] [71, 69, 84, 45, 83, 84, 65, 84, 69]]; exact decide_eq_false (by decide)
theorem q_ty28 : ((ByteArray.mk #[84, 89, 80, 69]).toList == (ByteArray.mk #[67, 64]).toList) = false := by rw [bs_eq [84, 89, 80, 69] [67, 64]]; exact decide_eq_false (by decide)
theorem q_ty29 : ((ByteArray.mk #[84, 89, 80, 69]).toList == (ByteArray.mk #[50, 64]).toList) = false := by rw [bs_eq [84, 89, 80, 69] [50, 64]]; exact decide_eq_false (by decide)
theorem q_ty30 : ((ByteArray.mk #[84, 89, 80, 69]).toList == (ByteArray.mk #[67, 79, 85, 78, 84]).toList) = false := by rw [bs_eq [84, 89, 80, 69] [67, 79, 85, 78, 84]]; exact decide_eq_false (by decide)
theorem q_ty31 : ((ByteArray.mk #[84, 89, 80, 69]).toList == (ByteArray.mk #[68, 69, 67, 73, 77, 65, 76]).toList) = false := by rw [bs_eq [84, 89, 80, 69] [68, 69, 67, 73, 77, 65, 76]]; exact decide_eq_false (by decide)
theorem q_ty32 : ((ByteArray.mk #[84, 89, 80, 69]).toList == (ByteArray.mk #[72, 69, 88]).toList) = false := by rw [bs_eq [84, 89, 80, 69] [72, 69, 88]]; exact decide_eq_false (by decide)
theorem q_ty33 : ((ByteArray.mk #[84, 89, 80, 69]).toList == (ByteArray.mk #[83, 69, 84, 45, 83, 84, 65, 84, 69]).toList) = false := by rw [bs_eq [84, 89, 80, 69] [83, 69, 84, 45, 83, 84, 65, 84, 69]]; exact decide_eq_false (by decide)
theorem q_ty34 : ((ByteArray.mk #[84, 89, 80, 69]).toList == (ByteArray.mk #[65, 76, 76, 79, 84]).toList) = false := by rw [bs_eq [84, 89, 80, 69] [65, 76, 76, 79, 84]]; exact decide_eq_false (by decide)
theorem q_ty35 : ((ByteArray.mk #[84, 89, 80, 69]).toList == (ByteArray.mk #[44]).toList) = false := by rw [bs_eq [84, 89, 80, 69] [44]]; exact decide_eq_false (by decide)
theorem q_ty36 : ((ByteArray.mk #[84, 89, 80, 69]).toList == (ByteArray.mk #[67, 44]).toList) = false := by rw [bs_eq [84, 89, 80, 69] [67, 44]]; exact decide_eq_false (by decide)
theorem q_ty37 : ((ByteArray.mk #[84, 89, 80, 69]).toList == (ByteArray.mk #[65, 76, 73, 71, 78]).toList) = false := by rw [bs_eq [84, 89, 80, 69] [65, 76, 73, 71, 78]]; exact decide_eq_false (by decide)
theorem q_ty38 : ((ByteArray.mk #[84, 89, 80, 69]).toList == (ByteArray.mk #[69, 77, 73, 84]).toList) = false := by rw [bs_eq [84, 89, 80, 69] [69, 77, 73, 84]]; exact decide_eq_false (by decide)
theorem q_ty39 : ((ByteArray.mk #[84, 89, 80, 69]).toList == (ByteArray.mk #[67, 82]).toList) = false := by rw [bs_eq [84, 89, 80, 69] [67, 82]]; exact decide_eq_false (by decide)
theorem q_ty40 : ((ByteArray.mk #[84, 89, 80, 69]).toList == (ByteArray.mk #[83, 80, 65, 67, 69]).toList) = false := by rw [bs_eq [84, 89, 80, 69] [83, 80, 65, 67, 69]]; exact decide_eq_false (by decide)
theorem q_ty41 : ((ByteArray.mk #[84, 89, 80, 69]).toList == (ByteArray.mk #[83, 80, 65, 67, 69, 83]).toList) = false := by rw [bs_eq [84, 89, 80, 69] [83, 80, 65, 67, 69, 83]]; exact decide_eq_false (by decide)
theorem nm109 : nmsV[109]? = some [84, 89, 80, 69] := by kernel_rfl
attribute [local irreducible] Decidable.decide awp ARun regK toK
theorem ty_does : FnC Tryz.prog 87 [.val (.int .i64 109)] (.val (.bool true)) := by
 have d1 : decide ((23 : Int) ≤ 109) = true := decide_eq_true (by omega)
 have d2 : decide ((109 : Int) ≤ 129) = true := decide_eq_true (by omega)
 refine goF Tryz.func87 (closedL_cons (.val _) closedL_nil) (fun w0 st0 => ?_)
 dsimp only [frOf]
 (repeat' (first | refine goA ?_ | refine goB ?_ | fail))
 exact awp_ret ⟨_, ResL.cons (ResA.tmp (.val _)) .nil, congrArg (fun b => AV.val (.bool b)) d2.symm⟩
set_option maxHeartbeats 4000000 in
theorem ty_takes : FnC Tryz.prog 89 [.val (.int .i64 109), St [84, 89, 80, 69]] (.val (.int .i64 2)) := by
 have d1 : decide ((109 : Int) ≤ 58) = false := decide_eq_false (by omega)
 have d2 : decide ((109 : Int) ≤ 72) = false := decide_eq_false (by omega)
 have n0 := q_ty0
 have n1 := q_ty1
 have n2 := q_ty2
 have n3 := q_ty3
 have n4 := q_ty4
 have n5 := q_ty5
 have n6 := q_ty6
 have n7 := q_ty7
 have n8 := q_ty8
 have n9 := q_ty9
 have n10 := q_ty10
 have n11 := q_ty11
 have n12 := q_ty12
 have n13 := q_ty13
 have n14 := q_ty14
 have n15 := q_ty15
 have n16 := q_ty16
 have n17 := q_ty17
 have n18 := q_ty18
 have n19 := q_ty19
 refine goF Tryz.func89 (closedL_cons (.val _) (closedL_cons (.val _) closedL_nil)) (fun w0 st0 => ?_)
 dsimp only [frOf]
 (repeat' (first | refine goA ?_ | refine goB ?_ | fail))
 exact awp_ret ⟨_, ResL.cons (ResA.tmp (.val _)) .nil, rfl⟩
set_option maxHeartbeats 4000000 in
theorem ty_reckon (a n : Int) : FnC Tryz.prog 104 [St [84, 89, 80, 69], .sl 1 false [[.val (.int .i64 a)], [.val (.int .i64 n)]]] (.tup [.sl 0 true [], .val (.int .i64 0), .val (.bool false)]) := by
 have n13 := q_ty13
 have n2 := q_ty2
 have n3 := q_ty3
 have n14 := q_ty14
 have n15 := q_ty15
 have n4 := q_ty4
 have n5 := q_ty5
 have n6 := q_ty6
 have n20 := q_ty20
 have n7 := q_ty7
 have n21 := q_ty21
 have n22 := q_ty22
 have n23 := q_ty23
 have n24 := q_ty24
 have n25 := q_ty25
 refine goF Tryz.func104 (closedL_cons (.val _) (closedL_cons (closed_s [a, n]) closedL_nil)) (fun w0 st0 => ?_)
 dsimp only [frOf]
 (repeat' (first | refine goA ?_ | refine goB ?_ | fail))
 exact awp_ret ⟨_, ResL.cons (ResA.tmp (.closed _ (.sl (by simp)))) (ResL.cons (ResA.tmp (.val _)) (ResL.cons (ResA.tmp (.val _)) .nil)), rfl⟩
set_option maxHeartbeats 4000000 in
theorem ty_memory (v : V) (a n : Int) : FnC Tryz.prog 105 [.agg (encV v), St [84, 89, 80, 69], .sl 1 false [[.val (.int .i64 a)], [.val (.int .i64 n)]]] (.tup [.agg (encV v), .sl 0 true [], .val (.int .i64 0), .val (.bool false)]) := by
 have n26 := q_ty26
 have n27 := q_ty27
 have n28 := q_ty28
 have n16 := q_ty16
 have n17 := q_ty17
 have n18 := q_ty18
 have n29 := q_ty29
 have n8 := q_ty8
 have n9 := q_ty9
 have n10 := q_ty10
 have n30 := q_ty30
 have n31 := q_ty31
 have n32 := q_ty32
 have n33 := q_ty33
 have n12 := q_ty12
 refine goF Tryz.func105 (closedL_cons (closedV v) (closedL_cons (.val _) (closedL_cons (closed_s [a, n]) closedL_nil))) (fun w0 st0 => ?_)
 dsimp only [frOf]
 (repeat' (first | refine goA ?_ | refine goB ?_ | fail))
 exact awp_ret ⟨_, ResL.cons (ResA.agg rfl rfl rfl rfl rfl rfl rfl (RL.allClosed (encV_closed v))) (ResL.cons (ResA.tmp (.closed _ (.sl (by simp)))) (ResL.cons (ResA.tmp (.val _)) (ResL.cons (ResA.tmp (.val _)) .nil))), rfl⟩
set_option maxHeartbeats 4000000 in
theorem ty_space (v : V) (a n : Int) : FnC Tryz.prog 106 [.agg (encV v), St [84, 89, 80, 69], .sl 1 false [[.val (.int .i64 a)], [.val (.int .i64 n)]]] (.tup [.agg (encV v), .val (.int .i64 0), .val (.bool false)]) := by
 have n34 := q_ty34
 have n35 := q_ty35
 have n36 := q_ty36
 have n37 := q_ty37
 refine goF Tryz.func106 (closedL_cons (closedV v) (closedL_cons (.val _) (closedL_cons (closed_s [a, n]) closedL_nil))) (fun w0 st0 => ?_)
 dsimp only [frOf]
 (repeat' (first | refine goA ?_ | refine goB ?_ | fail))
 exact awp_ret ⟨_, ResL.cons (ResA.agg rfl rfl rfl rfl rfl rfl rfl (RL.allClosed (encV_closed v))) (ResL.cons (ResA.tmp (.val _)) (ResL.cons (ResA.tmp (.val _)) .nil)), rfl⟩
theorem ty_base (v : V) (hm : v.m.b.length ≤ 1000000) : FnC Tryz.prog 136 [.agg (encV v)] (.val (.int .i64 (fetchD v.m 0).1)) := by
 have c1 := Mem.ref_fetch_c v.m 0 hm
 generalize fetchD v.m 0 = p at *
 refine goF Tryz.func136 (closedL_cons (closedV v) closedL_nil) (fun w0 st0 => ?_)
 dsimp only [frOf]
 (repeat' (first | refine goA ?_ | refine cX c1 ?_ | refine goB ?_ | fail))
 exact awp_ret ⟨_, ResL.cons (ResA.tmp (.val _)) .nil, rfl⟩
set_option maxHeartbeats 4000000 in
theorem ty_text (v : V) (a n : Int) (s : Bs) (hs : s.length ≤ 1000000) (hm : v.m.b.length ≤ 1000000) (ht : textD v.m a n = (s, 0)) : FnC Tryz.prog 107 [.agg (encV v), St [84, 89, 80, 69], .sl 1 false [[.val (.int .i64 a)], [.val (.int .i64 n)]]] (.tup [St s, .val (.int .i64 0), .val (.bool true)]) := by
 have c1 := ty_base v hm
 have c2 := Mem.ref_text_c v.m a n hm
 rw [ht] at c2
 have n38 := q_ty38
 have n39 := q_ty39
 have n40 := q_ty40
 have n41 := q_ty41
 have n19 := q_ty19
 generalize (fetchD v.m 0).1 = b at *
 refine goF Tryz.func107 (closedL_cons (closedV v) (closedL_cons (.val _) (closedL_cons (closed_s [a, n]) closedL_nil))) (fun w0 st0 => ?_)
 dsimp only [frOf]
 (repeat' (first | refine goA ?_ | refine cX c1 ?_ | refine cX c2 ?_ | refine ARun.indexAddr rfl rfl (by omega) rfl rfl rfl rfl rfl rfl (guardF_spec rfl) ?_ | refine ARun.bytesStr (SrcA.sl rfl (.inr rfl)) (by first | rfl | exact List.map_nil.symm) rfl rfl rfl rfl rfl rfl rfl (guardF_spec rfl) ?_ | refine goB ?_ | fail))
 exact awp_ret ⟨_, ResL.cons (ResA.tmp (.val _)) (ResL.cons (ResA.tmp (.val _)) (ResL.cons (ResA.tmp (.val _)) .nil)), rfl⟩
set_option maxHeartbeats 4000000 in
theorem ty_done (v v' : V) (a n : Int) (s : Bs) (hs : s.length ≤ 1000000) (hm : v.m.b.length ≤ 1000000) (ht : textD v.m a n = (s, 0)) (ho : v.out.length ≤ 1000000) (hc : -1000000000 ≤ v.cf.out ∧ v.cf.out ≤ 1000000000) (hp : printD v s = (v', 0)) : FnC Tryz.prog 90 [.agg (encV v), .val (.int .i64 109), St [84, 89, 80, 69], .sl 1 false [[.val (.int .i64 a)], [.val (.int .i64 n)]]] (.tup [.agg (encV v'), .sl 0 true [], .val (.int .i64 0)]) := by
 have d1 : decide ((109 : Int) ≤ 58) = false := decide_eq_false (by omega)
 have d2 : decide ((109 : Int) ≤ 72) = false := decide_eq_false (by omega)
 have d3 : ((0 : Int) != 0) = false := by simp
 have c1 := ty_reckon a n
 have c2 := ty_memory v a n
 have c3 := ty_space v a n
 have c4 := ty_text v a n s hs hm ht
 have c5 := ref_print_c v s ho hs hc
 rw [hp] at c5
 unfold encVE at c5
 refine goF Tryz.func90 (closedL_cons (closedV v) (closedL_cons (.val _) (closedL_cons (.val _) (closedL_cons (closed_s [a, n]) closedL_nil)))) (fun w0 st0 => ?_)
 dsimp only [frOf]
 (repeat' (first | refine goA ?_ | refine cX c1 ?_ | refine cX c2 ?_ | refine cX c3 ?_ | refine cX c4 ?_ | refine cX c5 ?_ | refine goB ?_ | fail))
 exact awp_ret ⟨_, ResL.cons (ResA.agg rfl rfl rfl rfl rfl rfl rfl (RL.allClosed (encV_closed v'))) (ResL.cons (ResA.tmp (.closed _ (.sl (by simp)))) (ResL.cons (ResA.tmp (.val _)) .nil)), rfl⟩
set_option maxHeartbeats 8000000 in
theorem do_type (v v' : V) (a n : Int) (s : Bs) (hl : 2 ≤ v.cf.data) (hs : s.length ≤ 1000000) (hm : v.m.b.length ≤ 1000000) (ht : textD v.m a n = (s, 0)) (ho : v.out.length ≤ 1000000) (hc : -1000000000 ≤ v.cf.out ∧ v.cf.out ≤ 1000000000) (hpr : printD (withD v [a, n]) s = (v', 0)) : FnC Tryz.prog 71 [.agg (encV (withD v [a, n])), .val (.int .i64 109)] (encVE (withD v' [], 0)) := by
 have c1 := ty_does
 have c2 := ref_names_c
 have c3 := ty_takes
 have c4 := ty_done (withD v [a, n]) v' a n s hs hm ht ho hc hpr
 have hp : (nmsV.map encN)[((109 : Int)).toNat]? = some (encN [84, 89, 80, 69]) := get_map nm109
 have nt : (!true) = false := rfl
 have d1 : decide ((109 : Int) ≤ 38) = false := decide_eq_false (by omega)
 have e0 : ((((withD v [a, n]).d.map encI).length : Nat) : Int) = 2 := rfl
 have d2 : decide (((((withD v [a, n]).d.map encI).length : Nat) : Int) < 2) = false := decide_eq_false (by omega)
 have d3 : decide (v.cf.data < 0) = false := decide_eq_false (by omega)
 have z1 : ((0 : Int) != 0) = false := by simp
 have he : (withD v [a, n]).d.map encI = [] ++ (withD v [a, n]).d.map encI := rfl
 generalize nmsV.map encN = nn at *
 unfold encVE
 refine goF Tryz.func71 (closedL_cons (closedV _) (closedL_cons (.val _) closedL_nil)) (fun w0 st0 => ?_)
 dsimp only [frOf]
 (repeat' (first | refine goA ?_ | refine cX c1 ?_ | refine cX c2 ?_ | refine cX c3 ?_ | refine cX c4 ?_ | refine ARun.indexAddr rfl rfl (by omega) (by with_reducible exact hp) rfl rfl rfl rfl rfl (guardF_spec rfl) ?_ | refine ARun.sliceTo rfl he rfl lensT rfl rfl rfl rfl rfl (guardF_spec rfl) ?_ | refine ARun.sliceFrom rfl he rfl lensT rfl rfl rfl rfl rfl (guardF_spec rfl) ?_ | refine appF rfl ?_ | refine appO rfl ?_ | refine goB ?_ | fail))
 exact awp_ret ⟨_, ResL.cons (ResA.agg rfl rfl rfl rfl rfl rfl rfl (by repeat' (first | exact RL.nil _ | refine RL.cons (by first | exact Reif.val _ | exact Reif.owned rfl rfl rfl (own_closed_map (l := []) encI_closed) | exact Reif.nilSl | exact .closed _ (by first | exact closed_bs _ | exact closed_s _ | exact Dict.closed_ws _ | exact closedFr _ | exact closedRq _ | exact closedHn _ | exact closed_map encP_closed)) ?_))) (ResL.cons (ResA.tmp (.val _)) .nil), rfl⟩
end Go.Proofs.YtpkkplojpjakiaaGreat
namespace Go.Proofs.YtpkkplojpjakiaaGreat
open Go Go.RowKit
open Go.Proofs.YtpkkplojpjakiaaGreat.Dict (St Bs bs_eq)
open Go.Proofs.YtpkkplojpjakiaaGreat.Mem (Mm storeD fetchD thereD textD partD)
set_option maxRecDepth 100000
theorem ft_fl {m : Mm} {f : Nat → Int} (hm : m.b = cellsC f 256) {k : Nat} (hk : k < 256) {n : Int} (e : f k = n) (hn : -9223372036854775808 ≤ n ∧ n ≤ 9223372036854775807) : fetchD m ((8 * k : Nat) : Int) = (n, 0) := by
 subst e
 exact fetch_flat hm hk hn
theorem kd_fl {v : V} {f : Nat → Int} (hm : v.m.b = cellsC f 256) {k : Nat} (hk : k < 256) {n : Int} (e : f k = n) (hn : (0 ≤ n ∧ n ≤ 129) ∨ (256 ≤ n ∧ n ≤ 260)) : kindD v ((8 * k : Nat) : Int) = (n, 0) := by
 have hf := ft_fl hm hk e (by omega)
 unfold kindD
 rw [hf, if_neg (fun e => e rfl), if_pos (by omega)]
def rT (m : Mm) (h : Int) (d r : List Int) (o : Bs) : V := withOut (withD (withR (withMH v0 m h) r) d) o
def rsT (m : Mm) (h : Int) (s : Bs) (n z : Int) : Nat → Rn
 | 0 => ⟨rT m h [] [] [], 16, 1368, true, 50⟩
 | 1 => ⟨rT m h [] [16] [], 1376, 0, false, 49⟩
 | 2 => ⟨rT m h [1392, s.length] [16] [], z, 0, false, 48⟩
 | 3 => ⟨rT m h [] [16] s, z + 8, 0, false, 47⟩
 | 4 => ⟨rT m h [n] [16] s, z + 8 + 8 + 8, 0, false, 46⟩
 | _ => ⟨rT m h [n] [] s, 16, 0, false, 45⟩
theorem xt_all : xtD nStr = 120 ∧ xtD nTy = 904 ∧ xtD nLit = 40 ∧ xtD nEx = 32 := ⟨by kernel_rfl, by kernel_rfl, by kernel_rfl, by kernel_rfl⟩
theorem f0_all : f0 2 = 96 ∧ f0 4 = 0 ∧ f0 5 = 1 ∧ f0 12 = 8 ∧ f0 15 = 11 ∧ f0 113 = 109 := ⟨by kernel_rfl, by kernel_rfl, by kernel_rfl, by kernel_rfl, by kernel_rfl, by kernel_rfl⟩
theorem nmT0 : nmsV[0]? = some [40, 101, 120, 105, 116, 41] := by kernel_rfl
theorem nmT1 : nmsV[1]? = some [40, 108, 105, 116, 41] := by kernel_rfl
theorem nmT8 : nmsV[8]? = some [40, 104, 97, 108, 116, 41] := by kernel_rfl
theorem nmT11 : nmsV[11]? = some [40, 115, 116, 114, 41] := by kernel_rfl
attribute [local irreducible] awp ARun regK toK
set_option maxHeartbeats 4000000 in
theorem run_txt {m : Mm} {h : Int} {s : Bs} {n : Int} {f : Nat → Int} (hm : m.b = cellsC f 256) (lo : ∀ j, j < 171 → f j = f0 j) (c1 : f 171 = 256) (c2 : f 172 = 120) (c3 : f 173 = s.length) (tx : ((cellsC f 256).drop 1392).take s.length = s) (c4 : f (174 + (s.length + 7) / 8) = 904) (c5 : f (175 + (s.length + 7) / 8) = 40) (c6 : f (176 + (s.length + 7) / 8) = n) (c7 : f (177 + (s.length + 7) / 8) = 32) (hs : s.length ≤ 100) (hn : In64 n) :
  FnC Tryz.prog 10 [.agg (encV (rT m h [] [] [])), .val (.int .i64 1368), .val (.int .i64 50)] (.tup [.agg (encV (rT m h [n] [] s)), .val (.int .i64 44), .val (.int .i64 0)]) := by
 obtain ⟨a2, a4, a5, a12, a15, a113⟩ := f0_all
 have b : m.b.length ≤ 1000000 := by rw [hm, cellsC_len]; omega
 have k0 : kindD (rT m h [] [] []) 1368 = (256, 0) := kd_fl (k := 171) hm (by omega) c1 (by omega)
 have k1 : kindD (rT m h [] [16] []) 120 = (((11 : Nat) : Int), 0) := kd_fl (k := 15) hm (by omega) ((lo 15 (by omega)).trans a15) (by omega)
 have k2 : kindD (rT m h [1392, s.length] [16] []) 904 = (109, 0) := kd_fl (k := 113) hm (by omega) ((lo 113 (by omega)).trans a113) (by omega)
 have k3 : kindD (rT m h [] [16] s) 40 = (((1 : Nat) : Int), 0) := kd_fl (k := 5) hm (by omega) ((lo 5 (by omega)).trans a5) (by omega)
 have k4 : kindD (rT m h [n] [16] s) 32 = (((0 : Nat) : Int), 0) := kd_fl (k := 4) hm (by omega) ((lo 4 (by omega)).trans a4) (by omega)
 have k5 : kindD (rT m h [n] [] s) 96 = (((8 : Nat) : Int), 0) := kd_fl (k := 12) hm (by omega) ((lo 12 (by omega)).trans a12) (by omega)
 have hal : alN (1376 + 8 + 8 + (s.length : Int)) = ((8 * (174 + (s.length + 7) / 8) : Nat) : Int) := by
  rw [← alN_of 174 s.length]
  rfl
 have hq : (s.length + 7) / 8 ≤ 13 := by omega
 generalize (s.length + 7) / 8 = q at *
 have g1 : fetchD m 1376 = (120, 0) := ft_fl (k := 172) hm (by omega) c2 (by omega)
 have g2 : fetchD m (1376 + 8) = (((s.length : Nat) : Int), 0) := ft_fl (k := 173) hm (by omega) c3 (by omega)
 have g3 : fetchD m ((8 * (174 + q) : Nat) : Int) = (904, 0) := ft_fl (k := 174 + q) hm (by omega) c4 (by omega)
 have g4 : fetchD m (((8 * (174 + q) : Nat) : Int) + 8) = (40, 0) := by
  rw [show ((8 * (174 + q) : Nat) : Int) + 8 = ((8 * (175 + q) : Nat) : Int) by omega]
  exact ft_fl (k := 175 + q) hm (by omega) c5 (by omega)
 have g5 : fetchD m (((8 * (174 + q) : Nat) : Int) + 8 + 8) = (n, 0) := by
  rw [show ((8 * (174 + q) : Nat) : Int) + 8 + 8 = ((8 * (176 + q) : Nat) : Int) by omega]
  exact ft_fl (k := 176 + q) hm (by omega) c6 hn
 have g6 : fetchD m (((8 * (174 + q) : Nat) : Int) + 8 + 8 + 8) = (32, 0) := by
  rw [show ((8 * (174 + q) : Nat) : Int) + 8 + 8 + 8 = ((8 * (177 + q) : Nat) : Int) by omega]
  exact ft_fl (k := 177 + q) hm (by omega) c7 (by omega)
 have g7 : fetchD m 16 = (96, 0) := ft_fl (k := 2) hm (by omega) ((lo 2 (by omega)).trans a2) (by omega)
 have ht : thereD m.b.length (1376 + 8 + 8) (s.length : Nat) = true := by
  unfold thereD
  rw [decide_eq_true_eq, hm, cellsC_len]
  omega
 have hx : textD m 1392 (s.length : Nat) = (s, 0) := by
  rw [Mem.textD_yes (at' := 1392) ht]
  refine Prod.ext ?_ rfl
  show partD m.b 1392 (s.length : Nat) = s
  unfold partD
  rw [hm]
  exact tx
 have hp : printD (withD (withR (withMH v0 m h) [16]) [1392, s.length]) s = (withOut (withD (withR (withMH v0 m h) [16]) [1392, s.length]) s, 0) := by
  unfold printD
  rw [if_neg (by show ¬ (500 : Int) - ((0 : Nat) : Int) < (s.length : Nat); omega)]
  rfl
 have hz : 0 ≤ ((8 * (174 + q) : Nat) : Int) ∧ ((8 * (174 + q) : Nat) : Int) ≤ 10000 := by omega
 have hwz := hal
 generalize hZ : ((8 * (174 + q) : Nat) : Int) = z at *
 refine run_c (rT m h [] [] []) 1368 50 (by omega) 5 (rsT m h s n z) ⟨rT m h [n] [] s, 24, 0, false, 44⟩ rfl (fun i hi => ?_) ?_
 ·have h4 : i = 0 ∨ i = 1 ∨ i = 2 ∨ i = 3 ∨ i = 4 := by omega
  rcases h4 with rfl | rfl | rfl | rfl | rfl
  ·exact step_do (rsT m h s n z 0) ⟨rT m h [] [16] [], 1376, 0, false, false, 0⟩ rfl ⟨of_decide_eq_true rfl, of_decide_eq_true rfl⟩ (done_col (rT m h [] [] []) (rT m h [] [16] []) 16 0 false false 1368 (by omega) b k0 (of_decide_eq_true rfl) rfl) rfl
  ·exact step_next (rsT m h s n z 1) ⟨rT m h [1392, s.length] [16] [], z, 0, false, false, 0⟩ 120 rfl ⟨of_decide_eq_true rfl, of_decide_eq_true rfl⟩ ⟨of_decide_eq_true rfl, of_decide_eq_true rfl⟩ b g1 (done_code (rT m h [] [16] []) ⟨rT m h [1392, s.length] [16] [], z, 0, false, false, 0⟩ 11 _ (by omega) nmT11 (1376 + 8) 0 false false 120 b k1 (by
    have := code_str (rT m h [] [16] []) (rT m h [1376 + 8 + 8] [16] []) (rT m h [1376 + 8 + 8, s.length] [16] []) (1376 + 8) 0 false false s.length ⟨of_decide_eq_true rfl, of_decide_eq_true rfl⟩ ⟨by omega, by omega⟩ b (of_decide_eq_true rfl) (of_decide_eq_true rfl) g2 ht rfl rfl
    rw [hwz] at this
    exact this)) rfl
  ·exact step_next (rsT m h s n z 2) ⟨rT m h [] [16] s, z + 8, 0, false, false, 0⟩ 904 rfl ⟨of_decide_eq_true rfl, of_decide_eq_true rfl⟩ ⟨by show 0 ≤ z; omega, by show z ≤ 1000000; omega⟩ b g3 (done_prim (rT m h [1392, s.length] [16] []) (rT m h [] [16] s) 109 (by omega) (z + 8) 0 false false 904 b k2 (do_type (withR (withMH v0 m h) [16]) (withOut (withD (withR (withMH v0 m h) [16]) [1392, s.length]) s) 1392 s.length s (of_decide_eq_true rfl) (by omega) b hx (of_decide_eq_true rfl) (by show (-1000000000 : Int) ≤ 500 ∧ (500 : Int) ≤ 1000000000; omega) hp)) rfl
  ·exact step_next (rsT m h s n z 3) ⟨rT m h [n] [16] s, z + 8 + 8 + 8, 0, false, false, 0⟩ 40 rfl ⟨of_decide_eq_true rfl, of_decide_eq_true rfl⟩ ⟨by show 0 ≤ z + 8; omega, by show z + 8 ≤ 1000000; omega⟩ b g4 (done_code (rT m h [] [16] s) ⟨rT m h [n] [16] s, z + 8 + 8 + 8, 0, false, false, 0⟩ 1 _ (by omega) nmT1 (z + 8 + 8) 0 false false 40 b k3 (code_lit (rT m h [] [16] s) (rT m h [n] [16] s) (z + 8 + 8) 0 false false n ⟨by omega, by omega⟩ b (of_decide_eq_true rfl) g5 rfl)) rfl
  ·exact step_next (rsT m h s n z 4) ⟨rT m h [n] [] s, 16, 0, false, false, 0⟩ 32 rfl ⟨of_decide_eq_true rfl, of_decide_eq_true rfl⟩ ⟨by show 0 ≤ z + 8 + 8 + 8; omega, by show z + 8 + 8 + 8 ≤ 1000000; omega⟩ b g6 (done_code (rT m h [n] [16] s) ⟨rT m h [n] [] s, 16, 0, false, false, 0⟩ 0 _ (by omega) nmT0 (z + 8 + 8 + 8 + 8) 0 false false 32 b k4 (code_exit (rT m h [n] [16] s) (rT m h [n] [] s) (z + 8 + 8 + 8 + 8) 0 false false 16 (of_decide_eq_true rfl) rfl)) rfl
 ·exact step_next (rsT m h s n z 5) ⟨rT m h [n] [] s, 24, 0, false, true, 0⟩ 96 rfl ⟨of_decide_eq_true rfl, of_decide_eq_true rfl⟩ ⟨of_decide_eq_true rfl, of_decide_eq_true rfl⟩ b g7 (done_code (rT m h [n] [] s) ⟨rT m h [n] [] s, 24, 0, false, true, 0⟩ 8 _ (by omega) nmT8 24 0 false false 96 b k5 (code_halt (rT m h [n] [] s) 24 0 false false)) rfl
end Go.Proofs.YtpkkplojpjakiaaGreat
namespace Go.Proofs.YtpkkplojpjakiaaGreat
open Go Go.RowKit Go.ChangeShapes Go.WideShapes Go.Deep Go.Proofs.YtpkkplojpjakiaaGreat
open Go.Proofs.YtpkkplojpjakiaaGreat.Dict (St Bs Wd encW encWs)
open Go.Proofs.YtpkkplojpjakiaaGreat.Mem (Mm encM encBs encP Pt)
open Go.Proofs.YtpkkplojpjakiaaGreat.Stk (encS)
set_option maxRecDepth 100000
theorem own_knob : ownKnob Tryz.prog.godebug = none := by kernel_rfl
theorem laid_out : laidOutB Tryz.prog = true := by kernel_rfl
section
variable {H : Type} {encT : TypeId × Value → H} {w : World} {base : Nat} {spare : Nat → Bool} {held : Bool}
theorem arg_str {t : TypeId} {r : Reach} {b0 : Nat} {v : Value} {d : DataW H} {p : List MemPlace} {spare' : Nat → Bool} {held' : Bool} (ht : Tryz.prog.underlying t = some .string) (hv : Value.okWide Tryz.prog w r b0 t v)
  (h : DataW.Trod encT Tryz.prog w base spare' held' t v d p) : ∃ l : Bs, Rep (still w) w (St l) v ∧ l.length ≤ maxLen := by
 obtain ⟨s, rfl⟩ := okWide_string ht hv
 obtain ⟨y, h1, h2⟩ := arg_one (enc := fun s => .val (.string s)) rfl h (opens_str ht)
 exact ⟨y.data.toList, h1, h2⟩
end
end Go.Proofs.YtpkkplojpjakiaaGreat
