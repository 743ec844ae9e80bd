/- spc: what is laid, plainly. -/
import Derived.Test.YtpolenndeeaodaapN4
namespace Go.Proofs.Ytpolenndeeaodaa
set_option linter.unusedVariables false
set_option linter.unusedSimpArgs false
open Go Go.RowKit
set_option maxRecDepth 100000

theorem there_fits {len at' n : Int} (h0 : 0 ≤ at') (hn : 0 ≤ n) (h : at' + n ≤ len) : thereD len at' n = true := by
  unfold thereD
  rw [decide_eq_true_eq]
  omega
theorem over_nil {α : Type} (l : List α) (a : Nat) : overL l a [] = l := by simp [overL]
theorem write_b {m : Mm} {at' : Int} {b : List UInt8} (h0 : 0 ≤ at') (h : at' + b.length ≤ m.b.length) : (writeD m at' b).1.b = overL m.b at'.toNat b := by
  have ht : thereD m.b.length at' b.length = true := there_fits h0 (by omega) h
  by_cases hb : b = []
  · rw [writeD_nil ht hb, hb, over_nil]
  · rw [writeD_yes ht hb]
theorem layD_fits {m : Mm} {at' : Int} {b : List UInt8} (h : at' + b.length ≤ m.b.length) : layD m at' b = ((writeD m at' b).1, at' + b.length, 0) := if_neg (by omega)
theorem layD_over {m : Mm} {at' : Int} {b : List UInt8} (h : (m.b.length : Int) < at' + b.length) : layD m at' b = (m, at', -8) := if_pos (by omega)
theorem writeD_nil' (m : Mm) (at' : Int) : writeD m at' [] = (m, 0) := writeD_nil (by unfold thereD; rw [decide_eq_true_eq]; left; rfl) rfl
theorem over_part {α : Type} {l b : List α} {a : Nat} (h : a + b.length ≤ l.length) : ((overL l a b).drop a).take b.length = b := by
  unfold overL
  rw [List.drop_append_of_le_length (by rw [List.length_take]; omega), List.drop_eq_nil_of_le (by rw [List.length_take]; omega), List.nil_append, List.take_left']
  rfl
theorem over_part2 {α : Type} {l b : List α} {a n c : Nat} (h : c + b.length ≤ l.length) (h2 : a + n ≤ c) : ((overL l c b).drop a).take n = (l.drop a).take n := by
  apply List.ext_getElem?
  intro i
  rw [List.getElem?_take, List.getElem?_take]
  split
  · rw [List.getElem?_drop, List.getElem?_drop, overL_get h, if_pos (by omega)]
  · rfl
theorem fetch_there {m : Mm} {at' : Nat} {a : Int} (ha : -9223372036854775808 ≤ a ∧ a ≤ 9223372036854775807) (h8 : at' % 8 = 0) (h : at' + 8 ≤ m.b.length) (hp : (m.b.drop at').take 8 = putB a) : fetchD m (at' : Int) = (a, 0) := by
  have e : cellAtD m (at' : Int) = 0 := by
    unfold cellAtD
    rw [there_fits (by omega) (by omega) (by omega), if_neg (by simp), if_neg (by rw [Int.tmod_eq_emod_of_nonneg (by omega)]; omega)]
  unfold fetchD
  rw [e, if_neg (by simp)]
  have hp' : partD m.b (at' : Int) 8 = putB a := by
    unfold partD
    rw [Int.toNat_natCast]
    exact hp
  rw [hp', get_put a ha]
theorem pad_eq (h : Nat) : (h + padN (h : Int)) % 8 = 0 ∧ padN (h : Int) ≤ 7 := by unfold padN; omega
/-- An end that is aligned. -/
theorem align_law {m : Mm} {h : Nat} (hr : m.b.length % 8 = 0) (h1 : h ≤ m.b.length) : ∃ x : Mm, alignD m (h : Int) = (x, ((h + padN (h : Int) : Nat) : Int), 0) ∧ x.b = overL m.b h (List.replicate (padN (h : Int)) 0) ∧ h + padN (h : Int) ≤ m.b.length ∧ x.old.length ≤ m.old.length + 1 := by
  obtain ⟨p1, p2⟩ := pad_eq h
  have hf : h + padN (h : Int) ≤ m.b.length := by omega
  have hf' : (h : Int) + (List.replicate (padN (h : Int)) (0 : UInt8)).length ≤ m.b.length := by rw [List.length_replicate]; omega
  refine ⟨(writeD m (h : Int) (List.replicate (padN (h : Int)) 0)).1, ?_, ?_, hf, writeD_len _ _ _⟩
  · unfold alignD
    rw [layD_fits hf', List.length_replicate]
    rfl
  · rw [write_b (by omega) hf', Int.toNat_natCast]
theorem align_again {m : Mm} {h : Nat} (h8 : h % 8 = 0) (h1 : h ≤ m.b.length) : alignD m (h : Int) = (m, (h : Int), 0) := by
  have e : padN (h : Int) = 0 := by unfold padN; omega
  unfold alignD
  rw [e, List.replicate_zero, layD_fits (by simpa using h1), writeD_nil']
  simp
theorem comma_fits {m : Mm} {h : Nat} (n : Int) (h8 : h % 8 = 0) (h1 : h + 8 ≤ m.b.length) : ∃ x : Mm, commaD m (h : Int) n = (x, ((h + 8 : Nat) : Int), 0) ∧ x.b = overL m.b h (putB n) ∧ x.old.length ≤ m.old.length + 1 := by
  have hf : (h : Int) + (putB n).length ≤ m.b.length := by rw [putB_len]; omega
  refine ⟨(writeD m (h : Int) (putB n)).1, ?_, ?_, writeD_len _ _ _⟩
  · unfold commaD
    rw [if_neg (by rw [Int.tmod_eq_emod_of_nonneg (by omega)]; omega), layD_fits hf, putB_len]
    rfl
  · rw [write_b (by omega) hf, Int.toNat_natCast]
theorem comma_over {m : Mm} {h : Nat} (n : Int) (h8 : h % 8 = 0) (h1 : m.b.length < h + 8) : commaD m (h : Int) n = (m, (h : Int), -8) := by
  unfold commaD
  rw [if_neg (by rw [Int.tmod_eq_emod_of_nonneg (by omega)]; omega), layD_over (by rw [putB_len]; omega)]
end Go.Proofs.Ytpolenndeeaodaa
