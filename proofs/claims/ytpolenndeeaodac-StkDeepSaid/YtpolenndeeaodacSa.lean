/- stk: both Shuffles make the same, name by name. Printed by gen_s9.py. -/
import Derived.Test.YtpolenndeeaodacS9
namespace Go.Proofs.Ytpolenndeeaodac
set_option linter.unusedVariables false
set_option linter.unusedSimpArgs false
open Go Go.RowKit
set_option maxRecDepth 100000

/-- Both make the same. -/
def Both (nm : ByteArray) (s : List Int) (limit : Int) : Prop := ∃ r : List Int × Bool × Int, r.1.length ≤ 200000 ∧ FnC Try.prog 15 [.val (.string nm), encS s, .val (.int .i64 limit)] (enc3 r) ∧ FnC Try.prog 16 [.val (.string nm), encS s, .val (.int .i64 limit)] (enc3 r)
theorem outD_len {s p l : List Int} {limit : Int} (h1 : s.length ≤ 100000) (h2 : p.length + l.length ≤ 200000) : (outD s p l limit).1.length ≤ 200000 := by
  unfold outD
  split
  · simp only; omega
  · simp only [List.length_append]; omega
theorem last_of {s : List Int} {t : Nat} (h : t ≤ s.length) : ∃ p q, s = p ++ q ∧ q.length = t := ⟨s.take (s.length - t), s.drop (s.length - t), (List.take_append_drop _ _).symm, by rw [List.length_drop]; omega⟩
theorem plain_nDUP : Plain nDUP := ⟨by kernel_rfl, by kernel_rfl, by kernel_rfl⟩
theorem word_nDUP (p : List Int) (a limit : Int) (hl : p.length ≤ 75000) : FnC Try.prog 15 [.val (.string nDUP), encS (p ++ [a]), .val (.int .i64 limit)] (enc3 (outD (p ++ [a]) p [a, a] limit)) :=
  shuf_word nDUP p [a] limit ⟨#[97, 97]⟩ 0 plain_nDUP (by kernel_rfl) (by kernel_rfl) rfl (letters_a _ 1 (by kernel_rfl)) (by simp; omega) (by decide)
theorem short_nDUP (s : List Int) (limit : Int) (hl : s.length < 1) : FnC Try.prog 15 [.val (.string nDUP), encS s, .val (.int .i64 limit)] (enc3 (s, true, -4)) :=
  shuf_short nDUP s limit 1 ⟨#[97, 97]⟩ 0 plain_nDUP (by kernel_rfl) (by kernel_rfl) rfl (by omega) (by omega)
theorem both_nDUP (s : List Int) (limit : Int) (hl : s.length ≤ 70000) : Both nDUP s limit := by
  by_cases hc : s.length < 1
  · exact ⟨(s, true, -4), by simp only; omega, short_nDUP s limit hc, ref_short nDUP s limit 1 (takes_nDUP s) (by omega) (by omega)⟩
  · obtain ⟨p, q, rfl, hq⟩ := last_of (s := s) (t := 1) (by omega)
    rw [List.length_append] at hl
    match q, hq with
    | [a], _ => exact ⟨_, outD_len (by simp; omega) (by simp; omega), word_nDUP p a limit (by omega), ref_ok nDUP p [a] [a, a] limit 1 (takes_nDUP _) rfl (left_nDUP a _) (by simp; omega) (by simp)⟩
theorem plain_nDROP : Plain nDROP := ⟨by kernel_rfl, by kernel_rfl, by kernel_rfl⟩
theorem word_nDROP (p : List Int) (a limit : Int) (hl : p.length ≤ 75000) : FnC Try.prog 15 [.val (.string nDROP), encS (p ++ [a]), .val (.int .i64 limit)] (enc3 (outD (p ++ [a]) p [] limit)) :=
  shuf_word nDROP p [a] limit ⟨#[]⟩ 1 plain_nDROP (by kernel_rfl) (by kernel_rfl) rfl (letters_a _ 1 (by kernel_rfl)) (by simp; omega) (by decide)
theorem short_nDROP (s : List Int) (limit : Int) (hl : s.length < 1) : FnC Try.prog 15 [.val (.string nDROP), encS s, .val (.int .i64 limit)] (enc3 (s, true, -4)) :=
  shuf_short nDROP s limit 1 ⟨#[]⟩ 1 plain_nDROP (by kernel_rfl) (by kernel_rfl) rfl (by omega) (by omega)
theorem both_nDROP (s : List Int) (limit : Int) (hl : s.length ≤ 70000) : Both nDROP s limit := by
  by_cases hc : s.length < 1
  · exact ⟨(s, true, -4), by simp only; omega, short_nDROP s limit hc, ref_short nDROP s limit 1 (takes_nDROP s) (by omega) (by omega)⟩
  · obtain ⟨p, q, rfl, hq⟩ := last_of (s := s) (t := 1) (by omega)
    rw [List.length_append] at hl
    match q, hq with
    | [a], _ => exact ⟨_, outD_len (by simp; omega) (by simp; omega), word_nDROP p a limit (by omega), ref_ok nDROP p [a] [] limit 1 (takes_nDROP _) rfl (left_nDROP a _) (by simp; omega) (by simp)⟩
theorem plain_nSWAP : Plain nSWAP := ⟨by kernel_rfl, by kernel_rfl, by kernel_rfl⟩
theorem word_nSWAP (p : List Int) (a b limit : Int) (hl : p.length ≤ 75000) : FnC Try.prog 15 [.val (.string nSWAP), encS (p ++ [a, b]), .val (.int .i64 limit)] (enc3 (outD (p ++ [a, b]) p [b, a] limit)) :=
  shuf_word nSWAP p [a, b] limit ⟨#[98, 97]⟩ 2 plain_nSWAP (by kernel_rfl) (by kernel_rfl) rfl (letters_a _ 2 (by kernel_rfl)) (by simp; omega) (by decide)
theorem short_nSWAP (s : List Int) (limit : Int) (hl : s.length < 2) : FnC Try.prog 15 [.val (.string nSWAP), encS s, .val (.int .i64 limit)] (enc3 (s, true, -4)) :=
  shuf_short nSWAP s limit 2 ⟨#[98, 97]⟩ 2 plain_nSWAP (by kernel_rfl) (by kernel_rfl) rfl (by omega) (by omega)
theorem both_nSWAP (s : List Int) (limit : Int) (hl : s.length ≤ 70000) : Both nSWAP s limit := by
  by_cases hc : s.length < 2
  · exact ⟨(s, true, -4), by simp only; omega, short_nSWAP s limit hc, ref_short nSWAP s limit 2 (takes_nSWAP s) (by omega) (by omega)⟩
  · obtain ⟨p, q, rfl, hq⟩ := last_of (s := s) (t := 2) (by omega)
    rw [List.length_append] at hl
    match q, hq with
    | [a, b], _ => exact ⟨_, outD_len (by simp; omega) (by simp; omega), word_nSWAP p a b limit (by omega), ref_ok nSWAP p [a, b] [b, a] limit 2 (takes_nSWAP _) rfl (left_nSWAP a b _) (by simp; omega) (by simp)⟩
theorem plain_nOVER : Plain nOVER := ⟨by kernel_rfl, by kernel_rfl, by kernel_rfl⟩
theorem word_nOVER (p : List Int) (a b limit : Int) (hl : p.length ≤ 75000) : FnC Try.prog 15 [.val (.string nOVER), encS (p ++ [a, b]), .val (.int .i64 limit)] (enc3 (outD (p ++ [a, b]) p [a, b, a] limit)) :=
  shuf_word nOVER p [a, b] limit ⟨#[97, 98, 97]⟩ 3 plain_nOVER (by kernel_rfl) (by kernel_rfl) rfl (letters_a _ 2 (by kernel_rfl)) (by simp; omega) (by decide)
theorem short_nOVER (s : List Int) (limit : Int) (hl : s.length < 2) : FnC Try.prog 15 [.val (.string nOVER), encS s, .val (.int .i64 limit)] (enc3 (s, true, -4)) :=
  shuf_short nOVER s limit 2 ⟨#[97, 98, 97]⟩ 3 plain_nOVER (by kernel_rfl) (by kernel_rfl) rfl (by omega) (by omega)
theorem both_nOVER (s : List Int) (limit : Int) (hl : s.length ≤ 70000) : Both nOVER s limit := by
  by_cases hc : s.length < 2
  · exact ⟨(s, true, -4), by simp only; omega, short_nOVER s limit hc, ref_short nOVER s limit 2 (takes_nOVER s) (by omega) (by omega)⟩
  · obtain ⟨p, q, rfl, hq⟩ := last_of (s := s) (t := 2) (by omega)
    rw [List.length_append] at hl
    match q, hq with
    | [a, b], _ => exact ⟨_, outD_len (by simp; omega) (by simp; omega), word_nOVER p a b limit (by omega), ref_ok nOVER p [a, b] [a, b, a] limit 2 (takes_nOVER _) rfl (left_nOVER a b _) (by simp; omega) (by simp)⟩
theorem plain_nNIP : Plain nNIP := ⟨by kernel_rfl, by kernel_rfl, by kernel_rfl⟩
theorem word_nNIP (p : List Int) (a b limit : Int) (hl : p.length ≤ 75000) : FnC Try.prog 15 [.val (.string nNIP), encS (p ++ [a, b]), .val (.int .i64 limit)] (enc3 (outD (p ++ [a, b]) p [b] limit)) :=
  shuf_word nNIP p [a, b] limit ⟨#[98]⟩ 4 plain_nNIP (by kernel_rfl) (by kernel_rfl) rfl (letters_a _ 2 (by kernel_rfl)) (by simp; omega) (by decide)
theorem short_nNIP (s : List Int) (limit : Int) (hl : s.length < 2) : FnC Try.prog 15 [.val (.string nNIP), encS s, .val (.int .i64 limit)] (enc3 (s, true, -4)) :=
  shuf_short nNIP s limit 2 ⟨#[98]⟩ 4 plain_nNIP (by kernel_rfl) (by kernel_rfl) rfl (by omega) (by omega)
theorem both_nNIP (s : List Int) (limit : Int) (hl : s.length ≤ 70000) : Both nNIP s limit := by
  by_cases hc : s.length < 2
  · exact ⟨(s, true, -4), by simp only; omega, short_nNIP s limit hc, ref_short nNIP s limit 2 (takes_nNIP s) (by omega) (by omega)⟩
  · obtain ⟨p, q, rfl, hq⟩ := last_of (s := s) (t := 2) (by omega)
    rw [List.length_append] at hl
    match q, hq with
    | [a, b], _ => exact ⟨_, outD_len (by simp; omega) (by simp; omega), word_nNIP p a b limit (by omega), ref_ok nNIP p [a, b] [b] limit 2 (takes_nNIP _) rfl (left_nNIP a b _) (by simp; omega) (by simp)⟩
theorem plain_nTUCK : Plain nTUCK := ⟨by kernel_rfl, by kernel_rfl, by kernel_rfl⟩
theorem word_nTUCK (p : List Int) (a b limit : Int) (hl : p.length ≤ 75000) : FnC Try.prog 15 [.val (.string nTUCK), encS (p ++ [a, b]), .val (.int .i64 limit)] (enc3 (outD (p ++ [a, b]) p [b, a, b] limit)) :=
  shuf_word nTUCK p [a, b] limit ⟨#[98, 97, 98]⟩ 5 plain_nTUCK (by kernel_rfl) (by kernel_rfl) rfl (letters_a _ 2 (by kernel_rfl)) (by simp; omega) (by decide)
theorem short_nTUCK (s : List Int) (limit : Int) (hl : s.length < 2) : FnC Try.prog 15 [.val (.string nTUCK), encS s, .val (.int .i64 limit)] (enc3 (s, true, -4)) :=
  shuf_short nTUCK s limit 2 ⟨#[98, 97, 98]⟩ 5 plain_nTUCK (by kernel_rfl) (by kernel_rfl) rfl (by omega) (by omega)
theorem both_nTUCK (s : List Int) (limit : Int) (hl : s.length ≤ 70000) : Both nTUCK s limit := by
  by_cases hc : s.length < 2
  · exact ⟨(s, true, -4), by simp only; omega, short_nTUCK s limit hc, ref_short nTUCK s limit 2 (takes_nTUCK s) (by omega) (by omega)⟩
  · obtain ⟨p, q, rfl, hq⟩ := last_of (s := s) (t := 2) (by omega)
    rw [List.length_append] at hl
    match q, hq with
    | [a, b], _ => exact ⟨_, outD_len (by simp; omega) (by simp; omega), word_nTUCK p a b limit (by omega), ref_ok nTUCK p [a, b] [b, a, b] limit 2 (takes_nTUCK _) rfl (left_nTUCK a b _) (by simp; omega) (by simp)⟩
theorem plain_nROT : Plain nROT := ⟨by kernel_rfl, by kernel_rfl, by kernel_rfl⟩
theorem word_nROT (p : List Int) (a b c limit : Int) (hl : p.length ≤ 75000) : FnC Try.prog 15 [.val (.string nROT), encS (p ++ [a, b, c]), .val (.int .i64 limit)] (enc3 (outD (p ++ [a, b, c]) p [b, c, a] limit)) :=
  shuf_word nROT p [a, b, c] limit ⟨#[98, 99, 97]⟩ 6 plain_nROT (by kernel_rfl) (by kernel_rfl) rfl (letters_a _ 3 (by kernel_rfl)) (by simp; omega) (by decide)
theorem short_nROT (s : List Int) (limit : Int) (hl : s.length < 3) : FnC Try.prog 15 [.val (.string nROT), encS s, .val (.int .i64 limit)] (enc3 (s, true, -4)) :=
  shuf_short nROT s limit 3 ⟨#[98, 99, 97]⟩ 6 plain_nROT (by kernel_rfl) (by kernel_rfl) rfl (by omega) (by omega)
theorem both_nROT (s : List Int) (limit : Int) (hl : s.length ≤ 70000) : Both nROT s limit := by
  by_cases hc : s.length < 3
  · exact ⟨(s, true, -4), by simp only; omega, short_nROT s limit hc, ref_short nROT s limit 3 (takes_nROT s) (by omega) (by omega)⟩
  · obtain ⟨p, q, rfl, hq⟩ := last_of (s := s) (t := 3) (by omega)
    rw [List.length_append] at hl
    match q, hq with
    | [a, b, c], _ => exact ⟨_, outD_len (by simp; omega) (by simp; omega), word_nROT p a b c limit (by omega), ref_ok nROT p [a, b, c] [b, c, a] limit 3 (takes_nROT _) rfl (left_nROT a b c _) (by simp; omega) (by simp)⟩
theorem plain_nROTR : Plain nROTR := ⟨by kernel_rfl, by kernel_rfl, by kernel_rfl⟩
theorem word_nROTR (p : List Int) (a b c limit : Int) (hl : p.length ≤ 75000) : FnC Try.prog 15 [.val (.string nROTR), encS (p ++ [a, b, c]), .val (.int .i64 limit)] (enc3 (outD (p ++ [a, b, c]) p [c, a, b] limit)) :=
  shuf_word nROTR p [a, b, c] limit ⟨#[99, 97, 98]⟩ 7 plain_nROTR (by kernel_rfl) (by kernel_rfl) rfl (letters_a _ 3 (by kernel_rfl)) (by simp; omega) (by decide)
theorem short_nROTR (s : List Int) (limit : Int) (hl : s.length < 3) : FnC Try.prog 15 [.val (.string nROTR), encS s, .val (.int .i64 limit)] (enc3 (s, true, -4)) :=
  shuf_short nROTR s limit 3 ⟨#[99, 97, 98]⟩ 7 plain_nROTR (by kernel_rfl) (by kernel_rfl) rfl (by omega) (by omega)
theorem both_nROTR (s : List Int) (limit : Int) (hl : s.length ≤ 70000) : Both nROTR s limit := by
  by_cases hc : s.length < 3
  · exact ⟨(s, true, -4), by simp only; omega, short_nROTR s limit hc, ref_short nROTR s limit 3 (takes_nROTR s) (by omega) (by omega)⟩
  · obtain ⟨p, q, rfl, hq⟩ := last_of (s := s) (t := 3) (by omega)
    rw [List.length_append] at hl
    match q, hq with
    | [a, b, c], _ => exact ⟨_, outD_len (by simp; omega) (by simp; omega), word_nROTR p a b c limit (by omega), ref_ok nROTR p [a, b, c] [c, a, b] limit 3 (takes_nROTR _) rfl (left_nROTR a b c _) (by simp; omega) (by simp)⟩
theorem plain_nDUP2 : Plain nDUP2 := ⟨by kernel_rfl, by kernel_rfl, by kernel_rfl⟩
theorem word_nDUP2 (p : List Int) (a b limit : Int) (hl : p.length ≤ 75000) : FnC Try.prog 15 [.val (.string nDUP2), encS (p ++ [a, b]), .val (.int .i64 limit)] (enc3 (outD (p ++ [a, b]) p [a, b, a, b] limit)) :=
  shuf_word nDUP2 p [a, b] limit ⟨#[97, 98, 97, 98]⟩ 8 plain_nDUP2 (by kernel_rfl) (by kernel_rfl) rfl (letters_a _ 2 (by kernel_rfl)) (by simp; omega) (by decide)
theorem short_nDUP2 (s : List Int) (limit : Int) (hl : s.length < 2) : FnC Try.prog 15 [.val (.string nDUP2), encS s, .val (.int .i64 limit)] (enc3 (s, true, -4)) :=
  shuf_short nDUP2 s limit 2 ⟨#[97, 98, 97, 98]⟩ 8 plain_nDUP2 (by kernel_rfl) (by kernel_rfl) rfl (by omega) (by omega)
theorem both_nDUP2 (s : List Int) (limit : Int) (hl : s.length ≤ 70000) : Both nDUP2 s limit := by
  by_cases hc : s.length < 2
  · exact ⟨(s, true, -4), by simp only; omega, short_nDUP2 s limit hc, ref_short nDUP2 s limit 2 (takes_nDUP2 s) (by omega) (by omega)⟩
  · obtain ⟨p, q, rfl, hq⟩ := last_of (s := s) (t := 2) (by omega)
    rw [List.length_append] at hl
    match q, hq with
    | [a, b], _ => exact ⟨_, outD_len (by simp; omega) (by simp; omega), word_nDUP2 p a b limit (by omega), ref_ok nDUP2 p [a, b] [a, b, a, b] limit 2 (takes_nDUP2 _) rfl (left_nDUP2 a b _) (by simp; omega) (by simp)⟩
theorem plain_nDROP2 : Plain nDROP2 := ⟨by kernel_rfl, by kernel_rfl, by kernel_rfl⟩
theorem word_nDROP2 (p : List Int) (a b limit : Int) (hl : p.length ≤ 75000) : FnC Try.prog 15 [.val (.string nDROP2), encS (p ++ [a, b]), .val (.int .i64 limit)] (enc3 (outD (p ++ [a, b]) p [] limit)) :=
  shuf_word nDROP2 p [a, b] limit ⟨#[]⟩ 9 plain_nDROP2 (by kernel_rfl) (by kernel_rfl) rfl (letters_a _ 2 (by kernel_rfl)) (by simp; omega) (by decide)
theorem short_nDROP2 (s : List Int) (limit : Int) (hl : s.length < 2) : FnC Try.prog 15 [.val (.string nDROP2), encS s, .val (.int .i64 limit)] (enc3 (s, true, -4)) :=
  shuf_short nDROP2 s limit 2 ⟨#[]⟩ 9 plain_nDROP2 (by kernel_rfl) (by kernel_rfl) rfl (by omega) (by omega)
theorem both_nDROP2 (s : List Int) (limit : Int) (hl : s.length ≤ 70000) : Both nDROP2 s limit := by
  by_cases hc : s.length < 2
  · exact ⟨(s, true, -4), by simp only; omega, short_nDROP2 s limit hc, ref_short nDROP2 s limit 2 (takes_nDROP2 s) (by omega) (by omega)⟩
  · obtain ⟨p, q, rfl, hq⟩ := last_of (s := s) (t := 2) (by omega)
    rw [List.length_append] at hl
    match q, hq with
    | [a, b], _ => exact ⟨_, outD_len (by simp; omega) (by simp; omega), word_nDROP2 p a b limit (by omega), ref_ok nDROP2 p [a, b] [] limit 2 (takes_nDROP2 _) rfl (left_nDROP2 a b _) (by simp; omega) (by simp)⟩
theorem plain_nSWAP2 : Plain nSWAP2 := ⟨by kernel_rfl, by kernel_rfl, by kernel_rfl⟩
theorem word_nSWAP2 (p : List Int) (a b c d limit : Int) (hl : p.length ≤ 75000) : FnC Try.prog 15 [.val (.string nSWAP2), encS (p ++ [a, b, c, d]), .val (.int .i64 limit)] (enc3 (outD (p ++ [a, b, c, d]) p [c, d, a, b] limit)) :=
  shuf_word nSWAP2 p [a, b, c, d] limit ⟨#[99, 100, 97, 98]⟩ 10 plain_nSWAP2 (by kernel_rfl) (by kernel_rfl) rfl (letters_a _ 4 (by kernel_rfl)) (by simp; omega) (by decide)
theorem short_nSWAP2 (s : List Int) (limit : Int) (hl : s.length < 4) : FnC Try.prog 15 [.val (.string nSWAP2), encS s, .val (.int .i64 limit)] (enc3 (s, true, -4)) :=
  shuf_short nSWAP2 s limit 4 ⟨#[99, 100, 97, 98]⟩ 10 plain_nSWAP2 (by kernel_rfl) (by kernel_rfl) rfl (by omega) (by omega)
theorem both_nSWAP2 (s : List Int) (limit : Int) (hl : s.length ≤ 70000) : Both nSWAP2 s limit := by
  by_cases hc : s.length < 4
  · exact ⟨(s, true, -4), by simp only; omega, short_nSWAP2 s limit hc, ref_short nSWAP2 s limit 4 (takes_nSWAP2 s) (by omega) (by omega)⟩
  · obtain ⟨p, q, rfl, hq⟩ := last_of (s := s) (t := 4) (by omega)
    rw [List.length_append] at hl
    match q, hq with
    | [a, b, c, d], _ => exact ⟨_, outD_len (by simp; omega) (by simp; omega), word_nSWAP2 p a b c d limit (by omega), ref_ok nSWAP2 p [a, b, c, d] [c, d, a, b] limit 4 (takes_nSWAP2 _) rfl (left_nSWAP2 a b c d _) (by simp; omega) (by simp)⟩
theorem plain_nOVER2 : Plain nOVER2 := ⟨by kernel_rfl, by kernel_rfl, by kernel_rfl⟩
theorem word_nOVER2 (p : List Int) (a b c d limit : Int) (hl : p.length ≤ 75000) : FnC Try.prog 15 [.val (.string nOVER2), encS (p ++ [a, b, c, d]), .val (.int .i64 limit)] (enc3 (outD (p ++ [a, b, c, d]) p [a, b, c, d, a, b] limit)) :=
  shuf_word nOVER2 p [a, b, c, d] limit ⟨#[97, 98, 99, 100, 97, 98]⟩ 11 plain_nOVER2 (by kernel_rfl) (by kernel_rfl) rfl (letters_a _ 4 (by kernel_rfl)) (by simp; omega) (by decide)
theorem short_nOVER2 (s : List Int) (limit : Int) (hl : s.length < 4) : FnC Try.prog 15 [.val (.string nOVER2), encS s, .val (.int .i64 limit)] (enc3 (s, true, -4)) :=
  shuf_short nOVER2 s limit 4 ⟨#[97, 98, 99, 100, 97, 98]⟩ 11 plain_nOVER2 (by kernel_rfl) (by kernel_rfl) rfl (by omega) (by omega)
theorem both_nOVER2 (s : List Int) (limit : Int) (hl : s.length ≤ 70000) : Both nOVER2 s limit := by
  by_cases hc : s.length < 4
  · exact ⟨(s, true, -4), by simp only; omega, short_nOVER2 s limit hc, ref_short nOVER2 s limit 4 (takes_nOVER2 s) (by omega) (by omega)⟩
  · obtain ⟨p, q, rfl, hq⟩ := last_of (s := s) (t := 4) (by omega)
    rw [List.length_append] at hl
    match q, hq with
    | [a, b, c, d], _ => exact ⟨_, outD_len (by simp; omega) (by simp; omega), word_nOVER2 p a b c d limit (by omega), ref_ok nOVER2 p [a, b, c, d] [a, b, c, d, a, b] limit 4 (takes_nOVER2 _) rfl (left_nOVER2 a b c d _) (by simp; omega) (by simp)⟩
theorem both_nDEPTH (s : List Int) (limit : Int) (hl : s.length ≤ 70000) : Both nDEPTH s limit := by
  have h := ref_ok nDEPTH s [] [(s.length : Int)] limit 0 (takes_nDEPTH _) rfl (by
    have := left_nDEPTH ((((s ++ []).map encI).length : Nat) : Int)
    simpa using this) (by simp; omega) (by simp)
  rw [List.append_nil] at h
  exact ⟨_, outD_len (by omega) (by simp; omega), shuf_depth s (by omega) limit, h⟩
theorem both_nQDUP (s : List Int) (limit : Int) (hl : s.length ≤ 70000) : Both nQDUP s limit := by
  by_cases hc : s = []
  · subst hc
    exact ⟨([], true, -4), by decide, shuf_qdup0 limit, ref_short nQDUP [] limit 1 (takes_nQDUP []) (by omega) (by simp)⟩
  · obtain ⟨p, x, rfl⟩ := snoc_of hc
    rw [List.length_append] at hl
    cases hx : (x == 0) with
    | false => exact ⟨_, outD_len (by simp; omega) (by simp [leaveD]; omega), shuf_qdup1 p x limit hx (by omega), ref_ok nQDUP p [x] [x, x] limit 1 (takes_nQDUP _) rfl (left_nQDUP2 x _ hx) (by simp; omega) (by simp)⟩
    | true => exact ⟨_, outD_len (by simp; omega) (by simp [leaveD]; omega), shuf_qdup2 p x limit hx (by omega), ref_ok nQDUP p [x] [x] limit 1 (takes_nQDUP _) rfl (left_nQDUP1 x _ hx) (by simp; omega) (by simp)⟩
theorem split_at {p : List Int} {n : Int} (h0 : 0 ≤ n) (h : n < (p.length : Int)) : ∃ a y b, p = a ++ y :: b ∧ n = (b.length : Nat) := by
  have hi : p.length - 1 - n.toNat < p.length := by omega
  refine ⟨p.take (p.length - 1 - n.toNat), p[p.length - 1 - n.toNat], p.drop (p.length - 1 - n.toNat + 1), ?_, ?_⟩
  · rw [List.getElem_cons_drop, List.take_append_drop]
  · rw [List.length_drop]; omega
theorem outD_pick (s a b : List Int) (y limit : Int) : outD s (a ++ y :: b) [y] limit = outD s a ((y :: b) ++ [y]) limit := by
  unfold outD
  simp only [List.length_append, List.length_cons, List.length_nil, List.append_assoc, List.cons_append]
  have e : (((a.length + (b.length + 1) : Nat) : Int) + ((0 + 1 : Nat) : Int)) = ((a.length : Int) + ((b.length + (0 + 1) + 1 : Nat) : Int)) := by omega
  rw [e]
theorem deep_other (nm : ByteArray) (roll : Bool) (s : List Int) (limit : Int) (hl : s.length ≤ 70000) (hs : ∀ r, FnC Try.prog 20 [encS s, .val (.bool roll), .val (.int .i64 limit)] (enc3 r) → FnC Try.prog 15 [.val (.string nm), encS s, .val (.int .i64 limit)] (enc3 r))
    (h0 : FnC Try.prog 22 [.val (.string nm), encS []] (.val (.int .i64 1))) (h1 : ∀ (p : List Int) (n : Int), p.length ≤ 90000 → (n < 0 ∨ (p.length : Int) ≤ n) → FnC Try.prog 22 [.val (.string nm), encS (p ++ [n])] (.val (.int .i64 ((((p ++ [n]).map encI).length : Nat) + 1 : Int))))
    (hg : ∀ a b y, s = (a ++ y :: b) ++ [(b.length : Int)] → Both nm s limit) : Both nm s limit := by
  by_cases hc : s = []
  · subst hc
    exact ⟨([], true, -4), by decide, hs _ (deep_nil roll limit), ref_short nm [] limit 1 h0 (by omega) (by simp)⟩
  · obtain ⟨p, n, rfl⟩ := snoc_of hc
    rw [List.length_append, List.length_singleton] at hl
    by_cases hb : n < 0 ∨ (p.length : Int) ≤ n
    · exact ⟨(p ++ [n], true, -4), by simp; omega, hs _ (deep_bad p n (by omega) hb roll limit), ref_short nm (p ++ [n]) limit _ (h1 p n (by omega) hb) (by omega) (by simp; omega)⟩
    · obtain ⟨a, y, b, rfl, rfl⟩ := split_at (p := p) (n := n) (by omega) (by omega)
      exact hg a b y rfl
theorem both_nPICK (s : List Int) (limit : Int) (hl : s.length ≤ 70000) : Both nPICK s limit := by
  refine deep_other nPICK false s limit hl (fun r hr => shuf_pick s limit r hr) takes_nPICK_nil takes_nPICK_bad (fun a b y e => ?_)
  subst e
  simp only [List.length_append, List.length_cons, List.length_nil] at hl
  have h1 := shuf_pick _ limit _ (pick_c a b y (by omega) limit)
  have e2 : (a ++ y :: b) ++ [(b.length : Int)] = a ++ ((y :: b) ++ [(b.length : Int)]) := by simp
  have ht := takes_nPICK (a ++ y :: b) (b.length : Int) (by simp; omega) (by omega) (by simp; omega)
  have h2 := ref_ok nPICK a ((y :: b) ++ [(b.length : Int)]) ((y :: b) ++ [y]) limit ((b.length : Int) + 2) (by rw [← e2]; exact ht) (by simp; omega) (left_nPICK y b _ _ (by omega)) (by simp; omega) (by simp; omega)
  rw [← e2] at h2
  rw [outD_pick] at h1
  exact ⟨_, outD_len (by simp; omega) (by simp; omega), h1, h2⟩
theorem both_nROLL (s : List Int) (limit : Int) (hl : s.length ≤ 70000) : Both nROLL s limit := by
  refine deep_other nROLL true s limit hl (fun r hr => shuf_roll s limit r hr) takes_nROLL_nil takes_nROLL_bad (fun a b y e => ?_)
  subst e
  simp only [List.length_append, List.length_cons, List.length_nil] at hl
  have h1 := shuf_roll _ limit _ (roll_c a b y (by omega) limit)
  have e2 : (a ++ y :: b) ++ [(b.length : Int)] = a ++ ((y :: b) ++ [(b.length : Int)]) := by simp
  have ht := takes_nROLL (a ++ y :: b) (b.length : Int) (by simp; omega) (by omega) (by simp; omega)
  have h2 := ref_ok nROLL a ((y :: b) ++ [(b.length : Int)]) (b ++ [y]) limit ((b.length : Int) + 2) (by rw [← e2]; exact ht) (by simp; omega) (left_nROLL y b _ _ (by omega)) (by simp; omega) (by simp; omega)
  rw [← e2] at h2
  exact ⟨_, outD_len (by simp; omega) (by simp; omega), h1, h2⟩
theorem str_ne {a b : ByteArray} (h : a ≠ b) : (a.toList == b.toList) = false := by
  rw [beq_eq_false_iff_ne]
  intro e
  rw [ByteArray.toList_eq, ByteArray.toList_eq] at e
  apply h
  cases a
  cases b
  simp only [ByteArray.mk.injEq]
  exact Array.toList_inj.1 e
theorem same_ne {a b : ByteArray} (h : a ≠ b) : Instr.sameNow .string (.string a) (.string b) = some false := by
  show some (a == b) = some false
  have e : (a == b) = (a.data == b.data) := rfl
  have : (a == b) = false := by
    rw [e, beq_eq_false_iff_ne]
    intro e'
    apply h
    cases a
    cases b
    simp only at e'
    rw [e']
  rw [this]
theorem both_any (nm : ByteArray) (s : List Int) (limit : Int) (hl : s.length ≤ 70000) : Both nm s limit := by
  by_cases h_nDEPTH : nm = nDEPTH
  · subst h_nDEPTH; exact both_nDEPTH s limit hl
  by_cases h_nDUP : nm = nDUP
  · subst h_nDUP; exact both_nDUP s limit hl
  by_cases h_nDROP : nm = nDROP
  · subst h_nDROP; exact both_nDROP s limit hl
  by_cases h_nQDUP : nm = nQDUP
  · subst h_nQDUP; exact both_nQDUP s limit hl
  by_cases h_nSWAP : nm = nSWAP
  · subst h_nSWAP; exact both_nSWAP s limit hl
  by_cases h_nOVER : nm = nOVER
  · subst h_nOVER; exact both_nOVER s limit hl
  by_cases h_nNIP : nm = nNIP
  · subst h_nNIP; exact both_nNIP s limit hl
  by_cases h_nTUCK : nm = nTUCK
  · subst h_nTUCK; exact both_nTUCK s limit hl
  by_cases h_nDUP2 : nm = nDUP2
  · subst h_nDUP2; exact both_nDUP2 s limit hl
  by_cases h_nDROP2 : nm = nDROP2
  · subst h_nDROP2; exact both_nDROP2 s limit hl
  by_cases h_nROT : nm = nROT
  · subst h_nROT; exact both_nROT s limit hl
  by_cases h_nROTR : nm = nROTR
  · subst h_nROTR; exact both_nROTR s limit hl
  by_cases h_nSWAP2 : nm = nSWAP2
  · subst h_nSWAP2; exact both_nSWAP2 s limit hl
  by_cases h_nOVER2 : nm = nOVER2
  · subst h_nOVER2; exact both_nOVER2 s limit hl
  by_cases h_nPICK : nm = nPICK
  · subst h_nPICK; exact both_nPICK s limit hl
  by_cases h_nROLL : nm = nROLL
  · subst h_nROLL; exact both_nROLL s limit hl
  have hn : NoName nm := ⟨str_ne h_nDEPTH, str_ne h_nDUP, str_ne h_nDROP, str_ne h_nQDUP, str_ne h_nSWAP, str_ne h_nOVER, str_ne h_nNIP, str_ne h_nTUCK, str_ne h_nDUP2, str_ne h_nDROP2, str_ne h_nROT, str_ne h_nROTR, str_ne h_nSWAP2, str_ne h_nOVER2, str_ne h_nPICK, str_ne h_nROLL⟩
  have hk : keyNone .string (.string nm) shK = true := by
    simp only [shK, shW, List.map_cons, List.map_nil, keyNone, same_ne h_nDUP, same_ne h_nDROP, same_ne h_nSWAP, same_ne h_nOVER, same_ne h_nNIP, same_ne h_nTUCK, same_ne h_nROT, same_ne h_nROTR, same_ne h_nDUP2, same_ne h_nDROP2, same_ne h_nSWAP2, same_ne h_nOVER2]
  exact ⟨(s, false, 0), by simp only; omega, shuf_none nm s limit ⟨hn.f0, hn.f14, hn.f15⟩ hn.f3 hk (by omega), ref_none nm hn s limit⟩
end Go.Proofs.Ytpolenndeeaodac
