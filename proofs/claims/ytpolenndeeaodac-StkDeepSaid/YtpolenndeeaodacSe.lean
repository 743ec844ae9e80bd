/- stk: what each word does, with cells put below. Printed by gen_se.py. -/
import Derived.Test.YtpolenndeeaodacSb
namespace Go.Proofs.Ytpolenndeeaodac
set_option linter.unusedVariables false
set_option linter.unusedSimpArgs false
open Go Go.RowKit
set_option maxRecDepth 100000

def ShufC (nm : ByteArray) (s : List Int) (limit : Int) (r : List Int × Bool × Int) : Prop := FnC Try.prog 15 [.val (.string nm), encS s, .val (.int .i64 limit)] (enc3 r)
/-- A word that takes the cells q, above p, and leaves l; or the stack is too short. -/
def WordB (nm : ByteArray) (s : List Int) : Prop := (∀ limit, ShufC nm s limit (s, true, -4)) ∨ ∃ p q l, s = p ++ q ∧ l.length ≤ q.length + 6 ∧ ∀ below limit, below.length ≤ 200 → ShufC nm (below ++ s) limit (outD (below ++ s) (below ++ p) l limit)
theorem wordB_nDUP (s : List Int) (hl : s.length ≤ 1000) : WordB nDUP s := by
  by_cases hc : s.length < 1
  · exact .inl (fun limit => short_nDUP s limit hc)
  · obtain ⟨p, q, rfl, hq⟩ := last_of (s := s) (t := 1) (by omega)
    rw [List.length_append] at hl
    match q, hq with
    | [a], _ => exact .inr ⟨p, [a], [a, a], rfl, by simp, fun below limit hb => by
        have := word_nDUP (below ++ p) a limit (by rw [List.length_append]; omega)
        rw [List.append_assoc] at this
        exact this⟩
theorem wordB_nDROP (s : List Int) (hl : s.length ≤ 1000) : WordB nDROP s := by
  by_cases hc : s.length < 1
  · exact .inl (fun limit => short_nDROP s limit hc)
  · obtain ⟨p, q, rfl, hq⟩ := last_of (s := s) (t := 1) (by omega)
    rw [List.length_append] at hl
    match q, hq with
    | [a], _ => exact .inr ⟨p, [a], [], rfl, by simp, fun below limit hb => by
        have := word_nDROP (below ++ p) a limit (by rw [List.length_append]; omega)
        rw [List.append_assoc] at this
        exact this⟩
theorem wordB_nSWAP (s : List Int) (hl : s.length ≤ 1000) : WordB nSWAP s := by
  by_cases hc : s.length < 2
  · exact .inl (fun limit => short_nSWAP s limit hc)
  · obtain ⟨p, q, rfl, hq⟩ := last_of (s := s) (t := 2) (by omega)
    rw [List.length_append] at hl
    match q, hq with
    | [a, b], _ => exact .inr ⟨p, [a, b], [b, a], rfl, by simp, fun below limit hb => by
        have := word_nSWAP (below ++ p) a b limit (by rw [List.length_append]; omega)
        rw [List.append_assoc] at this
        exact this⟩
theorem wordB_nOVER (s : List Int) (hl : s.length ≤ 1000) : WordB nOVER s := by
  by_cases hc : s.length < 2
  · exact .inl (fun limit => short_nOVER s limit hc)
  · obtain ⟨p, q, rfl, hq⟩ := last_of (s := s) (t := 2) (by omega)
    rw [List.length_append] at hl
    match q, hq with
    | [a, b], _ => exact .inr ⟨p, [a, b], [a, b, a], rfl, by simp, fun below limit hb => by
        have := word_nOVER (below ++ p) a b limit (by rw [List.length_append]; omega)
        rw [List.append_assoc] at this
        exact this⟩
theorem wordB_nNIP (s : List Int) (hl : s.length ≤ 1000) : WordB nNIP s := by
  by_cases hc : s.length < 2
  · exact .inl (fun limit => short_nNIP s limit hc)
  · obtain ⟨p, q, rfl, hq⟩ := last_of (s := s) (t := 2) (by omega)
    rw [List.length_append] at hl
    match q, hq with
    | [a, b], _ => exact .inr ⟨p, [a, b], [b], rfl, by simp, fun below limit hb => by
        have := word_nNIP (below ++ p) a b limit (by rw [List.length_append]; omega)
        rw [List.append_assoc] at this
        exact this⟩
theorem wordB_nTUCK (s : List Int) (hl : s.length ≤ 1000) : WordB nTUCK s := by
  by_cases hc : s.length < 2
  · exact .inl (fun limit => short_nTUCK s limit hc)
  · obtain ⟨p, q, rfl, hq⟩ := last_of (s := s) (t := 2) (by omega)
    rw [List.length_append] at hl
    match q, hq with
    | [a, b], _ => exact .inr ⟨p, [a, b], [b, a, b], rfl, by simp, fun below limit hb => by
        have := word_nTUCK (below ++ p) a b limit (by rw [List.length_append]; omega)
        rw [List.append_assoc] at this
        exact this⟩
theorem wordB_nROT (s : List Int) (hl : s.length ≤ 1000) : WordB nROT s := by
  by_cases hc : s.length < 3
  · exact .inl (fun limit => short_nROT s limit hc)
  · obtain ⟨p, q, rfl, hq⟩ := last_of (s := s) (t := 3) (by omega)
    rw [List.length_append] at hl
    match q, hq with
    | [a, b, c], _ => exact .inr ⟨p, [a, b, c], [b, c, a], rfl, by simp, fun below limit hb => by
        have := word_nROT (below ++ p) a b c limit (by rw [List.length_append]; omega)
        rw [List.append_assoc] at this
        exact this⟩
theorem wordB_nROTR (s : List Int) (hl : s.length ≤ 1000) : WordB nROTR s := by
  by_cases hc : s.length < 3
  · exact .inl (fun limit => short_nROTR s limit hc)
  · obtain ⟨p, q, rfl, hq⟩ := last_of (s := s) (t := 3) (by omega)
    rw [List.length_append] at hl
    match q, hq with
    | [a, b, c], _ => exact .inr ⟨p, [a, b, c], [c, a, b], rfl, by simp, fun below limit hb => by
        have := word_nROTR (below ++ p) a b c limit (by rw [List.length_append]; omega)
        rw [List.append_assoc] at this
        exact this⟩
theorem wordB_nDUP2 (s : List Int) (hl : s.length ≤ 1000) : WordB nDUP2 s := by
  by_cases hc : s.length < 2
  · exact .inl (fun limit => short_nDUP2 s limit hc)
  · obtain ⟨p, q, rfl, hq⟩ := last_of (s := s) (t := 2) (by omega)
    rw [List.length_append] at hl
    match q, hq with
    | [a, b], _ => exact .inr ⟨p, [a, b], [a, b, a, b], rfl, by simp, fun below limit hb => by
        have := word_nDUP2 (below ++ p) a b limit (by rw [List.length_append]; omega)
        rw [List.append_assoc] at this
        exact this⟩
theorem wordB_nDROP2 (s : List Int) (hl : s.length ≤ 1000) : WordB nDROP2 s := by
  by_cases hc : s.length < 2
  · exact .inl (fun limit => short_nDROP2 s limit hc)
  · obtain ⟨p, q, rfl, hq⟩ := last_of (s := s) (t := 2) (by omega)
    rw [List.length_append] at hl
    match q, hq with
    | [a, b], _ => exact .inr ⟨p, [a, b], [], rfl, by simp, fun below limit hb => by
        have := word_nDROP2 (below ++ p) a b limit (by rw [List.length_append]; omega)
        rw [List.append_assoc] at this
        exact this⟩
theorem wordB_nSWAP2 (s : List Int) (hl : s.length ≤ 1000) : WordB nSWAP2 s := by
  by_cases hc : s.length < 4
  · exact .inl (fun limit => short_nSWAP2 s limit hc)
  · obtain ⟨p, q, rfl, hq⟩ := last_of (s := s) (t := 4) (by omega)
    rw [List.length_append] at hl
    match q, hq with
    | [a, b, c, d], _ => exact .inr ⟨p, [a, b, c, d], [c, d, a, b], rfl, by simp, fun below limit hb => by
        have := word_nSWAP2 (below ++ p) a b c d limit (by rw [List.length_append]; omega)
        rw [List.append_assoc] at this
        exact this⟩
theorem wordB_nOVER2 (s : List Int) (hl : s.length ≤ 1000) : WordB nOVER2 s := by
  by_cases hc : s.length < 4
  · exact .inl (fun limit => short_nOVER2 s limit hc)
  · obtain ⟨p, q, rfl, hq⟩ := last_of (s := s) (t := 4) (by omega)
    rw [List.length_append] at hl
    match q, hq with
    | [a, b, c, d], _ => exact .inr ⟨p, [a, b, c, d], [a, b, c, d, a, b], rfl, by simp, fun below limit hb => by
        have := word_nOVER2 (below ++ p) a b c d limit (by rw [List.length_append]; omega)
        rw [List.append_assoc] at this
        exact this⟩
theorem wordB_nQDUP (s : List Int) (hl : s.length ≤ 1000) : WordB nQDUP s := by
  by_cases hc : s = []
  · subst hc
    exact .inl (fun limit => shuf_qdup0 limit)
  · obtain ⟨p, x, rfl⟩ := snoc_of hc
    rw [List.length_append] at hl
    cases hx : (x == 0) with
    | false => exact .inr ⟨p, [x], [x, x], rfl, by simp, fun below limit hb => by
        have := shuf_qdup1 (below ++ p) x limit hx (by rw [List.length_append]; omega)
        rw [List.append_assoc] at this
        exact this⟩
    | true => exact .inr ⟨p, [x], [x], rfl, by simp, fun below limit hb => by
        have := shuf_qdup2 (below ++ p) x limit hx (by rw [List.length_append]; omega)
        rw [List.append_assoc] at this
        exact this⟩
theorem wordB_nPICK (s : List Int) (hl : s.length ≤ 1000) : WordB nPICK s := by
  by_cases hc : s = []
  · subst hc
    exact .inl (fun limit => shuf_pick _ limit _ (deep_nil false limit))
  · obtain ⟨p, n, rfl⟩ := snoc_of hc
    rw [List.length_append, List.length_singleton] at hl
    by_cases hb : n < 0 ∨ (p.length : Int) ≤ n
    · exact .inl (fun limit => shuf_pick _ limit _ (deep_bad p n (by omega) hb false limit))
    · obtain ⟨a, y, b, rfl, rfl⟩ := split_at (p := p) (n := n) (by omega) (by omega)
      simp only [List.length_append, List.length_cons] at hl
      exact .inr ⟨a ++ y :: b, [(b.length : Int)], [y], rfl, by simp, fun below limit hb => by
        have := shuf_pick _ limit _ (pick_c (below ++ a) b y (by rw [List.length_append]; omega) limit)
        have e1 : ((below ++ a) ++ y :: b) ++ [(b.length : Int)] = below ++ ((a ++ y :: b) ++ [(b.length : Int)]) := by simp
        have e2 : (below ++ a) ++ y :: b = below ++ (a ++ y :: b) := by simp
        rw [e1, e2] at this
        exact this⟩
theorem wordB_nROLL (s : List Int) (hl : s.length ≤ 1000) : WordB nROLL s := by
  by_cases hc : s = []
  · subst hc
    exact .inl (fun limit => shuf_roll _ limit _ (deep_nil true limit))
  · obtain ⟨p, n, rfl⟩ := snoc_of hc
    rw [List.length_append, List.length_singleton] at hl
    by_cases hb : n < 0 ∨ (p.length : Int) ≤ n
    · exact .inl (fun limit => shuf_roll _ limit _ (deep_bad p n (by omega) hb true limit))
    · obtain ⟨a, y, b, rfl, rfl⟩ := split_at (p := p) (n := n) (by omega) (by omega)
      simp only [List.length_append, List.length_cons] at hl
      exact .inr ⟨a, y :: (b ++ [(b.length : Int)]), b ++ [y], by simp, by simp, fun below limit hb => by
        have := shuf_roll _ limit _ (roll_c (below ++ a) b y (by rw [List.length_append]; omega) limit)
        have e1 : ((below ++ a) ++ y :: b) ++ [(b.length : Int)] = below ++ ((a ++ y :: b) ++ [(b.length : Int)]) := by simp
        rw [e1] at this
        exact this⟩
theorem wordB_all {nm : ByteArray} (h : nm ∈ nms) (hd : nm ≠ nDEPTH) (s : List Int) (hl : s.length ≤ 1000) : WordB nm s := by
  simp only [nms, List.mem_cons, List.not_mem_nil, or_false] at h
  rcases h with rfl | rfl | rfl | rfl | rfl | rfl | rfl | rfl | rfl | rfl | rfl | rfl | rfl | rfl | rfl | rfl
  · exact wordB_nDUP s hl
  · exact wordB_nDROP s hl
  · exact wordB_nSWAP s hl
  · exact wordB_nOVER s hl
  · exact wordB_nROT s hl
  · exact wordB_nROTR s hl
  · exact wordB_nNIP s hl
  · exact wordB_nTUCK s hl
  · exact wordB_nQDUP s hl
  · exact wordB_nDUP2 s hl
  · exact wordB_nDROP2 s hl
  · exact wordB_nSWAP2 s hl
  · exact wordB_nOVER2 s hl
  · exact wordB_nPICK s hl
  · exact wordB_nROLL s hl
  · exact absurd rfl hd
/-- The same, DEPTH too, with nothing below. -/
theorem wordR_all {nm : ByteArray} (h : nm ∈ nms) (s : List Int) (hl : s.length ≤ 1000) : (∀ limit, ShufC nm s limit (s, true, -4)) ∨ ∃ p l, p.length + l.length ≤ s.length + 6 ∧ ∀ limit, ShufC nm s limit (outD s p l limit) := by
  by_cases hd : nm = nDEPTH
  · subst hd
    exact .inr ⟨s, [(s.length : Int)], by simp, fun limit => shuf_depth s (by omega) limit⟩
  · rcases wordB_all h hd s hl with h | ⟨p, q, l, e, h1, h2⟩
    · exact .inl h
    · exact .inr ⟨p, l, by rw [e, List.length_append]; omega, fun limit => by simpa using h2 [] limit (by simp)⟩
end Go.Proofs.Ytpolenndeeaodac
