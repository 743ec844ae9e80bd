/- evq: the order in which events are taken. -/
import Derived.Test.YtpolenndeeaodabQe
namespace Go.Proofs.Ytpolenndeeaodab
set_option linter.unusedVariables false
set_option linter.unusedSimpArgs false
open Go Go.RowKit

theorem aheadE_iff {e o : E} : aheadE e o = true ↔ (e.2.1 < o.2.1 ∨ (e.2.1 = o.2.1 ∧ e.1 < o.1)) := by
  unfold aheadE
  simp
/-- Nothing that waits is ahead of the best. -/
theorem best_least (l : List E) : ∀ n, n ≤ l.length → 0 < l.length → ∀ j e b, j < n → l[j]? = some e → l[bestUp l n]? = some b → aheadE e b = false
  | 0, _, _ => fun j e b hj => absurd hj (by omega)
  | n + 1, hn, h0 => fun j e b hj he hb => by
    have hx : l[n]? = some l[n] := List.getElem?_eq_getElem (by omega)
    have hbl := bestUp_lt l n (by omega) h0
    have hb0 : l[bestUp l n]? = some l[bestUp l n] := List.getElem?_eq_getElem hbl
    have ih := best_least l n (by omega) h0
    rw [bestUp, hx, hb0] at hb
    simp only [Option.getD_some] at hb
    cases ha : aheadE l[n] l[bestUp l n] with
    | true =>
      rw [if_pos ha] at hb
      rw [hx] at hb
      obtain rfl := Option.some.inj hb
      by_cases hjn : j = n
      · subst hjn
        rw [hx] at he
        rw [← Option.some.inj he]
        cases hc : aheadE l[j] l[j] with
        | false => rfl
        | true => have := aheadE_iff.1 hc; omega
      · have := ih j e _ (by omega) he hb0
        cases hc : aheadE e l[n] with
        | false => rfl
        | true =>
          exfalso
          have h1 := aheadE_iff.1 hc
          have h2 := aheadE_iff.1 ha
          have h3 : ¬ (aheadE e l[bestUp l n] = true) := by rw [this]; simp
          rw [aheadE_iff] at h3
          omega
    | false =>
      rw [if_neg (by rw [ha]; simp)] at hb
      rw [hb0] at hb
      obtain rfl := Option.some.inj hb
      by_cases hjn : j = n
      · subst hjn
        rw [hx] at he
        rw [← Option.some.inj he]
        exact ha
      · exact ih j e _ (by omega) he hb0

/-- All that waits lies behind (rank, last); what was posted is as it was, but for its age. -/
structure Wait (ranks : List Int) (k : Nat) (q : Q) (rank last : Int) : Prop where
  right : RightP q
  age : q.age = 1048576
  len : q.ev.length + k = ranks.length
  small : ranks.length ≤ 64
  each : ∀ e, e ∈ q.ev → (0 ≤ e.1 ∧ e.1 < ranks.length) ∧ ranks[e.1.toNat]? = some e.2.1 ∧ e.2.2.1 = e.1 ∧ e.2.2.2.2 ≤ k ∧ (rank < e.2.1 ∨ (rank = e.2.1 ∧ last < e.1))

theorem older_parts {e : E} {age : Int} (h : e.2.2.2.2 + 1 < age) (hr : ¬(e.2.1 = 0 ∧ 0 < e.2.2.2.2)) : (olderE e age).1 = e.1 ∧ (olderE e age).2.1 = e.2.1 ∧ (olderE e age).2.2.1 = e.2.2.1 ∧ (olderE e age).2.2.2.2 ≤ e.2.2.2.2 + 1 := by
  obtain ⟨i, r, hh, a, g⟩ := e
  unfold olderE
  dsimp only at h ⊢
  split
  · exact ⟨rfl, rfl, rfl, by dsimp only; omega⟩
  · rw [if_neg (by simp; omega)]
    exact ⟨rfl, rfl, rfl, Int.le_refl _⟩
theorem oldUp_mem2 {l : List E} {b : Nat} {age : Int} : ∀ {k : Nat} {x : E}, k ≤ l.length → x ∈ oldUp l b age k → ∃ j e, j < k ∧ j ≠ b ∧ l[j]? = some e ∧ x = olderE e age
  | 0, x, _, h => by cases h
  | k + 1, x, hk, h => by
    have he : l[k]? = some l[k] := List.getElem?_eq_getElem (by omega)
    rw [oldUp] at h
    split at h
    · obtain ⟨j, e, h1, h2⟩ := oldUp_mem2 (by omega) h
      exact ⟨j, e, by omega, h2⟩
    · rename_i hb
      rcases List.mem_append.1 h with h | h
      · obtain ⟨j, e, h1, h2⟩ := oldUp_mem2 (by omega) h
        exact ⟨j, e, by omega, h2⟩
      · rw [List.mem_singleton.1 h, he]
        exact ⟨k, _, by omega, hb, he, rfl⟩
theorem Wait.take {ranks : List Int} {k : Nat} {q : Q} {rank last : Int} (h : Wait ranks k q rank last) (hk : k < ranks.length) :
    (takeQ q).1 ∈ q.ev ∧ (takeQ q).2.2 = true ∧ Wait ranks (k + 1) (takeQ q).2.1 (takeQ q).1.2.1 (takeQ q).1.1 := by
  have hp : 0 < q.ev.length := by have := h.len; omega
  have hR := h.right.take
  have hc := takeQ_count hp
  have hbl := bestUp_lt2 q.ev _ hp
  have hb : q.ev[bestUp q.ev q.ev.length]? = some q.ev[bestUp q.ev q.ev.length] := List.getElem?_eq_getElem hbl
  have e : takeQ q = (q.ev[bestUp q.ev q.ev.length], ⟨oldUp q.ev (bestUp q.ev q.ev.length) q.age q.ev.length, q.room, q.age, q.next⟩, true) := by
    unfold takeQ; rw [if_neg (by omega), hb]; rfl
  rw [e] at hR hc ⊢
  dsimp only at hR hc ⊢
  refine ⟨List.getElem_mem hbl, rfl, hR, h.age, ?_, h.small, fun x hx => ?_⟩
  · dsimp only; have := h.len; omega
  · dsimp only at hx
    obtain ⟨j, y, h1, h2, h3, rfl⟩ := oldUp_mem2 (Nat.le_refl _) hx
    have hy := h.each y (List.mem_of_getElem? h3)
    have hg := h.right.2.2.2.2.2 j y h1 h3
    have hag := h.age
    have hs := h.small
    obtain ⟨o1, o2, o3, o4⟩ := older_parts (e := y) (age := q.age) (by omega) hg.2.2.2
    rw [o1, o2, o3]
    refine ⟨hy.1, hy.2.1, hy.2.2.1, by omega, ?_⟩
    have hl := best_least q.ev _ (Nat.le_refl _) hp j y _ h1 h3 hb
    have hl' : ¬ (aheadE y q.ev[bestUp q.ev q.ev.length] = true) := by rw [hl]; simp
    rw [aheadE_iff] at hl'
    have hne : y.1 ≠ (q.ev[bestUp q.ev q.ev.length]).1 := by
      rcases Nat.lt_or_ge j (bestUp q.ev q.ev.length) with hj | hj
      · have := h.right.asc _ _ _ _ h3 hb hj; omega
      · have := h.right.asc _ _ _ _ hb h3 (by omega); omega
    omega

def fillUp (rs : List Int) : Nat → List E
  | 0 => []
  | k + 1 => fillUp rs k ++ [((k : Int), rs[k]?.getD 0, (k : Int), (k : Int), 0)]
def fillQ (rs : List Int) (k : Nat) : Q := ⟨fillUp rs k, 64, 1048576, k⟩
theorem fillUp_len (rs : List Int) : ∀ k, (fillUp rs k).length = k
  | 0 => rfl
  | k + 1 => by rw [fillUp, List.length_append, List.length_singleton, fillUp_len rs k]
theorem fill_post {rs : List Int} {k : Nat} {r : Int} (hk : k < 64) (hr : rs[k]? = some r) (h0 : 0 ≤ r ∧ r ≤ 3) : postQ (fillQ rs k) r k k = (fillQ rs (k + 1), (k : Int), 0) := by
  unfold postQ
  rw [if_neg (by simp; omega), if_neg (by simp [fillQ, fillUp_len]; omega)]
  simp only [fillQ, fillUp, hr, Option.getD_some]
  rfl
theorem fill_right {rs : List Int} (hs : rs.length ≤ 64) (h : ∀ r, r ∈ rs → 0 ≤ r ∧ r ≤ 3) : ∀ k, k ≤ rs.length → RightP (fillQ rs k)
  | 0, _ => by
    have h0 : RightP ⟨[], 64, 1048576, ((0 : Nat) : Int)⟩ := ⟨by decide, by decide, by decide, by decide, by decide, fun j e hj => absurd hj (Nat.not_lt_zero j)⟩
    exact h0
  | k + 1, hk => by
    have hr : rs[k]? = some rs[k] := List.getElem?_eq_getElem (by omega)
    have := (fill_right hs h k (by omega)).post rs[k] k k
    rw [fill_post (by omega) hr (h _ (List.getElem_mem _))] at this
    exact this
theorem fill_mem {rs : List Int} : ∀ {k : Nat} {e : E}, k ≤ rs.length → e ∈ fillUp rs k → ∃ (j : Nat) (r : Int), j < k ∧ rs[j]? = some r ∧ e = ((j : Int), r, (j : Int), (j : Int), 0)
  | 0, e, _, h => by cases h
  | k + 1, e, hk, h => by
    rw [fillUp] at h
    rcases List.mem_append.1 h with h | h
    · obtain ⟨j, r, h1, h2⟩ := fill_mem (by omega) h
      exact ⟨j, r, by omega, h2⟩
    · have hr : rs[k]? = some rs[k] := List.getElem?_eq_getElem (by omega)
      rw [List.mem_singleton.1 h, hr]
      exact ⟨k, rs[k], by omega, hr, rfl⟩
theorem fill_wait {rs : List Int} (hs : rs.length ≤ 64) (h : ∀ r, r ∈ rs → 0 ≤ r ∧ r ≤ 3) : Wait rs 0 (fillQ rs rs.length) 0 (-1) := by
  refine ⟨fill_right hs h _ (Nat.le_refl _), rfl, ?_, hs, fun e he => ?_⟩
  · rw [fillQ, fillUp_len]; rfl
  · obtain ⟨j, r, h1, h2, rfl⟩ := fill_mem (Nat.le_refl _) he
    have := h r (List.mem_of_getElem? h2)
    dsimp only
    refine ⟨by omega, by rw [Int.toNat_natCast]; exact h2, rfl, by omega, by omega⟩
end Go.Proofs.Ytpolenndeeaodab
