/- evq: how long an event waits. -/
import Derived.Test.YtpolenndeeaodabQl
namespace Go.Proofs.Ytpolenndeeaodab
set_option linter.unusedVariables false
set_option linter.unusedSimpArgs false
open Go Go.RowKit

theorem postQ_cases' (q : Q) (rank hand arg : Int) : postQ q rank hand arg = (q, 0, -24) ∨ postQ q rank hand arg = (q, 0, -261) ∨ postQ q rank hand arg = (⟨q.ev ++ [(q.next, rank, hand, arg, 0)], q.room, q.age, q.next + 1⟩, q.next, 0) := by
  unfold postQ
  split
  · exact .inl rfl
  · split
    · exact .inr (.inl rfl)
    · exact .inr (.inr rfl)
theorem oldUp_at {l : List E} {b : Nat} {age : Int} : ∀ {k i : Nat} {e : E}, k ≤ l.length → i < k → i ≠ b → l[i]? = some e → (oldUp l b age k)[if i < b then i else i - 1]? = some (olderE e age)
  | 0, i, e, _, h, _, _ => absurd h (by omega)
  | k + 1, i, e, hk, hi, hb, he => by
    have hx : l[k]? = some l[k] := List.getElem?_eq_getElem (by omega)
    have hc := oldUp_count l b age k
    rw [oldUp]
    by_cases hik : i = k
    · subst hik
      rw [if_neg hb, List.getElem?_append_right (by rw [hc]; split <;> split <;> omega), hc, he]
      have : ((if i < b then i else i - 1) - if b < i then i - 1 else i) = 0 := by split <;> split <;> omega
      rw [this]
      rfl
    · have ih := oldUp_at (age := age) (k := k) (i := i) (e := e) (by omega) (by omega) hb he
      split
      · exact ih
      · rw [List.getElem?_append_left (List.getElem?_eq_some_iff.1 ih).1]
        exact ih

/-- Ours waits at i: of rank r, of age a; that many Takes it may still see. -/
structure Mine (q : Q) (A id : Int) (most : Int) : Prop where
  right : RightP q
  age : q.age = A
  there : ∃ (i : Nat) (r a : Int), q.ev[i]? = some (id, r, 1, 2, a) ∧ r * A - a + i ≤ most

theorem Mine.pos {q : Q} {A id most : Int} (h : Mine q A id most) : 0 ≤ most ∧ 0 < q.ev.length := by
  obtain ⟨i, r, a, h1, h2⟩ := h.there
  have hi := (List.getElem?_eq_some_iff.1 h1).1
  have hg := h.right.2.2.2.2.2 i _ hi h1
  have ha := h.age
  unfold GoodE at hg
  dsimp only at hg
  refine ⟨?_, by omega⟩
  by_cases hr : r = 0
  · subst hr; omega
  · have : A ≤ r * A := by
      have h1' := h.right.2.1
      have : 1 * A ≤ r * A := Int.mul_le_mul_of_nonneg_right (by omega) (by omega)
      omega
    omega
theorem Mine.post {q : Q} {A id most : Int} (h : Mine q A id most) (rank hand arg : Int) : Mine (postQ q rank hand arg).1 A id most := by
  obtain ⟨i, r, a, h1, h2⟩ := h.there
  have hR := h.right.post rank hand arg
  have hi := (List.getElem?_eq_some_iff.1 h1).1
  rcases postQ_cases' q rank hand arg with e | e | e
  all_goals rw [e] at hR ⊢
  · exact h
  · exact h
  · exact ⟨hR, h.age, i, r, a, by dsimp only; rw [List.getElem?_append_left hi]; exact h1, h2⟩
theorem Mine.take {q : Q} {A id most : Int} (h : Mine q A id most) : ((takeQ q).1.1 = id ∧ (takeQ q).1.2.2.2.1 = 2) ∨ ((takeQ q).1.1 ≠ id ∧ Mine (takeQ q).2.1 A id (most - 1)) := by
  obtain ⟨i, r, a, h1, h2⟩ := h.there
  have hp := h.pos.2
  have hR := h.right.take
  have hi := (List.getElem?_eq_some_iff.1 h1).1
  have hg := h.right.2.2.2.2.2 i _ hi h1
  have hag := h.age
  have hbl := bestUp_lt2 q.ev _ hp
  have hb : q.ev[bestUp q.ev q.ev.length]? = some q.ev[bestUp q.ev q.ev.length] := List.getElem?_eq_getElem hbl
  have e : takeQ q = (q.ev[bestUp q.ev q.ev.length], ⟨oldUp q.ev (bestUp q.ev q.ev.length) q.age q.ev.length, q.room, q.age, q.next⟩, true) := by
    unfold takeQ; rw [if_neg (by omega), hb]; rfl
  have hgb := h.right.2.2.2.2.2 _ _ hbl hb
  have hleast := best_least q.ev _ (Nat.le_refl _) hp i _ _ hi h1 hb
  rw [e] at hR ⊢
  dsimp only at hR ⊢
  generalize q.ev[bestUp q.ev q.ev.length] = x at *
  generalize bestUp q.ev q.ev.length = b at *
  by_cases hib : i = b
  · subst hib
    rw [h1] at hb
    have := (Option.some.inj hb).symm
    subst this
    exact .inl ⟨rfl, rfl⟩
  · refine .inr ⟨?_, hR, hag, ?_⟩
    · rcases Nat.lt_or_ge i b with hj | hj
      · have := h.right.asc _ _ _ _ h1 hb hj; dsimp only at this; omega
      · have := h.right.asc _ _ _ _ hb h1 (by omega); dsimp only at this; omega
    · have hat := oldUp_at (age := q.age) (Nat.le_refl q.ev.length) hi hib h1
      have hl' : ¬ (aheadE (id, r, 1, 2, a) x = true) := by rw [hleast]; simp
      rw [aheadE_iff] at hl'
      dsimp only at hl'
      unfold GoodE at hg hgb
      dsimp only at hg
      by_cases hr : r = 0
      · subst hr
        have ho : olderE (id, 0, 1, 2, a) q.age = (id, 0, 1, 2, a) := by unfold olderE; rw [if_pos (by simp)]
        rw [ho] at hat
        have hbi : b < i := by
          rcases Nat.lt_or_ge i b with hj | hj
          · have := h.right.asc _ _ _ _ h1 hb hj; dsimp only at this; omega
          · omega
        rw [if_neg (by omega)] at hat
        exact ⟨i - 1, 0, a, hat, by omega⟩
      · have hle : ((if i < b then i else i - 1 : Nat) : Int) ≤ i := by split <;> omega
        by_cases ha : a + 1 = q.age
        · have ho : olderE (id, r, 1, 2, a) q.age = (id, r - 1, 1, 2, 0) := by unfold olderE; rw [if_neg (by simpa using hr), if_pos (by simpa using ha)]
          rw [ho] at hat
          refine ⟨_, _, _, hat, ?_⟩
          have : (r - 1) * A = r * A - A := by rw [Int.sub_mul, Int.one_mul]
          omega
        · have ho : olderE (id, r, 1, 2, a) q.age = (id, r, 1, 2, a + 1) := by unfold olderE; rw [if_neg (by simpa using hr), if_neg (by simpa using ha)]
          rw [ho] at hat
          exact ⟨_, _, _, hat, by omega⟩
theorem mine_first {q : Q} (h : RightP q) {rank : Int} (hr : rank ≤ 3) (he : (postQ q rank 1 2).2.2 = 0) : Mine (postQ q rank 1 2).1 q.age (postQ q rank 1 2).2.1 (3 * q.age + q.room - 1) := by
  have hR := h.post rank 1 2
  rcases postQ_cases' q rank 1 2 with e | e | e
  all_goals rw [e] at he hR ⊢
  · dsimp only at he; omega
  · dsimp only at he; omega
  · refine ⟨hR, rfl, q.ev.length, rank, 0, by dsimp only; rw [List.getElem?_append_right (Nat.le_refl _), Nat.sub_self]; rfl, ?_⟩
    have h1 := hR.2.2.2.1
    dsimp only at h1
    rw [List.length_append, List.length_singleton] at h1
    have : rank * q.age ≤ 3 * q.age := Int.mul_le_mul_of_nonneg_right hr (by have := h.2.1; omega)
    omega
end Go.Proofs.Ytpolenndeeaodab
