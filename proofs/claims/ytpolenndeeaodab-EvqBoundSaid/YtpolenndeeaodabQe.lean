/- evq: queues stay right. -/
import Derived.Test.YtpolenndeeaodabQc
namespace Go.Proofs.Ytpolenndeeaodab
set_option linter.unusedVariables false
set_option linter.unusedSimpArgs false
open Go Go.RowKit

theorem lastUp_app {l : List E} {e : E} : ∀ {k : Nat}, k ≤ l.length → lastUp (l ++ [e]) k = lastUp l k
  | 0, _ => rfl
  | k + 1, h => by rw [lastUp, lastUp, List.getElem?_append_left (by omega)]
theorem AllGood.app {l : List E} {w : Int} {e : E} (h : AllGood l w l.length) (hg : GoodE (lastUp l l.length) w e) : AllGood (l ++ [e]) w (l ++ [e]).length := fun j e' hj he => by
  rw [List.length_append, List.length_singleton] at hj
  by_cases hjl : j < l.length
  · rw [List.getElem?_append_left hjl] at he
    rw [lastUp_app (by omega)]
    exact h j e' hjl he
  · have : j = l.length := by omega
    subst this
    rw [List.getElem?_append_right (Nat.le_refl _), Nat.sub_self] at he
    simp only [List.getElem?_cons_zero, Option.some.injEq] at he
    rw [lastUp_app (Nat.le_refl _), ← he]
    exact hg
theorem lastUp_app_len {l : List E} {e : E} : lastUp (l ++ [e]) (l ++ [e]).length = e.1 := by
  rw [List.length_append, List.length_singleton, lastUp, List.getElem?_append_right (Nat.le_refl _), Nat.sub_self]
  rfl

theorem RightP.post {q : Q} (h : RightP q) (rank hand arg : Int) : RightP (postQ q rank hand arg).1 := by
  unfold postQ
  split
  · exact h
  · rename_i hr
    split
    · exact h
    · rename_i hf
      obtain ⟨h1, h2, h3, h4, h5, h6⟩ := h
      simp only [Bool.and_eq_false_iff, decide_eq_false_iff_not, not_or, Decidable.not_not] at hr
      simp only [Bool.or_eq_true, decide_eq_true_eq, beq_iff_eq, not_or] at hf
      refine ⟨h1, h2, ?_, ?_, ?_, ?_⟩
      · dsimp only; omega
      · dsimp only; rw [List.length_append, List.length_singleton]; omega
      · dsimp only; rw [lastUp_app_len]; dsimp only; omega
      · dsimp only
        refine h6.app ⟨h5, hr, ?_, ?_⟩ <;> dsimp only <;> omega

theorem older_good {e : E} {b w : Int} (h : GoodE b w e) : GoodE b w (olderE e (w + 1)) ∧ (olderE e (w + 1)).1 = e.1 := by
  obtain ⟨i, r, hh, a, g⟩ := e
  unfold olderE GoodE at *
  dsimp only at *
  split
  · exact ⟨h, rfl⟩
  · rename_i hr
    simp only [beq_iff_eq] at hr
    split
    · rename_i hg
      simp only [beq_iff_eq] at hg
      dsimp only
      exact ⟨by omega, rfl⟩
    · rename_i hg
      simp only [beq_iff_eq] at hg
      dsimp only
      exact ⟨by omega, rfl⟩
theorem GoodE.mono {e : E} {b b' w : Int} (h : GoodE b w e) (hb : b' ≤ b) : GoodE b' w e := ⟨by have := h.1; omega, h.2⟩
theorem oldUp_good {l : List E} {w : Int} (h : AllGood l w l.length) (b : Nat) : ∀ k, k ≤ l.length → AllGood (oldUp l b (w + 1) k) w (oldUp l b (w + 1) k).length ∧ lastUp (oldUp l b (w + 1) k) (oldUp l b (w + 1) k).length ≤ lastUp l k
  | 0, _ => ⟨AllGood.zero _ _, Int.le_refl _⟩
  | k + 1, hk => by
    obtain ⟨i1, i2⟩ := oldUp_good h b k (by omega)
    have he : l[k]? = some l[k] := List.getElem?_eq_getElem (by omega)
    have hg := h k _ (by omega) he
    rw [lastUp_succ he, oldUp]
    split
    · refine ⟨i1, ?_⟩
      have := hg.1
      omega
    · rw [he]
      simp only [Option.getD_some]
      obtain ⟨o1, o2⟩ := older_good hg
      refine ⟨i1.app (o1.mono i2), ?_⟩
      rw [lastUp_app_len, o2]
      omega
theorem RightP.take {q : Q} (h : RightP q) : RightP (takeQ q).2.1 := by
  unfold takeQ
  split
  · exact h
  · obtain ⟨h1, h2, h3, h4, h5, h6⟩ := h
    have hw : q.age - 1 + 1 = q.age := by omega
    have hg := oldUp_good h6 (bestUp q.ev q.ev.length) q.ev.length (Nat.le_refl _)
    rw [hw] at hg
    have hl := oldUp_len q.ev (bestUp q.ev q.ev.length) q.age q.ev.length
    exact ⟨h1, h2, h3, by dsimp only; omega, by dsimp only; omega, hg.1⟩
theorem oldUp_count (l : List E) (b : Nat) (age : Int) : ∀ k, (oldUp l b age k).length = if b < k then k - 1 else k
  | 0 => by simp [oldUp]
  | k + 1 => by
    have := oldUp_count l b age k
    rw [oldUp]
    split
    · rename_i h
      subst h
      rw [this]
      simp
    · rename_i h
      rw [List.length_append, List.length_singleton, this]
      split <;> split <;> omega
theorem takeQ_count {q : Q} (h : 0 < q.ev.length) : (takeQ q).2.1.ev.length = q.ev.length - 1 := by
  unfold takeQ
  rw [if_neg (by omega)]
  dsimp only
  rw [oldUp_count, if_pos (bestUp_lt2 _ _ h)]
theorem older_id (e : E) (age : Int) : (olderE e age).1 = e.1 := by
  unfold olderE
  split
  · rfl
  · split <;> rfl
theorem oldUp_mem {l : List E} {b : Nat} {age : Int} : ∀ {k : Nat} {x : E}, k ≤ l.length → x ∈ oldUp l b age k → ∃ j e, j < k ∧ j ≠ b ∧ l[j]? = some e ∧ x.1 = e.1
  | 0, x, _, h => by cases h
  | k + 1, x, hk, h => by
    have he : l[k]? = some l[k] := List.getElem?_eq_getElem (by omega)
    rw [oldUp] at h
    split at h
    · obtain ⟨j, e, h1, h2⟩ := oldUp_mem (by omega) h
      exact ⟨j, e, by omega, h2⟩
    · rename_i hb
      rcases List.mem_append.1 h with h | h
      · obtain ⟨j, e, h1, h2⟩ := oldUp_mem (by omega) h
        exact ⟨j, e, by omega, h2⟩
      · rw [List.mem_singleton.1 h, he]
        exact ⟨k, _, by omega, hb, he, older_id _ _⟩
/-- What is taken is there no more. -/
theorem takeQ_gone {q : Q} (h : RightP q) (hp : 0 < q.ev.length) : ∀ x, x ∈ (takeQ q).2.1.ev → x.1 ≠ (takeQ q).1.1 := by
  intro x hx
  unfold takeQ at hx ⊢
  rw [if_neg (by omega)] at hx ⊢
  dsimp only at hx ⊢
  have hb := bestUp_lt2 q.ev _ hp
  have he : q.ev[bestUp q.ev q.ev.length]? = some q.ev[bestUp q.ev q.ev.length] := List.getElem?_eq_getElem hb
  rw [he]
  obtain ⟨j, e, h1, h2, h3, h4⟩ := oldUp_mem (Nat.le_refl _) hx
  rw [h4]
  simp only [Option.getD_some]
  rcases Nat.lt_or_ge j (bestUp q.ev q.ev.length) with hj | hj
  · have := h.asc _ _ _ _ h3 he hj; omega
  · have := h.asc _ _ _ _ he h3 (by omega); omega
def thereUp (l : List E) (x : E) : Nat → Bool
  | 0 => false
  | k + 1 => thereUp l x k || eqEv (l[k]?.getD (0, 0, 0, 0, 0)) x
theorem thereUp_mono (l : List E) (x : E) {k : Nat} (h : thereUp l x k = true) : ∀ n, k ≤ n → thereUp l x n = true := by
  intro n hn
  induction n with
  | zero => have : k = 0 := by omega
            subst this; exact h
  | succ n ih =>
    by_cases hk : k = n + 1
    · subst hk; exact h
    · rw [thereUp, ih (by omega), Bool.true_or]
theorem takeQ_there {q : Q} (hp : 0 < q.ev.length) : thereUp q.ev (takeQ q).1 q.ev.length = true := by
  unfold takeQ
  rw [if_neg (by omega)]
  dsimp only
  have hb := bestUp_lt2 q.ev _ hp
  refine thereUp_mono _ _ (k := bestUp q.ev q.ev.length + 1) ?_ _ (by omega)
  rw [thereUp, eqEv_refl, Bool.or_true]
end Go.Proofs.Ytpolenndeeaodab
