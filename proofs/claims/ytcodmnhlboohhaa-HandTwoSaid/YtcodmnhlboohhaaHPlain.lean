/- Handlers: plain laws. -/
import Derived.Test.YtcodmnhlboohhaaHOpen
namespace Go.Proofs.Ytcodmnhlboohhaa
open Go Go.RowKit

theorem right_pos {l : List HandD} (h : rightD l = true) : ∀ x ∈ l, 0 ≤ x.strikes := by
  intro x hx
  unfold rightD at h
  rw [Bool.and_eq_true, List.all_eq_true] at h
  have := h.1 x hx
  unfold okD at this
  simp at this
  omega

theorem strikeD_len (l : List HandD) (h limit : Int) : (strikeD l h limit).1.length = l.length := by
  unfold strikeD; split <;> simp
theorem rearmD_len (l : List HandD) (h : Int) : (rearmD l h).1.length = l.length := by
  unfold rearmD; split <;> simp
theorem strikeD_ok (l : List HandD) (h limit : Int) : ((strikeD l h limit).2.2 == 0) = decide (inD l h) := by
  unfold strikeD; split <;> simp_all
theorem rearmD_ok (l : List HandD) (h : Int) : ((rearmD l h).2 == 0) = decide (inD l h) := by
  unfold rearmD; split <;> simp_all

theorem upD_pos {s : Int} (h : 0 ≤ s) : 0 ≤ upD s := by unfold upD; omega

theorem okD_iff (x : HandD) : okD x = true ↔ 0 ≤ x.fuel ∧ 0 ≤ x.strikes := by unfold okD; simp

theorem right_set {l : List HandD} (h : rightD l = true) (k : Nat) (y : HandD) (hy : okD y = true) : rightD (l.set k y) = true := by
  unfold rightD at h ⊢
  rw [Bool.and_eq_true] at h ⊢
  refine ⟨?_, by simpa using h.2⟩
  rw [List.all_eq_true] at h ⊢
  intro x hx
  rcases List.mem_or_eq_of_mem_set hx with hx | hx
  · exact h.1 x hx
  · rw [hx]; exact hy
theorem strikeD_right {l : List HandD} (hr : rightD l = true) (h limit : Int) : rightD (strikeD l h limit).1 = true := by
  unfold strikeD
  split
  · rename_i hi
    refine right_set hr _ _ ?_
    have hx : ∀ x ∈ l, okD x = true := by
      unfold rightD at hr; rw [Bool.and_eq_true, List.all_eq_true] at hr; exact hr.1
    have := hx _ (List.getElem_mem (by obtain ⟨a, b⟩ := hi; omega : h.toNat < l.length))
    rw [okD_iff] at this ⊢
    exact ⟨this.1, upD_pos this.2⟩
  · exact hr
theorem rearmD_right {l : List HandD} (hr : rightD l = true) (h : Int) : rightD (rearmD l h).1 = true := by
  unfold rearmD
  split
  · rename_i hi
    refine right_set hr _ _ ?_
    have hx : ∀ x ∈ l, okD x = true := by
      unfold rightD at hr; rw [Bool.and_eq_true, List.all_eq_true] at hr; exact hr.1
    have := hx _ (List.getElem_mem (by obtain ⟨a, b⟩ := hi; omega : h.toNat < l.length))
    rw [okD_iff] at this ⊢
    exact ⟨this.1, Int.le_refl _⟩
  · exact hr

/-- What a turned row holds at a place. -/
theorem strikeD_at (l : List HandD) (h limit : Int) (k : Nat) (hk : k < l.length) : ∃ y, (strikeD l h limit).1[k]? = some y ∧ ((k : Int) ≠ h → y = l[k]) ∧ y.xt = l[k].xt ∧ y.fuel = l[k].fuel := by
  unfold strikeD
  split
  · rename_i hi
    by_cases e : h.toNat = k
    · subst e
      refine ⟨struck l[h.toNat] limit, by simp [hk], fun hn => ?_, rfl, rfl⟩
      obtain ⟨a, b⟩ := hi
      omega
    · exact ⟨l[k], by simp [e, hk], fun _ => rfl, rfl, rfl⟩
  · exact ⟨l[k], by simp [hk], fun _ => rfl, rfl, rfl⟩
theorem rearmD_at (l : List HandD) (h : Int) (k : Nat) (hk : k < l.length) : ∃ y, (rearmD l h).1[k]? = some y ∧ ((k : Int) ≠ h → y = l[k]) ∧ y.xt = l[k].xt ∧ y.fuel = l[k].fuel := by
  unfold rearmD
  split
  · rename_i hi
    by_cases e : h.toNat = k
    · subst e
      refine ⟨mended l[h.toNat], by simp [hk], fun hn => ?_, rfl, rfl⟩
      obtain ⟨a, b⟩ := hi
      omega
    · exact ⟨l[k], by simp [e, hk], fun _ => rfl, rfl, rfl⟩
  · exact ⟨l[k], by simp [hk], fun _ => rfl, rfl, rfl⟩

theorem Hn.cells {w : World} {A : Option Addr} {n c : Nat} {l : List HandD} (h : Hn w A n c l) {k : Nat} {y : HandD} (hy : l[k]? = some y) :
    ∃ b o, A = some ⟨b, o, none⟩ ∧ w.cell? ⟨b, o + k * 4, none⟩ = some (.int .i64 y.xt) ∧ w.cell? ⟨b, o + k * 4 + 1, none⟩ = some (.int .i64 y.fuel) ∧
      w.cell? ⟨b, o + k * 4 + 2, none⟩ = some (.int .i64 y.strikes) ∧ w.cell? ⟨b, o + k * 4 + 3, none⟩ = some (.bool y.out) := by
  have hk : k < l.length := (List.getElem?_eq_some_iff.1 hy).1
  have hxe : l[k] = y := (List.getElem?_eq_some_iff.1 hy).2
  obtain ⟨b, o, h1, h2⟩ := Hs.get h.2 hk
  rw [hxe] at h2
  exact ⟨b, o, h1, h2⟩
theorem Hn.max {w : World} {A : Option Addr} {n c : Nat} {l : List HandD} (h : Hn w A n c l) : (n : Int) ≤ 9223372036854775807 := by
  have := h.1; have := h.2.le; have := h.2.cap; unfold maxLen at this; omega
end Go.Proofs.Ytcodmnhlboohhaa
