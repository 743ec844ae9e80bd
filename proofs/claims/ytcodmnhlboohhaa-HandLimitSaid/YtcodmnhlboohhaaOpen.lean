/- What is read of arguments: slices as lists. -/
import Derived.Test.YtcodmnhlboohhaaBase
import Derived.Test.YtcodmnhlboohhaaRows
import Derived.ProofKit
import Derived.OpenShut
import Derived.Deep.Slices
import Derived.Deep.Fields
import Derived.Lib.SmallJoins
namespace Go.Proofs.Ytcodmnhlboohhaa
open Go Go.RowKit Go.ChangeShapes Go.WideShapes Go.Deep

theorem own_knob : ownKnob Try.prog.godebug = none := by kernel_rfl
theorem laid_out : laidOutB Try.prog = true := by kernel_rfl

theorem list_of {α : Type} (Q : Nat → α → Prop) : ∀ n : Nat, (∀ i, i < n → ∃ y, Q i y) → ∃ l : List α, l.length = n ∧ ∀ i x, l[i]? = some x → Q i x
  | 0, _ => ⟨[], rfl, fun i x h => by simp at h⟩
  | n + 1, h => by
    obtain ⟨l, hl, hq⟩ := list_of Q n (fun i hi => h i (by omega))
    obtain ⟨y, hy⟩ := h n (by omega)
    refine ⟨l ++ [y], by simp [hl], fun i x hx => ?_⟩
    by_cases hi : i < n
    · rw [List.getElem?_append_left (by omega)] at hx
      exact hq i x hx
    · rw [List.getElem?_append_right (by omega), hl] at hx
      have : i - n = 0 := by
        have := (List.getElem?_eq_some_iff.1 hx).1
        simp at this
        omega
      rw [this] at hx
      simp at hx
      subst hx
      have : i = n := by omega
      subst this
      exact hy

section
variable {H : Type} {encT : TypeId × Value → H} {P : Program} {w : World} {base : Nat} {spare : Nat → Bool} {held : Bool}

/-- A slice that is read, as a list: each element's cells as 'enc' says. -/
theorem sn_of_trod {α : Type} {sz : Nat} {enc : α → List Value} {Q : α → Prop} {t e : TypeId} {fuel : Nat} {cs : List Value} {x : DataW H × List MemPlace} (ht : P.underlying t = some (.slice e)) (hC : P.cellsOf e = sz) (hsz : 0 < sz)
    (el : ∀ n cs x, DataW.trod encT P w base spare held n e cs = some x → ∃ y, cs = enc y ∧ Q y) (h : DataW.trod encT P w base spare held fuel t cs = some x) :
    ∃ A n c l, cs = [.slice A n c] ∧ Sn sz enc w A n c l ∧ ∀ y ∈ l, Q y := by
  rcases open_slice ht h with ⟨rfl, _⟩ | ⟨a, len, cap, m, n, D, Pl, rfl, hb, hl, hm, hmm, _, hi⟩
  · exact ⟨none, 0, 0, [], rfl, (Sl.none_ w).n, fun y hy => by cases hy⟩
  · have hlm : len ≤ m := by rw [hmm]; split <;> omega
    obtain ⟨l, hlen, hq⟩ := list_of (fun i (y : α) => Q y ∧ ∃ cs', w.cells? base (a.add (i * P.cellsOf e)) (P.cellsOf e) = some cs' ∧ cs' = enc y) len (fun i hil => by
      obtain ⟨cs', h1, h2⟩ := hi i (by omega)
      obtain ⟨y, h3, h4⟩ := el _ _ _ h2
      exact ⟨y, h4, cs', h1, h3⟩)
    refine ⟨some a, len, cap, l, rfl, ⟨hlen.symm, ⟨by omega, hm, fun h => by (cases h), fun i y hy => ?_⟩⟩, fun y hy => ?_⟩
    · obtain ⟨_, cs', h1, rfl⟩ := hq i y hy
      obtain ⟨_, hcl, hat⟩ := World.cells?_some h1
      rw [hC] at hat hcl h1
      have h0 := hat 0 hsz
      have hle : 0 < (enc y).length := by omega
      rw [List.getElem?_eq_getElem hle] at h0
      have hsp : ((a.add (i * sz)).add 0).spot = none := by
        unfold World.cell? at h0
        split at h0
        · split at h0
          · cases h0
          · rename_i hs
            simpa using hs
        · cases h0
      have hspa : a.spot = none := by
        rw [add_of_add] at hsp
        unfold Addr.add at hsp
        split at hsp
        · exact hsp
        · rename_i hne
          -- the first element tells
          have hil : i < len := by have := (List.getElem?_eq_some_iff.1 hy).1; omega
          obtain ⟨_, cs0, g1, _⟩ := hq 0 l[0] (List.getElem?_eq_getElem (by omega))
          obtain ⟨_, gcl, gat⟩ := World.cells?_some g1
          rw [hC] at gat gcl
          have g0 := gat 0 hsz
          have gle : 0 < cs0.length := by omega
          rw [List.getElem?_eq_getElem gle] at g0
          rw [Nat.zero_mul, add_of_add] at g0
          have he : a.add (0 + 0) = a := by simp [Addr.add]
          rw [he] at g0
          unfold World.cell? at g0
          split at g0
          · split at g0
            · cases g0
            · rename_i hs
              simpa using hs
          · cases g0
      obtain ⟨b, o, sp⟩ := a
      simp only at hspa
      subst hspa
      refine ⟨b, o, rfl, fun j v hv => ?_⟩
      have hj : j < sz := by have := (List.getElem?_eq_some_iff.1 hv).1; omega
      have := hat j hj
      rw [add_of_add, Addr.add_lit, ← Nat.add_assoc] at this
      rw [this, hv]
    · obtain ⟨i, hil⟩ := List.getElem?_of_mem hy
      exact (hq i y hil).1
end
end Go.Proofs.Ytcodmnhlboohhaa
