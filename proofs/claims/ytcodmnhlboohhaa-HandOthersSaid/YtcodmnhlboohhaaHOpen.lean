/- Handlers that are read of arguments. -/
import Derived.Test.YtcodmnhlboohhaaOpen
import Derived.Test.YtcodmnhlboohhaaHg
namespace Go.Proofs.Ytcodmnhlboohhaa
open Go Go.RowKit Go.ChangeShapes Go.WideShapes Go.Deep

section
variable {H : Type} {encT : TypeId × Value → H} {w : World} {base : Nat} {spare : Nat → Bool} {held : Bool}
theorem hand_el (n : Nat) (cs : List Value) (x : DataW H × List MemPlace) (h : DataW.trod encT Try.prog w base spare held n 41 cs = some x) :
    ∃ y : HandD, cs = encH y ∧ ((-9223372036854775808 ≤ y.xt ∧ y.xt ≤ 9223372036854775807) ∧ (-9223372036854775808 ≤ y.fuel ∧ y.fuel ≤ 9223372036854775807) ∧ (-9223372036854775808 ≤ y.strikes ∧ y.strikes ≤ 9223372036854775807)) := by
  obtain ⟨xs, m, rfl, _, hlen, hyl, hf⟩ := DataW.trod_struct Try.underlying41 h
  have hC : Try.prog.cellsOf 41 = 4 := by kernel_rfl
  have h3 : Try.prog.cellsOf 3 = 1 := by kernel_rfl
  have h4 : Try.prog.cellsOf 4 = 1 := by kernel_rfl
  rw [hC] at hlen
  match cs, hlen with
  | [c0, c1, c2, c3], _ =>
    match xs, hyl with
    | [y0, y1, y2, y3], _ =>
      have f0 := hf 0 _ rfl
      have f1 := hf 1 _ rfl
      have f2 := hf 2 _ rfl
      have f3 := hf 3 _ rfl
      simp [h3, h4] at f0 f1 f2 f3
      obtain ⟨a0, e0, _, w0⟩ := DataW.trod_int Try.underlying3 f0
      obtain ⟨a1, e1, _, w1⟩ := DataW.trod_int Try.underlying3 f1
      obtain ⟨a2, e2, _, w2⟩ := DataW.trod_int Try.underlying3 f2
      obtain ⟨a3, e3, _⟩ := DataW.trod_bool Try.underlying4 f3
      simp at e0 e1 e2 e3
      subst e0 e1 e2 e3
      exact ⟨⟨a0, a1, a2, a3⟩, rfl, wf_i64 w0, wf_i64 w1, wf_i64 w2⟩

theorem hands_of {n : Nat} {cs : List Value} {x : DataW H × List MemPlace} (h : DataW.trod encT Try.prog w base spare held n 22 cs = some x) :
    ∃ A n c l, cs = [.slice A n c] ∧ Hn w A n c l := by
  obtain ⟨A, n, c, l, h1, h2, _⟩ := sn_of_trod (sz := 4) Try.underlying22 (by kernel_rfl) (by decide) hand_el h
  exact ⟨A, n, c, l, h1, h2⟩
end
end Go.Proofs.Ytcodmnhlboohhaa
