/- Handlers: which are the same. -/
import Derived.Test.YtcodmnhlboohhaaHa
namespace Go.Proofs.Ytcodmnhlboohhaa
open Go Go.RowKit

theorem run_neq_hand (x y : HandD) (w : World) : (binOp .neq 41 (.agg #[.int .i64 x.xt, .int .i64 x.fuel, .int .i64 x.strikes, .bool x.out]) (.agg #[.int .i64 y.xt, .int .i64 y.fuel, .int .i64 y.strikes, .bool y.out])).run Try.prog w = .ok (.bool (!decide (x = y))) w := by
  rw [run_neq_struct]
  obtain ⟨a1, a2, a3, a4⟩ := x
  obtain ⟨b1, b2, b3, b4⟩ := y
  simp only [HandD.mk.injEq]
  by_cases h1 : a1 = b1 <;> by_cases h2 : a2 = b2 <;> by_cases h3 : a3 = b3 <;> by_cases h4 : a4 = b4 <;> simp [go_sem, h1, h2, h3, h4]

theorem take_eq_succ {α : Type} {l l' : List α} {k : Nat} (h1 : k < l.length) (h2 : k < l'.length) (h : l.take k = l'.take k) (hx : l[k] = l'[k]) : l.take (k + 1) = l'.take (k + 1) := by
  rw [List.take_succ_eq_append_getElem h1, List.take_succ_eq_append_getElem h2, h, hx]
theorem ne_of_get {α : Type} {l l' : List α} {k : Nat} (h1 : k < l.length) (h2 : k < l'.length) (hx : ¬ l[k] = l'[k]) : ¬ l = l' := by
  intro h
  subst h
  exact hx rfl
theorem eq_of_take {α : Type} {l l' : List α} {k : Nat} (hl : l.length = l'.length) (h : l.take k = l'.take k) (hk : ¬ k < l.length) : l = l' := by
  rwa [List.take_of_length_le (by omega), List.take_of_length_le (by omega)] at h

set_option maxHeartbeats 1000000 in
theorem handSame (w : World) (A A' : Option Addr) (l l' : List HandD) (c c' : Nat) (h : Hs w A c l) (h' : Hs w A' c' l') :
    Calls Try.prog 10 #[.slice A l.length c, .slice A' l'.length c'] w fun e w' => e = .returned (.bool (decide (l = l'))) ∧ Drawn w w' := by
  have hl : l.length ≤ 9223372036854775807 := by have := h.le; have := h.cap; unfold maxLen at this; omega
  have hl' : l'.length ≤ 9223372036854775807 := by have := h'.le; have := h'.cap; unfold maxLen at this; omega
  have HL := Lib.hid h
  have HL' := Lib.hid h'
  clear h h'
  by_cases hlen : l.length = l'.length
  · have hb : ((l.length : Int) != (l'.length : Int)) = false := by rw [hlen]; simp
    have HE := Lib.hid hlen
    clear hlen
    go_enter Try.func10, Try.ntmps10
    go_wp2
    go_loopw [13] (fun i wr => ∃ k : Nat, k ≤ l.length ∧ i = .int .i64 k ∧ Drawn w wr ∧ l.take k = l'.take k) (fun i _ => l.length - (intOf i).toNat)
    case atStart => exact ⟨0, by omega, rfl, Drawn.rfl' _, rfl⟩
    case round =>
      obtain ⟨k, hk, rfl, hE, hall⟩ := hrel
      have HA := Lib.hid hall
      clear hall
      by_cases hlt : k < l.length
      · have hlt' : k < l'.length := by rw [← HE.out]; exact hlt
        obtain ⟨b, o, rfl, c1, c2, c3, c4⟩ := Hs.get (HL.out.ext hE.ext) hlt
        obtain ⟨b', o', rfl, d1, d2, d3, d4⟩ := Hs.get (HL'.out.ext hE.ext) hlt'
        by_cases hx : l[k] = l'[k]
        · have hq := run_neq_hand l[k] l'[k]
          rw [decide_eq_true hx] at hq
          have HX := Lib.hid hx
          clear hx
          go_wp2
          go_quiet (fail)
          go_wp2
          go_roundw
          case rel => exact ⟨k + 1, by omega, by go_num, hE.drewN _, take_eq_succ hlt hlt' HA.out HX.out⟩
          case measure => simp [intOf]; omega
        · have hq := run_neq_hand l[k] l'[k]
          rw [decide_eq_false hx] at hq
          have HX := Lib.hid hx
          clear hx
          go_wp2
          go_quiet (fail)
          go_wp2
          go_ret
          exact ⟨ret_bool (decide_eq_false (ne_of_get hlt hlt' HX.out)).symm, hE.drewN _⟩
      · go_wp2
        go_ret
        exact ⟨ret_bool (decide_eq_true (eq_of_take HE.out HA.out hlt)).symm, hE⟩
  · have hb : ((l.length : Int) != (l'.length : Int)) = true := by simp; omega
    have HE := Lib.hid hlen
    clear hlen
    go_enter Try.func10, Try.ntmps10
    go_wp2
    go_ret
    exact ⟨ret_bool (decide_eq_false (fun h => HE.out (by rw [h]))).symm, Drawn.rfl' _⟩

theorem hand_eq {x y : HandD} (g1 : (x.xt != y.xt) = false) (g2 : (x.fuel != y.fuel) = false) (g3 : (x.strikes != y.strikes) = false) (g4 : (!(x.out == y.out)) = false) : x = y := by
  obtain ⟨x1, x2, x3, x4⟩ := x
  obtain ⟨y1, y2, y3, y4⟩ := y
  simp at g1 g2 g3 g4
  rw [g1, g2, g3, g4]
theorem hand_ne1 {x y : HandD} (g : (x.xt != y.xt) = true) : ¬ x = y := by rintro rfl; simp at g
theorem hand_ne2 {x y : HandD} (g : (x.fuel != y.fuel) = true) : ¬ x = y := by rintro rfl; simp at g
theorem hand_ne3 {x y : HandD} (g : (x.strikes != y.strikes) = true) : ¬ x = y := by rintro rfl; simp at g
theorem hand_ne4 {x y : HandD} (g : (!(x.out == y.out)) = true) : ¬ x = y := by rintro rfl; simp at g

set_option maxHeartbeats 2000000 in
set_option maxRecDepth 100000 in
theorem refSame (w : World) (A A' : Option Addr) (l l' : List HandD) (c c' : Nat) (h : Hs w A c l) (h' : Hs w A' c' l') :
    Calls Try.prog 11 #[.slice A l.length c, .slice A' l'.length c'] w fun e w' => e = .returned (.bool (decide (l = l'))) ∧ Drawn w w' := by
  have hl : l.length ≤ 9223372036854775807 := by have := h.le; have := h.cap; unfold maxLen at this; omega
  have hl' : l'.length ≤ 9223372036854775807 := by have := h'.le; have := h'.cap; unfold maxLen at this; omega
  have HL := Lib.hid h
  have HL' := Lib.hid h'
  clear h h'
  by_cases hlen : l.length = l'.length
  · have hb : ((l.length : Int) != (l'.length : Int)) = false := by rw [hlen]; simp
    have HE := Lib.hid hlen
    clear hlen
    go_enter Try.func11, Try.ntmps11
    go_wp2
    go_loopw [5] (fun i wr => ∃ k : Nat, k ≤ l.length ∧ i = .int .i64 k ∧ Drawn w wr ∧ l.take k = l'.take k) (fun i _ => l.length - (intOf i).toNat)
    case atStart => exact ⟨0, by omega, rfl, Drawn.rfl' _, rfl⟩
    case round =>
      obtain ⟨k, hk, rfl, hE, hall⟩ := hrel
      have HA := Lib.hid hall
      clear hall
      by_cases hlt : k < l.length
      · have hlt' : k < l'.length := by rw [← HE.out]; exact hlt
        have hlti : (k : Int) < (l'.length : Int) := by omega
        obtain ⟨b, o, rfl, c1, c2, c3, c4⟩ := Hs.get (HL.out.ext hE.ext) hlt
        obtain ⟨b', o', rfl, d1, d2, d3, d4⟩ := Hs.get (HL'.out.ext hE.ext) hlt'
        have hno : ¬ l[k] = l'[k] → ¬ l = l' := ne_of_get hlt hlt'
        have hyes : l[k] = l'[k] → l.take (k + 1) = l'.take (k + 1) := take_eq_succ hlt hlt' HA.out
        generalize l[k] = x at *
        generalize l'[k] = y at *
        have HN := Lib.hid hno
        have HY := Lib.hid hyes
        clear hno hyes
        cases g1 : (x.xt != y.xt)
        · cases g2 : (x.fuel != y.fuel)
          · cases g3 : (x.strikes != y.strikes)
            · cases g4 : (!(x.out == y.out))
              · have HX : Hid (x = y) := hand_eq g1 g2 g3 g4
                go_wp2
                go_quiet (fail)
                go_wp2
                go_roundw
                case rel => exact ⟨k + 1, by omega, by go_num, hE.drewN _, HY.out HX.out⟩
                case measure => simp [intOf]; omega
              · have HX : Hid (¬ x = y) := hand_ne4 g4
                go_wp2
                go_quiet (fail)
                go_wp2
                go_ret
                exact ⟨ret_bool (decide_eq_false (HN.out HX.out)).symm, hE.drewN _⟩
            · have HX : Hid (¬ x = y) := hand_ne3 g3
              go_wp2
              go_quiet (fail)
              go_wp2
              go_ret
              exact ⟨ret_bool (decide_eq_false (HN.out HX.out)).symm, hE.drewN _⟩
          · have HX : Hid (¬ x = y) := hand_ne2 g2
            go_wp2
            go_quiet (fail)
            go_wp2
            go_ret
            exact ⟨ret_bool (decide_eq_false (HN.out HX.out)).symm, hE.drewN _⟩
        · have HX : Hid (¬ x = y) := hand_ne1 g1
          go_wp2
          go_quiet (fail)
          go_wp2
          go_ret
          exact ⟨ret_bool (decide_eq_false (HN.out HX.out)).symm, hE.drewN _⟩
      · go_wp2
        go_ret
        exact ⟨ret_bool (decide_eq_true (eq_of_take HE.out HA.out hlt)).symm, hE⟩
  · have hb : ((l.length : Int) != (l'.length : Int)) = true := by simp; omega
    have HE := Lib.hid hlen
    clear hlen
    go_enter Try.func11, Try.ntmps11
    go_wp2
    go_ret
    exact ⟨ret_bool (decide_eq_false (fun h => HE.out (by rw [h]))).symm, Drawn.rfl' _⟩
end Go.Proofs.Ytcodmnhlboohhaa
