/- Handlers as plain data, and what the functions of layer 22 make of them. -/
import Derived.Test.YtcodmnhlboohhaaBase
namespace Go.Proofs.Ytcodmnhlboohhaa
open Go Go.RowKit

structure HandD where
  xt : Int
  fuel : Int
  strikes : Int
  out : Bool
  deriving DecidableEq

def encH (h : HandD) : List Value := [.int .i64 h.xt, .int .i64 h.fuel, .int .i64 h.strikes, .bool h.out]
theorem encH_len (h : HandD) : (encH h).length = 4 := rfl
theorem encH_one (h : HandD) : ∀ u ∈ encH h, u.oneCell' = true := by
  intro u hu
  simp only [encH, List.mem_cons, List.not_mem_nil, or_false] at hu
  rcases hu with rfl | rfl | rfl | rfl <;> rfl

abbrev Hs (w : World) (A : Option Addr) (c : Nat) (l : List HandD) : Prop := Sl 4 encH w A c l

theorem Hs.get {w : World} {A : Option Addr} {c : Nat} {l : List HandD} (h : Hs w A c l) {k : Nat} (hk : k < l.length) :
    ∃ b o, A = some ⟨b, o, none⟩ ∧ w.cell? ⟨b, o + k * 4, none⟩ = some (.int .i64 l[k].xt) ∧ w.cell? ⟨b, o + k * 4 + 1, none⟩ = some (.int .i64 l[k].fuel) ∧
      w.cell? ⟨b, o + k * 4 + 2, none⟩ = some (.int .i64 l[k].strikes) ∧ w.cell? ⟨b, o + k * 4 + 3, none⟩ = some (.bool l[k].out) := by
  obtain ⟨b, o, hA, hc⟩ := h.at_ hk
  exact ⟨b, o, hA, hc 0 _ rfl, hc 1 _ rfl, hc 2 _ rfl, hc 3 _ rfl⟩

def okD (h : HandD) : Bool := !(decide (h.fuel < 0) || decide (h.strikes < 0))
def rightD (l : List HandD) : Bool := l.all okD && decide (l.length ≤ 64)

theorem rightD_no {l : List HandD} {k : Nat} (hk : k < l.length) (h : l[k].fuel < 0 ∨ l[k].strikes < 0) : rightD l = false := by
  have h1 : okD l[k] = false := by unfold okD; simp; omega
  have h2 : l.all okD = false := by
    rw [List.all_eq_false]
    exact ⟨l[k], List.getElem_mem hk, by simp [h1]⟩
  unfold rightD
  rw [h2]
  rfl
theorem take_all_succ {α : Type} {p : α → Bool} {l : List α} {k : Nat} (hk : k < l.length) (h : (l.take k).all p = true) (hp : p l[k] = true) : (l.take (k + 1)).all p = true := by
  rw [List.take_succ_eq_append_getElem hk, List.all_append, h]
  simp [hp]
theorem rightD_end {l : List HandD} {k : Nat} (h : (l.take k).all okD = true) (hk : ¬ k < l.length) : rightD l = decide ((l.length : Int) ≤ 64) := by
  rw [List.take_of_length_le (by omega)] at h
  unfold rightD
  rw [h, Bool.true_and]
  congr 1
  exact propext ⟨fun h => by omega, fun h => by omega⟩
theorem ret_bool {a b : Bool} (h : a = b) : Ending.returned (.bool a) = .returned (.bool b) := by rw [h]

set_option maxHeartbeats 1000000 in
theorem handRight (w : World) (A : Option Addr) (l : List HandD) (c : Nat) (h : Hs w A c l) :
    Calls Try.prog 9 #[.slice A l.length c] w fun e w' => e = .returned (.bool (rightD l)) ∧ Ext w w' := by
  have hl : l.length ≤ 9223372036854775807 := by have := h.le; have := h.cap; unfold maxLen at this; omega
  have HL := Lib.hid h
  clear h
  go_enter Try.func9, Try.ntmps9
  go_wp2
  go_loopw [7] (fun i wr => ∃ k : Nat, k ≤ l.length ∧ i = .int .i64 k ∧ Ext w wr ∧ (l.take k).all okD = true) (fun i _ => l.length - (intOf i).toNat)
  case atStart => exact ⟨0, by omega, rfl, Ext.rfl' _, rfl⟩
  case round =>
    obtain ⟨k, hk, rfl, hE, hall⟩ := hrel
    by_cases hlt : k < l.length
    · obtain ⟨b, o, rfl, c1, c2, c3, c4⟩ := Hs.get (HL.out.ext hE) hlt
      have HA := Lib.hid hall
      clear hall
      by_cases hf : l[k].fuel < 0
      · go_wp2
        go_ret
        exact ⟨ret_bool (rightD_no hlt (.inl hf)).symm, hE.alloc _⟩
      by_cases hs : l[k].strikes < 0
      · go_wp2
        go_ret
        exact ⟨ret_bool (rightD_no hlt (.inr hs)).symm, hE.alloc _⟩
      have hok : okD l[k] = true := by unfold okD; simp; omega
      have HO := Lib.hid hok
      clear hok
      go_wp2
      go_roundw
      case rel => exact ⟨k + 1, by omega, by go_num, hE.alloc _, take_all_succ hlt HA.out HO.out⟩
      case measure => simp [intOf]; omega
    · have HA := Lib.hid hall
      clear hall
      go_wp2
      go_ret
      exact ⟨ret_bool (rightD_end HA.out hlt).symm, hE⟩

set_option maxHeartbeats 1000000 in
theorem refRight (w : World) (A : Option Addr) (l : List HandD) (c : Nat) (h : Hs w A c l) :
    Calls Try.prog 8 #[.slice A l.length c] w fun e w' => e = .returned (.bool (rightD l)) ∧ Ext w w' := by
  have hl : l.length ≤ 9223372036854775807 := by have := h.le; have := h.cap; unfold maxLen at this; omega
  have HL := Lib.hid h
  clear h
  go_enter Try.func8, Try.ntmps8
  go_wp2
  go_loopw [3] (fun i wr => ∃ k : Nat, k ≤ l.length ∧ i = .int .i64 k ∧ Ext w wr ∧ (l.take k).all okD = true) (fun i _ => l.length - (intOf i).toNat)
  case atStart => exact ⟨0, by omega, rfl, Ext.rfl' _, rfl⟩
  case round =>
    obtain ⟨k, hk, rfl, hE, hall⟩ := hrel
    by_cases hlt : k < l.length
    · obtain ⟨b, o, rfl, c1, c2, c3, c4⟩ := Hs.get (HL.out.ext hE) hlt
      have HA := Lib.hid hall
      clear hall
      by_cases hf : l[k].fuel < 0
      · go_wp2
        go_ret
        exact ⟨ret_bool (rightD_no hlt (.inl hf)).symm, hE⟩
      by_cases hs : l[k].strikes < 0
      · go_wp2
        go_ret
        exact ⟨ret_bool (rightD_no hlt (.inr hs)).symm, hE⟩
      have hok : okD l[k] = true := by unfold okD; simp; omega
      have HO := Lib.hid hok
      clear hok
      go_wp2
      go_roundw
      case rel => exact ⟨k + 1, by omega, by go_num, hE, take_all_succ hlt HA.out HO.out⟩
      case measure => simp [intOf]; omega
    · have HA := Lib.hid hall
      clear hall
      go_wp2
      go_ret
      exact ⟨ret_bool (rightD_end HA.out hlt).symm, hE⟩
end Go.Proofs.Ytcodmnhlboohhaa
