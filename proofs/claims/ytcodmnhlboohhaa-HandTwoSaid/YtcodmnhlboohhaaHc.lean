/- Handlers: there, May, Clone. -/
import Derived.Test.YtcodmnhlboohhaaHb
namespace Go.Proofs.Ytcodmnhlboohhaa
open Go Go.RowKit

theorem infoH : (Try.prog.info? 41).map (fun i => (i.zero, i.size, i.bytes)) = some (some (.agg #[.int .i64 0, .int .i64 0, .int .i64 0, .bool false]), 4, 32) := by kernel_rfl

theorem own_empty (w : World) (e : TypeId) (sz : Nat) (v : Array Value) (hv : v = #[]) : (w.alloc (.cells v e)).ownsRow w.heap.size e sz (.slice (some ⟨w.heap.size, 0, none⟩) 0 0) 0 [] :=
  World.ownsRow_made w v 0 (Nat.le_refl _) (Nat.zero_le _) (by simp [hv])

set_option maxHeartbeats 1000000 in
theorem cloneH (w : World) (A : Option Addr) (l : List HandD) (c : Nat) (h : Hs w A c l) (hlen : l.length ≤ 1000000) :
    Calls Try.prog 22 #[.slice A l.length c] w fun e w' => ∃ v, e = .returned v ∧ w'.ownsRow w.heap.size 41 4 v l.length (flat encH l) ∧ Ext w w' := by
  obtain ⟨i, hi, hz, hsz, hby⟩ := info_parts infoH
  have hnl := fun W => Lib.run_eql_slice_nil (P := Try.prog) W 22 41 A l.length c 0 0 Try.underlying22
  by_cases hA : A = none
  · subst hA
    have hc := h.nil rfl
    have hl0 : l = [] := List.eq_nil_of_length_eq_zero (by have := h.le; omega)
    subst hl0
    subst hc
    have hnl0 := fun W => Lib.run_eql_slice_nil (P := Try.prog) W 22 41 none 0 0 0 0 Try.underlying22
    go_enter Try.func22, Try.ntmps22
    go_wp2
    go_ret
    exact ⟨_, rfl, World.ownsRow_nil _ _ _ _, Ext.rfl' _⟩
  · have hn : A.isNone = false := by cases A <;> simp_all
    have hown := own_empty w 41 4 #[] rfl
    have HO := Lib.hid hown
    have HL := Lib.hid h
    clear hown h hA
    go_enter Try.func22, Try.ntmps22
    go_wp2_with (at_builtin; refine wpList_append_sl rfl _ _ 22 rfl w.heap.size 41 i _ 32 Try.underlying22 hi hz hsz hby rfl (by decide) encH_len encH_one (.slice (some ⟨w.heap.size, 0, none⟩) 0 0) 0 [] rfl HO.out A c l rfl (HL.out.ext ((Ext.rfl' _).alloc _)) (by unfold maxLen; omega) (by omega) (by simp) ?_; intro v' w' hown' hgrow)
    go_ret
    refine ⟨_, rfl, by simpa using hown', ((Ext.rfl' _).alloc _).grown hgrow ?_⟩
    intro k hk
    simp [Value.ownBlock] at hk
    omega

def inD (l : List HandD) (h : Int) : Prop := 0 ≤ h ∧ h < l.length
instance (l : List HandD) (h : Int) : Decidable (inD l h) := by unfold inD; infer_instance
theorem inD_nat {l : List HandD} {h : Int} (hi : inD l h) : ∃ k : Nat, h = k ∧ k < l.length := ⟨h.toNat, by have := hi.1; omega, by have := hi.1; have := hi.2; omega⟩

theorem thereYes (w : World) (A : Option Addr) (n c k : Nat) (hk : k < n) :
    Calls Try.prog 21 #[.slice A n c, .int .i64 k] w fun e w' => e = .returned (.bool true) ∧ w = w' := by
  go_enter Try.func21, Try.ntmps21
  go_wp2
  go_ret
  exact ⟨by simp, rfl⟩

theorem thereNo (w : World) (A : Option Addr) (n c : Nat) (h : Int) (hk : h < 0 ∨ (n : Int) ≤ h) :
    Calls Try.prog 21 #[.slice A n c, .int .i64 h] w fun e w' => e = .returned (.bool false) ∧ w = w' := by
  by_cases h0 : h < 0
  · clear hk
    go_enter Try.func21, Try.ntmps21
    go_wp2
    go_ret
    exact ⟨by simp, rfl⟩
  · have h1 : (n : Int) ≤ h := by omega
    have h2 : 0 ≤ h := by omega
    clear hk h0
    go_enter Try.func21, Try.ntmps21
    go_wp2
    go_ret
    exact ⟨by simp [h1], rfl⟩

def mayD (l : List HandD) (h : Int) : Int := if inD l h then (if (l[h.toNat]?.map HandD.out).getD false = true then -262 else 0) else -259
theorem mayD_in {l : List HandD} {k : Nat} (hk : k < l.length) : mayD l k = if l[k].out = true then -262 else 0 := by
  unfold mayD
  rw [if_pos ⟨by omega, by omega⟩]
  simp [hk]
theorem mayD_no {l : List HandD} {h : Int} (hk : ¬ inD l h) : mayD l h = -259 := by unfold mayD; rw [if_neg hk]
theorem no_or {l : List HandD} {h : Int} (hk : ¬ inD l h) : h < 0 ∨ (l.length : Int) ≤ h := by unfold inD at hk; omega

set_option maxHeartbeats 1000000 in
theorem handMay (w : World) (A : Option Addr) (l : List HandD) (c : Nat) (h : Int) (hl : Hs w A c l) :
    Calls Try.prog 16 #[.slice A l.length c, .int .i64 h] w fun e w' => e = .returned (.int .i64 (mayD l h)) ∧ w = w' := by
  by_cases hi : inD l h
  · obtain ⟨k, rfl, hk⟩ := inD_nat hi
    obtain ⟨b, o, rfl, c1, c2, c3, c4⟩ := Hs.get hl hk
    have HM := Lib.hid (mayD_in hk)
    clear hi hl c1 c2 c3
    generalize l[k] = x at *
    cases ho : x.out
    all_goals
      go_enter Try.func16, Try.ntmps16
      go_wp2_with (go_at_call 21; refine (thereYes _ _ _ _ _ hk).mono ?_; rintro e w' ⟨rfl, rfl⟩)
      go_ret
      exact ⟨by rw [HM.out, ho]; rfl, rfl⟩
  · have HM := Lib.hid (mayD_no hi)
    have HN := Lib.hid (no_or hi)
    clear hi hl
    go_enter Try.func16, Try.ntmps16
    go_wp2_with (go_at_call 21; refine (thereNo _ _ _ _ _ HN.out).mono ?_; rintro e w' ⟨rfl, rfl⟩)
    go_ret
    exact ⟨by rw [HM.out]; rfl, rfl⟩

set_option maxHeartbeats 1000000 in
theorem refMay (w : World) (A : Option Addr) (l : List HandD) (c : Nat) (h : Int) (hl : Hs w A c l) :
    Calls Try.prog 17 #[.slice A l.length c, .int .i64 h] w fun e w' => e = .returned (.int .i64 (mayD l h)) ∧ w = w' := by
  by_cases hi : inD l h
  · obtain ⟨k, rfl, hk⟩ := inD_nat hi
    obtain ⟨b, o, rfl, c1, c2, c3, c4⟩ := Hs.get hl hk
    have HM := Lib.hid (mayD_in hk)
    clear hi hl c1 c2 c3
    generalize l[k] = x at *
    cases ho : x.out
    all_goals
      go_enter Try.func17, Try.ntmps17
      go_wp2
      go_ret
      exact ⟨by rw [HM.out, ho]; rfl, rfl⟩
  · have HM := Lib.hid (mayD_no hi)
    rcases no_or hi with h0 | h0
    all_goals
      clear hi hl
      go_enter Try.func17, Try.ntmps17
      go_wp2
      all_goals
        go_ret
        exact ⟨by rw [HM.out]; rfl, rfl⟩
end Go.Proofs.Ytcodmnhlboohhaa
