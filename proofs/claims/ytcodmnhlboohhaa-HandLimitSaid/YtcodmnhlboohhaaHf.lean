/- Handlers: who may again, as the document says; all contracts in one form. -/
import Derived.Test.YtcodmnhlboohhaaHe
namespace Go.Proofs.Ytcodmnhlboohhaa
open Go Go.RowKit
set_option linter.unusedVariables false

set_option maxHeartbeats 2000000 in
theorem refRearmYes (w : World) (A : Option Addr) (l : List HandD) (c k : Nat) (hl : Hs w A c l) (hlen : l.length ≤ 1000000) (hk : k < l.length) :
    Calls Try.prog 15 #[.slice A l.length c, .int .i64 k] w fun e w' => ListPost w (l.set k (mended l[k])) 0 e w' := by
  obtain ⟨i, hi, hz, hsz, hby⟩ := info_parts infoH
  obtain ⟨b0, o0, rfl, d1, d2, d3, d4⟩ := Hs.get hl hk
  have hb0 : b0 < w.heap.size := lt_of_cell d1
  have hx : l[k]? = some l[k] := List.getElem?_eq_getElem hk
  have hown := own_empty w 41 4 #[] rfl
  have HO := Lib.hid hown
  have HL := Lib.hid hl
  generalize l[k] = x at *
  have HX := Lib.hid hx
  have HC := Lib.hid d1
  have HD := Lib.hid d2
  clear hown hl hx d1 d2 d3 d4
  go_enter Try.func15, Try.ntmps15
  go_wp2_with (at_builtin; refine wpList_append_sl rfl _ _ 22 rfl w.heap.size 41 i _ 32 Try.underlying22 hi hz hsz hby rfl (by decide) encH_len encH_one (.slice (some ⟨w.heap.size, 0, none⟩) 0 0) 0 [] rfl HO.out (some ⟨b0, o0, none⟩) c l rfl (HL.out.ext ((Ext.rfl' _).alloc _)) (by unfold maxLen; omega) (by omega) (by simp) ?_; intro v' w' hown' hgrow; obtain ⟨g, cap, rfl, hb, hlt⟩ := own_some hown' (by omega); obtain ⟨c1, c2, c3, c4, f1, f2, f3, f4⟩ := own_cells hown' HX.out; have hne : b0 ≠ g := (by omega); have hE : Ext w w' := Ext.grown_new hgrow; have e1 := hE.cell HC.out; have e2 := hE.cell HD.out; simp only [Nat.zero_add, List.nil_append] at hown'; have HW := Lib.hid hown'; clear hown' hgrow; have HE := Lib.hid hE; clear hE)
  refine wp_region_tail 14 (by kernel_rfl) (by kernel_rfl) ?_
  simp only [List.take_succ_cons, List.take_zero, List.drop_succ_cons, List.drop_zero]
  repeat (go_big_quiet_step (fail))
  refine wpQuiet_nil ?_
  go_wp2
  go_ret2
  refine ⟨some ⟨g, 0, none⟩, cap, by simp, ?_, ?_⟩
  · exact (own_hs (own_four HW.out HX.out ⟨x.xt, x.fuel, 0, false⟩) (by simp)).ext (((Ext.rfl' _).drewN 1))
  · exact ((((HE.out.setCell (by show w.heap.size ≤ g; omega) _).setCell (by show w.heap.size ≤ g; omega) _).setCell (by show w.heap.size ≤ g; omega) _).setCell (by show w.heap.size ≤ g; omega) _).drewN 1

theorem refRearmNo (w : World) (A : Option Addr) (l : List HandD) (c : Nat) (h : Int) (hl : Hs w A c l) (hn : h < 0 ∨ (l.length : Int) ≤ h) :
    Calls Try.prog 15 #[.slice A l.length c, .int .i64 h] w fun e w' => ListPost w l (-259) e w' := by
  have HL := Lib.hid hl
  clear hl
  rcases hn with hn | hn
  · go_enter Try.func15, Try.ntmps15
    go_wp2
    all_goals
      go_ret2
      exact ⟨A, c, by simp, HL.out, Ext.rfl' _⟩
  · by_cases h0 : h < 0
    · clear hn
      go_enter Try.func15, Try.ntmps15
      go_wp2
      go_ret2
      exact ⟨A, c, by simp, HL.out, Ext.rfl' _⟩
    · go_enter Try.func15, Try.ntmps15
      go_wp2
      go_ret2
      exact ⟨A, c, by simp, HL.out, Ext.rfl' _⟩

/-! All in one form. -/

abbrev Hn (w : World) (A : Option Addr) (n c : Nat) (l : List HandD) : Prop := Sn 4 encH w A n c l

def strikeD (l : List HandD) (h limit : Int) : List HandD × Bool × Int :=
  if hi : inD l h then
    have hk : h.toNat < l.length := by obtain ⟨a, b⟩ := hi; omega
    (l.set h.toNat (struck l[h.toNat] limit), !l[h.toNat].out && decide (limit ≤ upD l[h.toNat].strikes), 0)
  else (l, false, -259)
def rearmD (l : List HandD) (h : Int) : List HandD × Int :=
  if hi : inD l h then
    have hk : h.toNat < l.length := by obtain ⟨a, b⟩ := hi; omega
    (l.set h.toNat (mended l[h.toNat]), 0)
  else (l, -259)

def LP (w : World) (r : List HandD × Int) (e : Ending) (w' : World) : Prop :=
  ∃ A n c, e = .returned (.tuple #[.slice A n c, .int .i64 r.2]) ∧ Hn w' A n c r.1 ∧ Ext w w'
def SP (w : World) (r : List HandD × Bool × Int) (e : Ending) (w' : World) : Prop :=
  ∃ A n c, e = .returned (.tuple #[.slice A n c, .bool r.2.1, .int .i64 r.2.2]) ∧ Hn w' A n c r.1 ∧ Ext w w'

section
variable (w : World) (A : Option Addr) (n c : Nat) (l : List HandD)
theorem strike_c (h limit : Int) (hl : Hn w A n c l) (hlen : l.length ≤ 1000000) (hs : ∀ x ∈ l, 0 ≤ x.strikes) :
    Calls Try.prog 12 #[.slice A n c, .int .i64 h, .int .i64 limit] w fun e w' => SP w (strikeD l h limit) e w' := by
  obtain ⟨rfl, hl⟩ := hl
  unfold strikeD
  by_cases hi : inD l h
  · obtain ⟨k, rfl, hk⟩ := inD_nat hi
    simp only [dif_pos hi, Int.toNat_natCast]
    refine (handStrikeYes w A l c k limit hl hlen hk (hs _ (List.getElem_mem hk))).mono ?_
    rintro e w' ⟨A', c', rfl, h1, h2⟩
    exact ⟨A', _, c', rfl, h1.n, h2⟩
  · simp only [dif_neg hi]
    refine (handStrikeNo w A l c h limit hl (no_or hi)).mono ?_
    rintro e w' ⟨A', c', rfl, h1, h2⟩
    exact ⟨A', _, c', rfl, h1.n, h2⟩
theorem refStrike_c (h limit : Int) (hl : Hn w A n c l) (hlen : l.length ≤ 1000000) (hs : ∀ x ∈ l, 0 ≤ x.strikes) :
    Calls Try.prog 13 #[.slice A n c, .int .i64 h, .int .i64 limit] w fun e w' => SP w (strikeD l h limit) e w' := by
  obtain ⟨rfl, hl⟩ := hl
  unfold strikeD
  by_cases hi : inD l h
  · obtain ⟨k, rfl, hk⟩ := inD_nat hi
    simp only [dif_pos hi, Int.toNat_natCast]
    refine (refStrikeYes w A l c k limit hl hlen hk (hs _ (List.getElem_mem hk))).mono ?_
    rintro e w' ⟨A', c', rfl, h1, h2⟩
    exact ⟨A', _, c', rfl, h1.n, h2⟩
  · simp only [dif_neg hi]
    refine (refStrikeNo w A l c h limit hl (no_or hi)).mono ?_
    rintro e w' ⟨A', c', rfl, h1, h2⟩
    exact ⟨A', _, c', rfl, h1.n, h2⟩
theorem rearm_c (h : Int) (hl : Hn w A n c l) (hlen : l.length ≤ 1000000) :
    Calls Try.prog 14 #[.slice A n c, .int .i64 h] w fun e w' => LP w (rearmD l h) e w' := by
  obtain ⟨rfl, hl⟩ := hl
  unfold rearmD
  by_cases hi : inD l h
  · obtain ⟨k, rfl, hk⟩ := inD_nat hi
    simp only [dif_pos hi, Int.toNat_natCast]
    refine (handRearmYes w A l c k hl hlen hk).mono ?_
    rintro e w' ⟨A', c', rfl, h1, h2⟩
    exact ⟨A', _, c', rfl, h1.n, h2⟩
  · simp only [dif_neg hi]
    refine (handRearmNo w A l c h hl (no_or hi)).mono ?_
    rintro e w' ⟨A', c', rfl, h1, h2⟩
    exact ⟨A', _, c', rfl, h1.n, h2⟩
theorem refRearm_c (h : Int) (hl : Hn w A n c l) (hlen : l.length ≤ 1000000) :
    Calls Try.prog 15 #[.slice A n c, .int .i64 h] w fun e w' => LP w (rearmD l h) e w' := by
  obtain ⟨rfl, hl⟩ := hl
  unfold rearmD
  by_cases hi : inD l h
  · obtain ⟨k, rfl, hk⟩ := inD_nat hi
    simp only [dif_pos hi, Int.toNat_natCast]
    refine (refRearmYes w A l c k hl hlen hk).mono ?_
    rintro e w' ⟨A', c', rfl, h1, h2⟩
    exact ⟨A', _, c', rfl, h1.n, h2⟩
  · simp only [dif_neg hi]
    refine (refRearmNo w A l c h hl (no_or hi)).mono ?_
    rintro e w' ⟨A', c', rfl, h1, h2⟩
    exact ⟨A', _, c', rfl, h1.n, h2⟩
theorem may_c (h : Int) (hl : Hn w A n c l) :
    Calls Try.prog 16 #[.slice A n c, .int .i64 h] w fun e w' => e = .returned (.int .i64 (mayD l h)) ∧ w = w' := by
  obtain ⟨rfl, hl⟩ := hl
  exact handMay w A l c h hl
theorem refMay_c (h : Int) (hl : Hn w A n c l) :
    Calls Try.prog 17 #[.slice A n c, .int .i64 h] w fun e w' => e = .returned (.int .i64 (mayD l h)) ∧ w = w' := by
  obtain ⟨rfl, hl⟩ := hl
  exact refMay w A l c h hl
theorem right_c (hl : Hn w A n c l) :
    Calls Try.prog 9 #[.slice A n c] w fun e w' => e = .returned (.bool (rightD l)) ∧ Ext w w' := by
  obtain ⟨rfl, hl⟩ := hl
  exact handRight w A l c hl
theorem refRight_c (hl : Hn w A n c l) :
    Calls Try.prog 8 #[.slice A n c] w fun e w' => e = .returned (.bool (rightD l)) ∧ Ext w w' := by
  obtain ⟨rfl, hl⟩ := hl
  exact refRight w A l c hl
theorem same_c (A' : Option Addr) (n' c' : Nat) (l' : List HandD) (hl : Hn w A n c l) (hl' : Hn w A' n' c' l') :
    Calls Try.prog 10 #[.slice A n c, .slice A' n' c'] w fun e w' => e = .returned (.bool (decide (l = l'))) ∧ Drawn w w' := by
  obtain ⟨rfl, hl⟩ := hl
  obtain ⟨rfl, hl'⟩ := hl'
  exact handSame w A A' l l' c c' hl hl'
theorem refSame_c (A' : Option Addr) (n' c' : Nat) (l' : List HandD) (hl : Hn w A n c l) (hl' : Hn w A' n' c' l') :
    Calls Try.prog 11 #[.slice A n c, .slice A' n' c'] w fun e w' => e = .returned (.bool (decide (l = l'))) ∧ Drawn w w' := by
  obtain ⟨rfl, hl⟩ := hl
  obtain ⟨rfl, hl'⟩ := hl'
  exact refSame w A A' l l' c c' hl hl'
end
end Go.Proofs.Ytcodmnhlboohhaa
