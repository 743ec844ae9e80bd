/- Handlers: strikes, and who may again: the document's. -/
import Derived.Test.YtcodmnhlboohhaaHd
namespace Go.Proofs.Ytcodmnhlboohhaa
open Go Go.RowKit
set_option linter.unusedVariables false

theorem own_four {w : World} {base g cap n k : Nat} {l : List HandD} {x : HandD} (h : w.ownsRow base 41 4 (.slice (some ⟨g, 0, none⟩) n cap) n (flat encH l)) (hx : l[k]? = some x) (y : HandD) :
    ((((w.setCell ⟨g, k * 4, none⟩ (.int .i64 y.xt)).setCell ⟨g, k * 4 + 1, none⟩ (.int .i64 y.fuel)).setCell ⟨g, k * 4 + 2, none⟩ (.int .i64 y.strikes)).setCell ⟨g, k * 4 + 3, none⟩ (.bool y.out)).ownsRow base 41 4 (.slice (some ⟨g, 0, none⟩) n cap) n (flat encH (l.set k y)) := by
  have hk : k < l.length := (List.getElem?_eq_some_iff.1 hx).1
  have h0 := (h.stored (k * 4 + 0) (.int .i64 y.xt)).1
  have h1 := (h0.stored (k * 4 + 1) (.int .i64 y.fuel)).1
  have h2 := (h1.stored (k * 4 + 2) (.int .i64 y.strikes)).1
  have h3 := (h2.stored (k * 4 + 3) (.bool y.out)).1
  rw [flat_set encH_len l k x { x with xt := y.xt } 0 _ hx rfl (by decide)] at h3
  rw [flat_set encH_len _ k { x with xt := y.xt } { x with xt := y.xt, fuel := y.fuel } 1 _ (by simp [hk]) rfl (by decide)] at h3
  rw [flat_set encH_len _ k { x with xt := y.xt, fuel := y.fuel } { x with xt := y.xt, fuel := y.fuel, strikes := y.strikes } 2 _ (by simp [hk]) rfl (by decide)] at h3
  rw [flat_set encH_len _ k { x with xt := y.xt, fuel := y.fuel, strikes := y.strikes } y 3 _ (by simp [hk]) rfl (by decide)] at h3
  rw [List.set_set, List.set_set, List.set_set] at h3
  exact h3

set_option maxHeartbeats 8000000 in
theorem refStrikeYes0 (w : World) (b0 o0 : Nat) (l : List HandD) (c k : Nat) (limit t xt fuel st : Int) (out out' became : Bool) (hx : l[k]? = some ⟨xt, fuel, st, out⟩) (ht : (t = st + 1 ∧ st ≤ 4611686018427387903) ∨ (t = 4611686018427387904 ∧ 4611686018427387903 < st))
    (ho : out' = (out || (!out && decide (limit ≤ t)))) (hbe : became = (!out && decide (limit ≤ t)))
    (hl : Hs w (some ⟨b0, o0, none⟩) c l) (hlen : l.length ≤ 1000000) (hk : k < l.length) (hs : 0 ≤ st) (hb0 : b0 < w.heap.size) (hc0 : w.cell? ⟨b0, o0 + k * 4 + 3, none⟩ = some (.bool out)) :
    Calls Try.prog 13 #[.slice (some ⟨b0, o0, none⟩) l.length c, .int .i64 k, .int .i64 limit] w fun e w' => StrikePost w (l.set k ⟨xt, fuel, t, out'⟩) became 0 e w' := by
  obtain ⟨i, hi, hz, hsz, hby⟩ := info_parts infoH
  have hown := own_empty w 41 4 #[] rfl
  have HO := Lib.hid hown
  have HL := Lib.hid hl
  have HX := Lib.hid hx
  have HC := Lib.hid hc0
  clear hown hl hx hc0
  by_cases hlim : limit ≤ t
  all_goals
    cases out
    all_goals
      simp [hlim] at ho hbe
      subst ho
      subst hbe
      rcases ht with ⟨rfl, h1⟩ | ⟨rfl, h1⟩
      all_goals
        go_enter Try.func13, Try.ntmps13
        go_wp2_with (at_builtin; refine wpList_append_sl rfl _ _ 22 rfl w.heap.size 41 i _ 32 Try.underlying22 hi hz hsz hby rfl (by decide) encH_len encH_one (.slice (some ⟨w.heap.size, 0, none⟩) 0 0) 0 [] rfl HO.out (some ⟨b0, o0, none⟩) c l rfl (HL.out.ext ((Ext.rfl' _).alloc _)) (by unfold maxLen; omega) (by omega) (by simp) ?_; intro v' w' hown' hgrow; obtain ⟨g, cap, rfl, hb, hlt⟩ := own_some hown' (by omega); obtain ⟨c1, c2, c3, c4, f1, f2, f3, f4⟩ := own_cells hown' HX.out; have hne : b0 ≠ g := (by omega); have hE : Ext w w' := Ext.grown_new hgrow; have c0 := hE.cell HC.out; simp only [Nat.zero_add, List.nil_append] at hown'; have HW := Lib.hid hown'; clear hown' hgrow; have HE := Lib.hid hE; clear hE; have hlt0 : b0 < w'.heap.size := (by omega))
        go_quiet (fail)
        go_wp2
        go_ret3
        refine ⟨some ⟨g, 0, none⟩, cap, by simp, ?_, ?_⟩
        · exact (own_hs (own_four HW.out HX.out ⟨xt, fuel, _, _⟩) (by simp)).ext (((Ext.rfl' _).alloc _).drewN _)
        · exact (((((HE.out.setCell (by show w.heap.size ≤ g; omega) _).setCell (by show w.heap.size ≤ g; omega) _).setCell (by show w.heap.size ≤ g; omega) _).setCell (by show w.heap.size ≤ g; omega) _).alloc _).drewN _

theorem refStrikeYes (w : World) (A : Option Addr) (l : List HandD) (c k : Nat) (limit : Int) (hl : Hs w A c l) (hlen : l.length ≤ 1000000) (hk : k < l.length) (hs : 0 ≤ l[k].strikes) :
    Calls Try.prog 13 #[.slice A l.length c, .int .i64 k, .int .i64 limit] w fun e w' => StrikePost w (l.set k (struck l[k] limit)) (!l[k].out && decide (limit ≤ upD l[k].strikes)) 0 e w' := by
  obtain ⟨b, o, rfl, c1, c2, c3, c4⟩ := Hs.get hl hk
  exact refStrikeYes0 w b o l c k limit (upD l[k].strikes) _ _ _ _ _ _ (List.getElem?_eq_getElem hk) (upD_or _ hs) rfl rfl hl hlen hk hs (lt_of_cell c4) c4

theorem refStrikeNo (w : World) (A : Option Addr) (l : List HandD) (c : Nat) (h limit : Int) (hl : Hs w A c l) (hn : h < 0 ∨ (l.length : Int) ≤ h) :
    Calls Try.prog 13 #[.slice A l.length c, .int .i64 h, .int .i64 limit] w fun e w' => StrikePost w l false (-259) e w' := by
  have HL := Lib.hid hl
  clear hl
  rcases hn with hn | hn
  · go_enter Try.func13, Try.ntmps13
    go_wp2
    all_goals
      go_ret3
      exact ⟨A, c, by simp, HL.out, Ext.rfl' _⟩
  · by_cases h0 : h < 0
    · clear hn
      go_enter Try.func13, Try.ntmps13
      go_wp2
      go_ret3
      exact ⟨A, c, by simp, HL.out, Ext.rfl' _⟩
    · go_enter Try.func13, Try.ntmps13
      go_wp2
      go_ret3
      exact ⟨A, c, by simp, HL.out, Ext.rfl' _⟩
end Go.Proofs.Ytcodmnhlboohhaa
