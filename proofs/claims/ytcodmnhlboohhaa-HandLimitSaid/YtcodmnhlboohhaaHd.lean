/- Handlers: strikes, and who may again: the program's. -/
import Derived.Test.YtcodmnhlboohhaaHc
namespace Go.Proofs.Ytcodmnhlboohhaa
open Go Go.RowKit
set_option linter.unusedVariables false

theorem own_some {w : World} {base : Nat} {e : TypeId} {sz : Nat} {v : Value} {n : Nat} {xs : List Value} (h : w.ownsRow base e sz v n xs) (hn : 0 < n) :
    ∃ g cap, v = .slice (some ⟨g, 0, none⟩) n cap ∧ base ≤ g ∧ g < w.heap.size := by
  rcases h.2 with ⟨_, h0⟩ | ⟨g, cap, cur, hv, hb, hg, _⟩
  · omega
  · exact ⟨g, cap, hv, hb, (Array.getElem?_eq_some_iff.1 hg).1⟩

theorem cloneAt (w : World) (A : Option Addr) (l : List HandD) (c k : Nat) (h : Hs w A c l) (hlen : l.length ≤ 1000000) (hk : k < l.length) :
    Calls Try.prog 22 #[.slice A l.length c] w fun e w' => ∃ g cap, e = .returned (.slice (some ⟨g, 0, none⟩) l.length cap) ∧
      w'.ownsRow w.heap.size 41 4 (.slice (some ⟨g, 0, none⟩) l.length cap) l.length (flat encH l) ∧ Ext w w' ∧ w.heap.size ≤ g ∧
      w'.cell? ⟨g, k * 4, none⟩ = some (.int .i64 l[k].xt) ∧ w'.cell? ⟨g, k * 4 + 1, none⟩ = some (.int .i64 l[k].fuel) ∧ w'.cell? ⟨g, k * 4 + 2, none⟩ = some (.int .i64 l[k].strikes) ∧ w'.cell? ⟨g, k * 4 + 3, none⟩ = some (.bool l[k].out) ∧
      w'.frozen? ⟨g, k * 4 + 2, none⟩ = false ∧ w'.frozen? ⟨g, k * 4 + 3, none⟩ = false := by
  refine (cloneH w A l c h hlen).mono ?_
  rintro e w' ⟨v, rfl, hown, hE⟩
  obtain ⟨g, cap, rfl, hb, hlt⟩ := own_some hown (by omega)
  have hf := hown.frozenAt
  obtain ⟨A', c', hv, hs⟩ := Sl.of_own hown encH_len
  simp only [Value.slice.injEq, true_and] at hv
  obtain ⟨rfl, rfl⟩ := hv
  obtain ⟨b, o, hA, c1, c2, c3, c4⟩ := Hs.get hs hk
  simp only [Option.some.injEq, Addr.mk.injEq, and_true] at hA
  obtain ⟨rfl, rfl⟩ := hA
  simp only [Nat.zero_add] at c1 c2 c3 c4
  exact ⟨_, _, rfl, hown, hE, hb, c1, c2, c3, c4, hf _, hf _⟩

theorem own_cells {w : World} {base g cap n m k : Nat} {l : List HandD} {x : HandD} (h : w.ownsRow base 41 4 (.slice (some ⟨g, 0, none⟩) n cap) m ([] ++ flat encH l)) (hx : l[k]? = some x) :
    w.cell? ⟨g, k * 4, none⟩ = some (.int .i64 x.xt) ∧ w.cell? ⟨g, k * 4 + 1, none⟩ = some (.int .i64 x.fuel) ∧ w.cell? ⟨g, k * 4 + 2, none⟩ = some (.int .i64 x.strikes) ∧ w.cell? ⟨g, k * 4 + 3, none⟩ = some (.bool x.out) ∧
      w.frozen? ⟨g, k * 4, none⟩ = false ∧ w.frozen? ⟨g, k * 4 + 1, none⟩ = false ∧ w.frozen? ⟨g, k * 4 + 2, none⟩ = false ∧ w.frozen? ⟨g, k * 4 + 3, none⟩ = false := by
  rw [List.nil_append] at h
  have hm : m = l.length := by have h1 := h.1; rw [flat_length encH_len] at h1; omega
  subst hm
  rcases h.2 with ⟨h', _⟩ | ⟨g', cap', cur, h', _, hg, _, _, _, htake⟩
  · simp at h'
  · simp only [Value.slice.injEq, Option.some.injEq, Addr.mk.injEq, and_true] at h'
    obtain ⟨rfl, rfl, rfl⟩ := h'
    have hf := h.frozenAt
    obtain ⟨A', c', hv, hs⟩ := Sl.of_own h encH_len
    simp only [Value.slice.injEq, true_and] at hv
    obtain ⟨rfl, rfl⟩ := hv
    have hk : k < l.length := (List.getElem?_eq_some_iff.1 hx).1
    have hxe : l[k] = x := (List.getElem?_eq_some_iff.1 hx).2
    obtain ⟨b, o, hA, c1, c2, c3, c4⟩ := Hs.get hs hk
    simp only [Option.some.injEq, Addr.mk.injEq, and_true] at hA
    obtain ⟨rfl, rfl⟩ := hA
    simp only [Nat.zero_add, hxe] at c1 c2 c3 c4
    exact ⟨c1, c2, c3, c4, hf _, hf _, hf _, hf _⟩

/-- How many strikes there are behind one more. -/
def upD (s : Int) : Int := min s 4611686018427387903 + 1
theorem upD_or (s : Int) (h : 0 ≤ s) : (upD s = s + 1 ∧ s ≤ 4611686018427387903) ∨ (upD s = 4611686018427387904 ∧ 4611686018427387903 < s) := by unfold upD; omega

set_option maxHeartbeats 4000000 in
theorem strikeG (w : World) (g p bl bb : Nat) (s t lim : Int) (o : Bool) (ht : (t = s + 1 ∧ s ≤ 4611686018427387903) ∨ (t = 4611686018427387904 ∧ 4611686018427387903 < s)) (hs : 0 ≤ s) (hgl : g ≠ bl) (hgb : g ≠ bb) (hlb : bl ≠ bb)
    (c2 : w.cell? ⟨g, p + 2, none⟩ = some (.int .i64 s)) (c3 : w.cell? ⟨g, p + 3, none⟩ = some (.bool o)) (f2 : w.frozen? ⟨g, p + 2, none⟩ = false) (f3 : w.frozen? ⟨g, p + 3, none⟩ = false)
    (cl : w.cell? ⟨bl, 0, none⟩ = some (.int .i64 lim)) (cb : w.cell? ⟨bb, 0, none⟩ = some (.bool false)) (fb : w.frozen? ⟨bb, 0, none⟩ = false) :
    Calls Try.prog 19 #[.pointer (some ⟨g, p, none⟩), .pointer (some ⟨bl, 0, none⟩), .pointer (some ⟨bb, 0, none⟩)] w fun e w' => e = .returned (.tuple #[]) ∧
      ∃ n, w' = (((w.setCell ⟨g, p + 2, none⟩ (.int .i64 t)).setCell ⟨bb, 0, none⟩ (.bool (!o && decide (lim ≤ t)))).setCell ⟨g, p + 3, none⟩ (.bool (o || (!o && decide (lim ≤ t))))).drewN n := by
  by_cases hlim : lim ≤ t
  all_goals
    rcases ht with ⟨rfl, h1⟩ | ⟨rfl, h1⟩
    all_goals
      cases o
      all_goals
        go_enter Try.func19, Try.ntmps19
        go_wp2
        refine wp_region_tail 13 (by kernel_rfl) (by kernel_rfl) ?_
        simp only [List.take_succ_cons, List.take_zero, List.drop_succ_cons, List.drop_zero]
        repeat (go_big_quiet_step (fail))
        refine wpQuiet_nil ?_
        go_wp2
        go_end0
        exact ⟨rfl, 1, by simp [hlim]; rfl⟩

theorem strikeF (w : World) (g p bl bb : Nat) (s lim : Int) (o : Bool) (hs : 0 ≤ s) (hgl : g ≠ bl) (hgb : g ≠ bb) (hlb : bl ≠ bb)
    (c2 : w.cell? ⟨g, p + 2, none⟩ = some (.int .i64 s)) (c3 : w.cell? ⟨g, p + 3, none⟩ = some (.bool o)) (f2 : w.frozen? ⟨g, p + 2, none⟩ = false) (f3 : w.frozen? ⟨g, p + 3, none⟩ = false)
    (cl : w.cell? ⟨bl, 0, none⟩ = some (.int .i64 lim)) (cb : w.cell? ⟨bb, 0, none⟩ = some (.bool false)) (fb : w.frozen? ⟨bb, 0, none⟩ = false) :
    Calls Try.prog 19 #[.pointer (some ⟨g, p, none⟩), .pointer (some ⟨bl, 0, none⟩), .pointer (some ⟨bb, 0, none⟩)] w fun e w' => e = .returned (.tuple #[]) ∧
      ∃ n, w' = (((w.setCell ⟨g, p + 2, none⟩ (.int .i64 (upD s))).setCell ⟨bb, 0, none⟩ (.bool (!o && decide (lim ≤ upD s)))).setCell ⟨g, p + 3, none⟩ (.bool (o || (!o && decide (lim ≤ upD s))))).drewN n :=
  strikeG w g p bl bb s (upD s) lim o (upD_or s hs) hs hgl hgb hlb c2 c3 f2 f3 cl cb fb

def struck (h : HandD) (limit : Int) : HandD := { h with strikes := upD h.strikes, out := h.out || (!h.out && decide (limit ≤ upD h.strikes)) }

def ListPost (w : World) (l' : List HandD) (x : Int) (e : Ending) (w' : World) : Prop :=
  ∃ A c, e = .returned (.tuple #[.slice A l'.length c, .int .i64 x]) ∧ Hs w' A c l' ∧ Ext w w'
def StrikePost (w : World) (l' : List HandD) (b : Bool) (x : Int) (e : Ending) (w' : World) : Prop :=
  ∃ A c, e = .returned (.tuple #[.slice A l'.length c, .bool b, .int .i64 x]) ∧ Hs w' A c l' ∧ Ext w w'

theorem encH_set2 (h : HandD) (u : Int) : (encH h).set 2 (.int .i64 u) = encH { h with strikes := u } := rfl
theorem encH_set3 (h : HandD) (u : Bool) : (encH h).set 3 (.bool u) = encH { h with out := u } := rfl

theorem own_two {w : World} {base g cap n k : Nat} {l : List HandD} (h : w.ownsRow base 41 4 (.slice (some ⟨g, 0, none⟩) n cap) n (flat encH l)) (hk : k < l.length) {p : Addr} (hp : p.block < base) (u : Int) (o : Bool) (v : Value) :
    (((w.setCell ⟨g, k * 4 + 2, none⟩ (.int .i64 u)).setCell p v).setCell ⟨g, k * 4 + 3, none⟩ (.bool o)).ownsRow base 41 4 (.slice (some ⟨g, 0, none⟩) n cap) n (flat encH (l.set k { l[k] with strikes := u, out := o })) := by
  have h1 := (h.stored (k * 4 + 2) (.int .i64 u)).1
  have h2 := ownsRow_setCell_below h1 hp v
  have h3 := (h2.stored (k * 4 + 3) (.bool o)).1
  rw [flat_set encH_len l k l[k] { l[k] with strikes := u } 2 _ (List.getElem?_eq_getElem hk) (encH_set2 _ _) (by decide)] at h3
  rw [flat_set encH_len _ k { l[k] with strikes := u } { l[k] with strikes := u, out := o } 3 _ (by simp [hk]) (encH_set3 _ _) (by decide)] at h3
  rw [List.set_set] at h3
  exact h3

theorem own_hs {w : World} {base g cap n : Nat} {l : List HandD} (h : w.ownsRow base 41 4 (.slice (some ⟨g, 0, none⟩) n cap) n (flat encH l)) (hn : n = l.length) : Hs w (some ⟨g, 0, none⟩) cap l := by
  subst hn
  obtain ⟨A', c', hv, hs⟩ := Sl.of_own h encH_len
  simp only [Value.slice.injEq, true_and] at hv
  obtain ⟨rfl, rfl⟩ := hv
  exact hs

set_option maxHeartbeats 1000000 in
theorem handStrikeYes (w : World) (A : Option Addr) (l : List HandD) (c k : Nat) (limit : Int) (hl : Hs w A c l) (hlen : l.length ≤ 1000000) (hk : k < l.length) (hs : 0 ≤ l[k].strikes) :
    Calls Try.prog 12 #[.slice A l.length c, .int .i64 k, .int .i64 limit] w fun e w' => StrikePost w (l.set k (struck l[k] limit)) (!l[k].out && decide (limit ≤ upD l[k].strikes)) 0 e w' := by
  have HL := Lib.hid hl
  have HX : Hid (∀ W, Ext w W → Calls Try.prog 22 #[.slice A l.length c] W _) := fun W hW => cloneAt W A l c k (HL.out.ext hW) hlen hk
  have HT : Hid (∀ (w1 : World) (g cap base : Nat), w1.ownsRow base 41 4 (.slice (some ⟨g, 0, none⟩) l.length cap) l.length (flat encH l) → ∀ (u : Int) (o : Bool) (v : Value) (p : Addr), p.block < base →
      Hs (((w1.setCell ⟨g, k * 4 + 2, none⟩ (.int .i64 u)).setCell p v).setCell ⟨g, k * 4 + 3, none⟩ (.bool o)) (some ⟨g, 0, none⟩) cap (l.set k { l[k] with strikes := u, out := o })) :=
    fun w1 g cap base h u o v p hp => own_hs (own_two h hk hp u o v) (by simp)
  clear hl
  generalize l[k] = x at *
  go_enter Try.func12, Try.ntmps12
  go_wp2_with (first | (go_at_call 21; refine (thereYes _ _ _ _ _ hk).mono ?_; rintro e w' ⟨rfl, rfl⟩) | (go_at_call 22; refine (HX.out _ (((Ext.rfl' _).alloc _).alloc _)).mono ?_; rintro e w1 ⟨g, cap, rfl, hown, hE, hg, c1, c2, c3, c4, f2, f3⟩; simp only [World.size_alloc] at hg hown; have HO := Lib.hid hown; clear hown) | (go_at_call 19; fail) | go_at_call 18; go_in)
  have cl : w1.cell? ⟨w.heap.size, 0, none⟩ = some (.int .i64 limit) := hE.cell (by simp [go_sem])
  have cb : w1.cell? ⟨w.heap.size + 1, 0, none⟩ = some (.bool false) := hE.cell (by simp [go_sem])
  have fb : w1.frozen? ⟨w.heap.size + 1, 0, none⟩ = false := (Below.frozen hE (by simp)).trans (by simp [go_sem])
  refine (strikeF w1 g (k * 4) w.heap.size (w.heap.size + 1) x.strikes limit x.out hs (by omega) (by omega) (by omega) c3 c4 f2 f3 cl cb fb).mono ?_
  rintro e w' ⟨rfl, n, rfl⟩
  have hE' : Ext w w1 := (((Ext.rfl' w).alloc _).alloc _).tr hE
  go_wp2
  go_quiet (fail)
  go_wp2
  go_ret3
  have HZ := HT.out _ _ _ _ HO.out (upD x.strikes) (x.out || !x.out && decide (limit ≤ upD x.strikes)) (.bool (!x.out && decide (limit ≤ upD x.strikes))) ⟨w.heap.size + 1, 0, none⟩ (by show w.heap.size + 1 < _; omega)
  refine ⟨some ⟨g, 0, none⟩, cap, by simp, ?_, ?_⟩
  · exact HZ.ext (((Ext.rfl' _).drewN _).drewN _)
  · exact ((((hE'.setCell (by show w.heap.size ≤ g; omega) _).setCell (by show w.heap.size ≤ w.heap.size + 1; omega) _).setCell (by show w.heap.size ≤ g; omega) _).drewN _).drewN _

theorem handStrikeNo (w : World) (A : Option Addr) (l : List HandD) (c : Nat) (h limit : Int) (hl : Hs w A c l) (hn : h < 0 ∨ (l.length : Int) ≤ h) :
    Calls Try.prog 12 #[.slice A l.length c, .int .i64 h, .int .i64 limit] w fun e w' => StrikePost w l false (-259) e w' := by
  have HL := Lib.hid hl
  have HN := Lib.hid hn
  clear hl hn
  go_enter Try.func12, Try.ntmps12
  go_wp2_with (first | (go_at_call 21; refine (thereNo _ _ _ _ _ HN.out).mono ?_; rintro e w' ⟨rfl, rfl⟩) | go_at_call 18; go_in)
  go_quiet (fail)
  go_wp2
  go_ret3
  have hE : Ext w ((w.alloc (Obj.cells #[Value.int IntKind.i64 limit] 3)).alloc (Obj.cells #[Value.bool false] 4)) := ((Ext.rfl' w).alloc _).alloc _
  exact ⟨A, c, by simp, HL.out.ext (hE.drewN _), hE.drewN _⟩

def mended (h : HandD) : HandD := { h with strikes := 0, out := false }

theorem own_mend {w : World} {base g cap n k : Nat} {l : List HandD} (h : w.ownsRow base 41 4 (.slice (some ⟨g, 0, none⟩) n cap) n (flat encH l)) (hk : k < l.length) (u : Int) (o : Bool) :
    ((w.setCell ⟨g, k * 4 + 2, none⟩ (.int .i64 u)).setCell ⟨g, k * 4 + 3, none⟩ (.bool o)).ownsRow base 41 4 (.slice (some ⟨g, 0, none⟩) n cap) n (flat encH (l.set k { l[k] with strikes := u, out := o })) := by
  have h1 := (h.stored (k * 4 + 2) (.int .i64 u)).1
  have h3 := (h1.stored (k * 4 + 3) (.bool o)).1
  rw [flat_set encH_len l k l[k] { l[k] with strikes := u } 2 _ (List.getElem?_eq_getElem hk) (encH_set2 _ _) (by decide)] at h3
  rw [flat_set encH_len _ k { l[k] with strikes := u } { l[k] with strikes := u, out := o } 3 _ (by simp [hk]) (encH_set3 _ _) (by decide)] at h3
  rw [List.set_set] at h3
  exact h3

set_option maxHeartbeats 1000000 in
theorem handRearmYes (w : World) (A : Option Addr) (l : List HandD) (c k : Nat) (hl : Hs w A c l) (hlen : l.length ≤ 1000000) (hk : k < l.length) :
    Calls Try.prog 14 #[.slice A l.length c, .int .i64 k] w fun e w' => ListPost w (l.set k (mended l[k])) 0 e w' := by
  have HL := Lib.hid hl
  have HX : Hid (∀ W, Ext w W → Calls Try.prog 22 #[.slice A l.length c] W _) := fun W hW => cloneAt W A l c k (HL.out.ext hW) hlen hk
  have HT : Hid (∀ (w1 : World) (g cap base : Nat), w1.ownsRow base 41 4 (.slice (some ⟨g, 0, none⟩) l.length cap) l.length (flat encH l) →
      Hs ((w1.setCell ⟨g, k * 4 + 2, none⟩ (.int .i64 0)).setCell ⟨g, k * 4 + 3, none⟩ (.bool false)) (some ⟨g, 0, none⟩) cap (l.set k (mended l[k]))) :=
    fun w1 g cap base h => own_hs (own_mend h hk 0 false) (by simp)
  clear hl
  generalize l[k] = x at *
  go_enter Try.func14, Try.ntmps14
  go_wp2_with (first | (go_at_call 21; refine (thereYes _ _ _ _ _ hk).mono ?_; rintro e w' ⟨rfl, rfl⟩) | (go_at_call 22; refine (HX.out _ (Ext.rfl' _)).mono ?_; rintro e w1 ⟨g, cap, rfl, hown, hE, hg, c1, c2, c3, c4, f2, f3⟩; have HO := Lib.hid hown; clear hown) | go_in)
  go_ret2
  refine ⟨some ⟨g, 0, none⟩, cap, by simp, HT.out _ _ _ _ HO.out, ?_⟩
  exact (hE.setCell (by show w.heap.size ≤ g; omega) _).setCell (by show w.heap.size ≤ g; omega) _

theorem handRearmNo (w : World) (A : Option Addr) (l : List HandD) (c : Nat) (h : Int) (hl : Hs w A c l) (hn : h < 0 ∨ (l.length : Int) ≤ h) :
    Calls Try.prog 14 #[.slice A l.length c, .int .i64 h] w fun e w' => ListPost w l (-259) e w' := by
  have HL := Lib.hid hl
  have HN := Lib.hid hn
  clear hl hn
  go_enter Try.func14, Try.ntmps14
  go_wp2_with (first | (go_at_call 21; refine (thereNo _ _ _ _ _ HN.out).mono ?_; rintro e w' ⟨rfl, rfl⟩) | go_in)
  go_ret2
  exact ⟨A, c, by simp, HL.out, Ext.rfl' _⟩
end Go.Proofs.Ytcodmnhlboohhaa
