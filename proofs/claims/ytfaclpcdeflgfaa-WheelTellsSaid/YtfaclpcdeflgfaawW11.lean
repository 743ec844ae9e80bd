/- wA16, wA17, wA19. -/
import Derived.Test.YtfaclpcdeflgfaaW1
import Derived.Test.YtfaclpcdeflgfaaW2
import Derived.Test.YtfaclpcdeflgfaaW3
import Derived.Test.YtfaclpcdeflgfaaW4
import Derived.Test.YtfaclpcdeflgfaawW5
import Derived.Test.YtfaclpcdeflgfaawW6
import Derived.Test.YtfaclpcdeflgfaawW7
import Derived.Test.YtfaclpcdeflgfaawW8
import Derived.Test.YtfaclpcdeflgfaawW9
import Derived.Test.YtfaclpcdeflgfaawW10
set_option linter.unusedVariables false
set_option linter.unusedSimpArgs false
namespace Go.Proofs.Ytfaclpcdeflgfaa
open Go Go.RowKit
set_option maxRecDepth 100000
theorem flt_no {p : Tmr → Bool} {l : List Tmr} (h : ∀ t, t ∈ l → p t = false) : l.filter p = [] := List.filter_eq_nil_iff.2 (fun t ht => by rw [h t ht]; decide)
attribute [local irreducible] Decidable.decide awp ARun regK toK zW zBig28 dueB
end Go.Proofs.Ytfaclpcdeflgfaa
namespace Go.Proofs.Ytfaclpcdeflgfaa
open Go Go.RowKit
set_option maxRecDepth 100000
theorem mem_sortT {l : List Tmr} {t : Tmr} : t ∈ sortT l ↔ t ∈ l := by
 constructor
 ·intro h
  exact mem_of_filter (sortT_filter l) h
 ·intro h
  exact mem_of_filter (fun d i => (sortT_filter l d i).symm) h
theorem take_lt {l : List Tmr} {k : Nat} {t : Tmr} (h : t ∈ l.take k) : ∃ i, i < k ∧ l[i]? = some t := by
 obtain ⟨i, hi⟩ := List.getElem?_of_mem h
 rw [List.getElem?_take] at hi
 split at hi
 ·rename_i q
  exact ⟨i, q, hi⟩
 ·cases hi
end Go.Proofs.Ytfaclpcdeflgfaa
namespace Go.Proofs.Ytfaclpcdeflgfaa
open Go Go.RowKit
set_option maxRecDepth 100000
theorem flatTm : flatOf Try.prog 40 = some [0, 0, 0, 0, 0, 0] := by kernel_rfl
theorem tm_refl (a b c d e f : Int) : (!((a == a) && ((b == b) && ((c == c) && ((d == d) && ((e == e) && ((f == f) && true))))))) = false := by simp
theorem mod600 {d : Int} (h : 0 ≤ d) : 0 ≤ d.tmod 600 ∧ d.tmod 600 < 600 := by
 rw [Int.tmod_eq_emod_of_nonneg h]
 omega
attribute [local irreducible] Decidable.decide awp ARun regK toK
set_option maxHeartbeats 4000000 in
theorem same19_c (l : List Tmr) (hl : l.length ≤ 1000000) : FnC Try.prog 17 [encTs l, encTs l] (.val (.bool true)) := by
 have em : (((l.map encTm).length : Nat) : Int) = l.length := by rw [List.length_map]
 have d1 : ((((l.map encTm).length : Nat) : Int) != (((l.map encTm).length : Nat) : Int)) = false := by simp
 refine goF Try.func17 (closedL_cons (closed_ts l) (closedL_cons (closed_ts l) closedL_nil)) (fun w0 st0 => ?_)
 dsimp only [frOf]
 (repeat' (first | refine goA ?_ | refine goB ?_ | fail))
 refine awp_loopT (T := Nat × Nat) (fun t => ⟨[(0, encTs l), (1, encTs l), (5, .val (.int .i64 (t.1 : Nat)))], [], t.2⟩) (fun t => t.1 ≤ l.length) (fun t => l.length - t.1) (0, _) (Nat.zero_le _) ⟨⟨rfl, rfl, rfl, trivial⟩, trivial, Nat.le_refl _⟩ (fun t ht => ?_)
 obtain ⟨k, gc⟩ := t
 dsimp only at ht ⊢
 clear d1
 by_cases hlt : k < l.length
 ·have d2 : decide (((k : Nat) : Int) < ((l.map encTm).length : Nat)) = true := decide_eq_true (by omega)
  obtain ⟨y, hy⟩ : ∃ y, l[k]? = some y := ⟨_, List.getElem?_eq_getElem hlt⟩
  have hp : (l.map encTm)[((k : Nat) : Int).toNat]? = some (encTm y) := map_at hy
  have d3 := tm_refl y.id y.due y.each y.rank y.hand y.arg
  (repeat' (first | refine goA ?_ | refine ARun.indexAddr rfl rfl (by omega) (by with_reducible exact hp) rfl rfl rfl rfl rfl (guardF_spec rfl) ?_ | refine neX flatTm rfl rfl rfl rfl rfl ?_ | refine goB ?_ | fail))
  exact ⟨(k + 1, _), ⟨⟨rfl, rfl, rfl, trivial⟩, trivial, Nat.le_refl _⟩, hlt, (by dsimp only; omega)⟩
 ·have d2 : decide (((k : Nat) : Int) < ((l.map encTm).length : Nat)) = false := decide_eq_false (by omega)
  (repeat' (first | refine goA ?_ | refine goB ?_ | fail))
  exact awp_ret ⟨_, ResL.cons (ResA.tmp (.val _)) .nil, rfl⟩
end Go.Proofs.Ytfaclpcdeflgfaa
