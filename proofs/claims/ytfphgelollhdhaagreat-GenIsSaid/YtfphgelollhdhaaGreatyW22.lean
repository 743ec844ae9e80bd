/- yJ8, yJ9, yJ10, yJ11, yJ12. -/
import Derived.Test.YtfphgelollhdhaaGreatW1
import Derived.Test.YtfphgelollhdhaaGreatW2
import Derived.Test.YtfphgelollhdhaaGreatW3
import Derived.Test.YtfphgelollhdhaaGreatW4
import Derived.Test.YtfphgelollhdhaaGreatyW5
import Derived.Test.YtfphgelollhdhaaGreatyW6
import Derived.Test.YtfphgelollhdhaaGreatyW7
import Derived.Test.YtfphgelollhdhaaGreatyW8
import Derived.Test.YtfphgelollhdhaaGreatyW9
import Derived.Test.YtfphgelollhdhaaGreatyW10
import Derived.Test.YtfphgelollhdhaaGreatyW11
import Derived.Test.YtfphgelollhdhaaGreatyW12
import Derived.Test.YtfphgelollhdhaaGreatyW13
import Derived.Test.YtfphgelollhdhaaGreatyW14
import Derived.Test.YtfphgelollhdhaaGreatyW15
import Derived.Test.YtfphgelollhdhaaGreatyW16
import Derived.Test.YtfphgelollhdhaaGreatyW17
import Derived.Test.YtfphgelollhdhaaGreatyW18
import Derived.Test.YtfphgelollhdhaaGreatyW19
import Derived.Test.YtfphgelollhdhaaGreatyW20
import Derived.Test.YtfphgelollhdhaaGreatyW21
set_option linter.unusedVariables false
set_option linter.unusedSimpArgs false
namespace Go.Proofs.YtfphgelollhdhaaGreat.Gen
open Go Go.RowKit
set_option maxRecDepth 100000
theorem mlen (l : List Int) : (((l.map encI).length : Nat) : Int) = l.length := by rw [List.length_map]
attribute [local irreducible] Decidable.decide awp ARun regK toK XS
end Go.Proofs.YtfphgelollhdhaaGreat.Gen
namespace Go.Proofs.YtfphgelollhdhaaGreat.Gen
open Go Go.RowKit
set_option maxRecDepth 100000
def codeS (self : Int) (t : List Nod) (pos : Int) : List Int := codL XS self t pos 0 ++ [XS.ex]
attribute [local irreducible] Decidable.decide awp ARun regK toK XS
set_option maxHeartbeats 8000000 in
theorem code_c (t : List Nod) (pos self : Int) (h : okDs t = true) (hc : cntL t ≤ 100000) (hp : In64 pos) : FnC Tryz.prog 8 [encTr t, .val (.int .i64 pos), .val (.int .i64 self)] (encS (codeS self t pos)) := by
 have k1 := row_all (cntL t + 1) t (Nat.lt_succ_self _) h pos self 0 [] (by simp only [List.length_nil]; omega)
 have e0 : wr (pos + 8 * ((([] : List Int).length : Nat) : Int)) = pos := by rw [List.length_nil, show pos + 8 * ((0 : Nat) : Int) = pos by omega]; exact wr_in hp
 rw [e0, List.nil_append] at k1
 have b1 := sizS_bound t
 have z1 : ((codL XS self t pos 0).length : Int) = sizS t := codL_len _ _ _ _ _ h
 have z2 := mlen (codL XS self t pos 0)
 unfold codeS
 have k2 := lay_m pos self 0 (codL XS self t pos 0) [XS.ex] (by omega) (by simp)
 generalize codL XS self t pos 0 = o at *
 have hcl : ∀ el x, el ∈ (o ++ [XS.ex]).map encI → x ∈ el → Closed x := map_cl _
 generalize o ++ [XS.ex] = o2 at *
 refine goF Tryz.func8 (closedL_cons (closed_tr _) (closedL_cons (.val _) (closedL_cons (.val _) closedL_nil))) (fun w0 st0 => ?_)
 dsimp only [frOf]
 (repeat' (first | refine goN ?_ | refine awp_region_ne 2 rfl (fun _ => hmix) ?_ | refine ARun.o rfl ?_ | refine goB ?_ | ((fail_if_success refine ARun.plain rfl ?_); refine ARun.fork rfl rfl rfl (fun h => ?_) (fun h => ?_)) | refine awp_cond rfl (fun h => ?_) (fun h => ?_)))
 refine awp_newRow 500 1 ?_
 refine awp_nilH 11 500 [LCb 500 _ pos self 0 (([] : List Int).map encI).length] rfl rfl rfl rfl (RelR.cons (RelL.cons (.same _) (RelL.cons (.same _) (RelL.cons (.same _) (RelL.cons (.nil _) (RelL.nil _))))) (RelR.nil _)) ?_
 (repeat' (first | refine goA ?_ | refine cX xt_ex ?_ | refine callLay 11 500 k1 rfl rfl rfl rfl rfl askT rfl rfl rfl ?_ | refine callLay 11 500 k2 rfl rfl rfl rfl rfl askT rfl rfl rfl ?_ | refine ARun.nilCheckP rfl rfl (guardF_spec rfl) ?_ | refine goB ?_ | fail))
 exact awp_ret ⟨_, ResL.cons (ResA.tmp (.owned rfl rfl rfl hcl)) .nil, rfl⟩
end Go.Proofs.YtfphgelollhdhaaGreat.Gen
namespace Go.Proofs.YtfphgelollhdhaaGreat.Gen
open Go Go.RowKit
set_option maxRecDepth 100000
mutual
def lenN : Nod → Prop
 | .mk _ _ a b => (a.length ≤ 2199023255552 ∧ lenA a) ∧ (b.length ≤ 2199023255552 ∧ lenA b)
def lenA : List Nod → Prop
 | [] => True
 | x :: l => lenN x ∧ lenA l
end
def guardM (x : Nod) : Bool :=
 if x.k = 3 then decide (x.n = 1) || (decide (x.n = 0) && x.b.isEmpty)
 else if x.k = 4 ∨ x.k = 5 then decide (x.n = 0) && x.b.isEmpty
 else if x.k = 6 then decide (x.n = 0)
 else if x.k = 7 ∨ x.k = 8 then (decide (x.n = 0) || decide (x.n = 1)) && x.b.isEmpty
 else false
def leafM (x : Nod) (loops : Int) : Bool :=
 x.a.isEmpty && x.b.isEmpty && (if x.k = 1 ∨ x.k = 2 then true else if x.k = 9 then decide (x.n = 0) && decide (0 < loops) else if x.k = 10 then decide (x.n = 0) && decide (loops = 0) else decide (x.n = 0))
def loopsM (x : Nod) (loops : Int) : Int := if x.k = 7 ∨ x.k = 8 then loops + 1 else loops
def mayM : Nat → Nod → Int → Bool
 | m, x, loops =>
  if x.k = 1 ∨ x.k = 2 ∨ x.k = 9 ∨ x.k = 10 ∨ x.k = 11 then leafM x loops
  else guardM x && (match m with
   | 0 => false
   | m + 1 => x.a.all (fun y => mayM m y (loopsM x loops)) && x.b.all (fun y => mayM m y (loopsM x loops)))
theorem okDs_of {l : List Nod} (h : ∀ x, x ∈ l → okD x = true) : okDs l = true := by
 induction l with
 | nil => rw [okDs]
 | cons x l ih => rw [okDs, h x (by simp), ih (fun y hy => h y (by simp [hy]))]; rfl
theorem okD_eq (x : Nod) : okD x =
  if x.k = 1 ∨ x.k = 2 ∨ x.k = 9 ∨ x.k = 10 ∨ x.k = 11 then x.a.isEmpty && x.b.isEmpty
  else if x.k = 3 then (decide (x.n = 1) || (decide (x.n = 0) && x.b.isEmpty)) && okDs x.a && okDs x.b
  else if x.k = 4 ∨ x.k = 5 then x.b.isEmpty && okDs x.a
  else if x.k = 6 then okDs x.a && okDs x.b
  else if x.k = 7 ∨ x.k = 8 then (decide (x.n = 0) || decide (x.n = 1)) && x.b.isEmpty && okDs x.a
  else false := by
 obtain ⟨k, n, a, b⟩ := x
 rw [okD]
 rfl
theorem may_ok : ∀ (m : Nat) (x : Nod) (loops : Int), mayM m x loops = true → okD x = true := by
 intro m
 induction m with
 | zero =>
  intro x loops h
  rw [mayM] at h
  split at h
  ·rename_i hk
   unfold leafM at h
   rw [Bool.and_eq_true, Bool.and_eq_true] at h
   rw [okD_eq, if_pos hk, h.1.1, h.1.2]
   rfl
  ·simp at h
 | succ m ih =>
  intro x loops h
  rw [mayM] at h
  split at h
  ·rename_i hk
   unfold leafM at h
   rw [Bool.and_eq_true, Bool.and_eq_true] at h
   rw [okD_eq, if_pos hk, h.1.1, h.1.2]
   rfl
  ·rename_i hk
   rw [Bool.and_eq_true, Bool.and_eq_true, List.all_eq_true, List.all_eq_true] at h
   obtain ⟨h1, h2, h3⟩ := h
   have oa : okDs x.a = true := okDs_of (fun y hy => ih y _ (h2 y hy))
   have ob : okDs x.b = true := okDs_of (fun y hy => ih y _ (h3 y hy))
   unfold guardM at h1
   rw [okD_eq, if_neg hk]
   by_cases e3 : x.k = 3
   ·rw [if_pos e3] at h1 ⊢
    rw [h1, oa, ob]
    rfl
   rw [if_neg e3] at h1 ⊢
   by_cases e4 : x.k = 4 ∨ x.k = 5
   ·rw [if_pos e4, Bool.and_eq_true] at h1
    rw [if_pos e4, h1.2, oa]
    rfl
   rw [if_neg e4] at h1 ⊢
   by_cases e6 : x.k = 6
   ·rw [if_pos e6, oa, ob]
    rfl
   rw [if_neg e6] at h1 ⊢
   by_cases e7 : x.k = 7 ∨ x.k = 8
   ·rw [if_pos e7] at h1 ⊢
    rw [h1, oa]
    rfl
   ·rw [if_neg e7] at h1
    cases h1
theorem cntL_nil : cntL [] = 0 := by rw [cntL]
end Go.Proofs.YtfphgelollhdhaaGreat.Gen
namespace Go.Proofs.YtfphgelollhdhaaGreat.Gen
open Go Go.RowKit
set_option maxRecDepth 100000
attribute [local irreducible] Decidable.decide awp ARun regK toK XS
end Go.Proofs.YtfphgelollhdhaaGreat.Gen
namespace Go.Proofs.YtfphgelollhdhaaGreat.Gen
open Go Go.RowKit
set_option maxRecDepth 100000
theorem all_no {α : Type} {p : α → Bool} {l : List α} {k : Nat} {x : α} (h : l[k]? = some x) (hx : p x = false) : l.all p = false := by
 rw [List.all_eq_false]
 exact ⟨x, List.mem_of_getElem? h, by rw [hx]; simp⟩
attribute [local irreducible] Decidable.decide awp ARun regK toK XS
end Go.Proofs.YtfphgelollhdhaaGreat.Gen
