/- uA7, uA8, uA9. -/
import Derived.Test.YtkmlmboclegpcaaW1
import Derived.Test.YtkmlmboclegpcaaW2
import Derived.Test.YtkmlmboclegpcaaW3
import Derived.Test.YtkmlmboclegpcaaW4
import Derived.Test.YtkmlmboclegpcaauW5
import Derived.Test.YtkmlmboclegpcaauW6
import Derived.Test.YtkmlmboclegpcaauW7
set_option linter.unusedVariables false
set_option linter.unusedSimpArgs false
namespace Go.Proofs.Ytkmlmboclegpcaa
open Go Go.RowKit
set_option maxRecDepth 100000
attribute [local irreducible] Decidable.decide awp ARun regK toK
theorem stable_small (L : List Tmr) (h : L.length < 20) : FnL Try.prog 68 [.own 1000 0 0 L.length, .val (.int .i64 (L.length : Nat)), .val (.func (.func 62) #[] #[])] [(6, L.map encTm)] (.tup []) [(sortT L).map encTm] := by
 have c1 := ins_l [] L [] L.length (by simp) (by omega)
 rw [List.append_nil, List.append_nil, List.nil_append, List.nil_append] at c1
 have e : ((([] : List Tmr).length + L.length : Nat) : Int) = (L.length : Nat) := by simp
 rw [e] at c1
 have d1 : decide ((20 : Int) ≤ (L.length : Nat)) = false := decide_eq_false (by omega)
 have d2 : decide ((20 : Int) < (L.length : Nat)) = false := decide_eq_false (by omega)
 refine FnL.of_awp (T := tt) (ok := tok) Try.func68 (by kernel_rfl) rfl (by kernel_rfl) (by kernel_rfl) (fun w0 st0 lent c0 => ?_)
 dsimp only [frOf, hpFrom, List.length_cons, List.length_nil]
 (repeat' (first | refine goA ?_ | refine awp_loopN 1 ?_ | refine LoopN.step ?_ | refine callR 1000 0 6 (L.map encTm) ((sortT L).map encTm) c1 (rows_closed _) (rows_closed _) (RelL.cons (.own (j := 0) 0 _ rfl) (RelL.cons (.wk (.same _) (.val _)) (RelL.cons (.wk (.same _) (.val _)) (RelL.cons (.wk (.same _) (.val _)) (RelL.nil _))))) (.same _ (.tup closedL_nil)) rfl rfl rfl rfl rfl ?_ | refine goB ?_ | fail))
 (first | exact ⟨_, ResL.nil, rfl, ⟨_, rfl, RlR.closed (rows_closed _)⟩, trivial⟩ | (refine awp_skip ?_; exact ⟨_, ResL.nil, rfl, ⟨_, rfl, RlR.closed (rows_closed _)⟩, trivial⟩))
theorem sort_small (L : List Tmr) (h : L.length < 20) : FnL Try.prog 61 [.own 1000 0 0 L.length, .val (.func (.func 62) #[] #[])] [(6, L.map encTm)] (.tup []) [(sortT L).map encTm] := by
 have c1 := stable_small L h
 refine FnL.of_awp (T := tt) (ok := tok) Try.func61 (by kernel_rfl) rfl (by kernel_rfl) (by kernel_rfl) (fun w0 st0 lent c0 => ?_)
 dsimp only [frOf, hpFrom, List.length_cons, List.length_nil]
 (repeat' (first | refine goA ?_ | refine callR 1000 0 6 (L.map encTm) ((sortT L).map encTm) c1 (rows_closed _) (rows_closed _) (RelL.cons (.own (j := 0) 0 _ rfl) (RelL.cons (.wk (.same _) (.val _)) (RelL.cons (.wk (.same _) (.val _)) (RelL.nil _)))) (.same _ (.tup closedL_nil)) rfl rfl rfl rfl rfl ?_ | refine goB ?_ | fail))
 (first | exact ⟨_, ResL.nil, rfl, ⟨_, rfl, RlR.closed (rows_closed _)⟩, trivial⟩ | (refine awp_skip ?_; exact ⟨_, ResL.nil, rfl, ⟨_, rfl, RlR.closed (rows_closed _)⟩, trivial⟩))
end Go.Proofs.Ytkmlmboclegpcaa
namespace Go.Proofs.Ytkmlmboclegpcaa
open Go Go.RowKit
set_option maxRecDepth 100000
def wNew (n : Int) : Wh := ⟨n, List.replicate 1024 []⟩
theorem wNew_len (n : Int) : (wNew n).sl.length = 1024 := List.length_replicate
theorem zW_cons : zW = .val (.int .i64 0) :: List.replicate 1024 (.sl 0 true []) := by kernel_rfl
def zWn (n : Int) : List AV := .val (.int .i64 n) :: List.replicate 1024 (.sl 0 true [])
theorem zWn_len (n : Int) : (zWn n).length = 1025 := by show (List.replicate 1024 (AV.sl 0 true [])).length + 1 = 1025; rw [List.length_replicate]
theorem zW_set (n : Int) : setF zW 0 [.val (.int .i64 n)] = some (zWn n) := by
 rw [setF_one (by rw [zW_len]; omega), zW_cons]
 rfl
theorem rl_rep {s : AS} {x y : AV} (h : Reif s x y) (n : Nat) : RL s (List.replicate n x) (List.replicate n y) := ⟨by rw [List.length_replicate, List.length_replicate], fun i a b ha hb => by
 have h1 := List.eq_of_mem_replicate (List.mem_of_getElem? ha)
 have h2 := List.eq_of_mem_replicate (List.mem_of_getElem? hb)
 rw [h1, h2]
 exact h⟩
theorem rl_new (s : AS) (n : Int) : RL s (zWn n) (encWh (wNew n)) := by
 have e : encWh (wNew n) = .val (.int .i64 n) :: List.replicate 1024 (encTs []) := by
  show AV.val (.int .i64 n) :: (List.replicate 1024 []).map encTs = _
  rw [List.map_replicate]
 rw [e]
 exact RL.cons (Reif.val _) (rl_rep Reif.nilSl _)
theorem rl_new0 (s : AS) : RL s zW (encWh (wNew 0)) := by
 rw [zW_cons]
 exact rl_new s 0
theorem wNew_at (n : Int) (k : Nat) : (wNew n).at k = [] := by
 unfold Wh.at wNew
 dsimp only
 rw [List.getElem?_replicate]
 split <;> rfl
theorem rel_new {n : Int} (h : 0 ≤ n) : Rel (wNew n) [] := ⟨h, wNew_len n, fun k t ht => (by rw [wNew_at] at ht; cases ht), List.Pairwise.nil, fun d i => by rw [wNew_at]⟩
def newB (n : Int) : Bool := decide (0 ≤ n ∧ n ≤ 2305843009213693952)
structure OkR (f : Int → Nat) (lo hi : Int) (w : Wh) (l : List Tmr) : Prop where
 r : RelP f lo hi w l
 n0 : 0 ≤ w.now
 n1 : w.now ≤ 4611686018427387904
 lo0 : 0 ≤ lo
 hi1 : hi ≤ 9223372036854775807
 ln : l.length ≤ 1000
theorem RelP.flen {f : Int → Nat} {lo hi : Int} {w : Wh} {l : List Tmr} (h : RelP f lo hi w l) : w.sl.flatten.length = l.length := by
 rw [← sortT_len w.sl.flatten]
 congr 1
 refine sorted_uniq (sortT_sorted _) h.so (fun d i => ?_)
 rw [sortT_filter, ← h.eq d i]
 refine flatten_filter w.sl _ (fun j hj => ?_)
 exact filter_none (fun t ht e => hj (by rw [← e]; exact (h.inn j t ht).1.symm))
theorem len_flat {α : Type} {m : List α} : ∀ {L : List (List α)}, m ∈ L → m.length ≤ L.flatten.length
 | x :: L, h => by
  rw [List.flatten_cons, List.length_append]
  rcases List.mem_cons.1 h with rfl | h
  ·omega
  ·have := len_flat h
   omega
theorem at_len (w : Wh) (k : Nat) : (w.at k).length ≤ w.sl.flatten.length := by
 unfold Wh.at
 cases h : w.sl[k]? with
 | none => exact Nat.zero_le _
 | some m => exact len_flat (List.mem_of_getElem? h)
theorem OkR.ok {f : Int → Nat} {lo hi : Int} {w : Wh} {l : List Tmr} (h : OkR f lo hi w l) : OkW w := ⟨h.r.len, h.n0, h.n1, fun k => by
 have h1 := at_len w k
 have h2 := h.r.flen
 have h3 := h.ln
 omega⟩
theorem take_flat {α : Type} (L : List (List α)) (k : Nat) : (L.take k).flatten.length ≤ L.flatten.length := by
 have := congrArg (fun l => l.flatten.length) (List.take_append_drop k L)
 simp only [List.flatten_append, List.length_append] at this
 omega
attribute [local irreducible] Decidable.decide awp ARun regK toK zW zBig28
theorem new_c (n : Int) : FnC Try.prog 35 [.val (.int .i64 n)] (.tup [.agg (encWh (wNew (if newB n = true then n else 0))), .val (.int .i64 (if newB n = true then 0 else -24))]) := by
 have hz := zWn_len n
 by_cases h1 : n < 0
 ·have d1 : decide (n < 0) = true := decide_eq_true h1
  have hb : ¬ (newB n = true) := by unfold newB; rw [decide_eq_true_eq]; omega
  rw [if_neg hb, if_neg hb]
  refine goF Try.func35 (closedL_cons (.val _) closedL_nil) (fun w0 st0 => ?_)
  dsimp only [frOf]
  (repeat' (first | refine storeW (t := 28) rfl rfl rfl rfl rfl zW_len zW_len rfl rfl ?_ | refine build0 (t := 28) rfl rfl zall zW_eq rfl rfl ?_ | refine allocW (t := 28) rfl zall zW_eq zW_len rfl rfl rfl ?_ | refine goA ?_ | refine goB ?_ | fail))
  exact awp_ret ⟨_, ResL.cons (ResA.agg rfl rfl rfl rfl rfl rfl (loadCs_all zW_len) (rl_new0 _)) (ResL.cons (ResA.tmp (.val _)) .nil), rfl⟩
 ·have d1 : decide (n < 0) = false := decide_eq_false h1
  by_cases h2 : 2305843009213693952 < n
  ·have d2 : decide (2305843009213693952 < n) = true := decide_eq_true h2
   have hb : ¬ (newB n = true) := by unfold newB; rw [decide_eq_true_eq]; omega
   rw [if_neg hb, if_neg hb]
   refine goF Try.func35 (closedL_cons (.val _) closedL_nil) (fun w0 st0 => ?_)
   dsimp only [frOf]
   (repeat' (first | refine storeW (t := 28) rfl rfl rfl rfl rfl zW_len zW_len rfl rfl ?_ | refine build0 (t := 28) rfl rfl zall zW_eq rfl rfl ?_ | refine allocW (t := 28) rfl zall zW_eq zW_len rfl rfl rfl ?_ | refine goA ?_ | refine goB ?_ | fail))
   exact awp_ret ⟨_, ResL.cons (ResA.agg rfl rfl rfl rfl rfl rfl (loadCs_all zW_len) (rl_new0 _)) (ResL.cons (ResA.tmp (.val _)) .nil), rfl⟩
  ·have d2 : decide (2305843009213693952 < n) = false := decide_eq_false h2
   have hb : newB n = true := by unfold newB; rw [decide_eq_true_eq]; omega
   rw [if_pos hb, if_pos hb]
   refine goF Try.func35 (closedL_cons (.val _) closedL_nil) (fun w0 st0 => ?_)
   dsimp only [frOf]
   (repeat' (first | refine storeW (t := 28) rfl rfl rfl rfl rfl hz zW_len rfl rfl ?_ | refine build1 (t := 28) rfl rfl zall rfl rfl zW_eq (zW_set n) rfl rfl ?_ | refine allocW (t := 28) rfl zall zW_eq zW_len rfl rfl rfl ?_ | refine goA ?_ | refine goB ?_ | fail))
   exact awp_ret ⟨_, ResL.cons (ResA.agg rfl rfl rfl rfl rfl rfl (loadCs_all hz) (rl_new _ n)) (ResL.cons (ResA.tmp (.val _)) .nil), rfl⟩
def addB (w : Wh) (t : Tmr) : Bool := decide (w.now < t.due ∧ t.due - w.now < 4294967296)
set_option maxHeartbeats 4000000 in
theorem add_c (w : Wh) (t : Tmr) (h : OkW w) (ht : In64 t.due) : FnC Try.prog 39 [.agg (encWh w), .agg (encTm t)] (.tup [.agg (encWh (if addB w t = true then putD w t else w)), .val (.int .i64 (if addB w t = true then 0 else -24))]) := by
 have hle := h.e
 have hcl := encWh_closed w
 have e0 : ∀ W', encWh w = W' → W'[0]? = some (.val (.int .i64 w.now)) := fun W' e => by rw [← e]; rfl
 by_cases h1 : t.due ≤ w.now
 ·have d1 : decide (t.due ≤ w.now) = true := decide_eq_true h1
  have hb : ¬ (addB w t = true) := by unfold addB; rw [decide_eq_true_eq]; omega
  rw [if_neg hb, if_neg hb]
  refine goF Try.func39 (closedL_cons (.agg (encWh_closed w)) (closedL_cons (.agg (encTm_closed t)) closedL_nil)) (fun w0 st0 => ?_)
  dsimp only [frOf]
  (repeat' (first | refine storeW (t := 28) rfl rfl rfl rfl rfl hle zW_len rfl rfl ?_ | refine loadW (t := 28) rfl rfl rfl rfl rfl hle rfl rfl ?_ | refine boxW (t := 28) rfl hle rfl rfl rfl ?_ | refine allocW (t := 28) rfl zall zW_eq zW_len rfl rfl rfl ?_ | refine goA ?_ | refine goB ?_ | fail))
  exact awp_ret ⟨_, ResL.cons (ResA.agg rfl rfl rfl rfl rfl rfl (loadCs_all hle) (RL.allClosed hcl)) (ResL.cons (ResA.tmp (.val _)) .nil), rfl⟩
 ·have d1 : decide (t.due ≤ w.now) = false := decide_eq_false h1
  have hn := h.n0
  have ht2 := ht.2
  by_cases h2 : 4294967296 ≤ t.due - w.now
  ·have d2 : decide (4294967296 ≤ t.due - w.now) = true := decide_eq_true h2
   have hb : ¬ (addB w t = true) := by unfold addB; rw [decide_eq_true_eq]; omega
   rw [if_neg hb, if_neg hb]
   refine goF Try.func39 (closedL_cons (.agg (encWh_closed w)) (closedL_cons (.agg (encTm_closed t)) closedL_nil)) (fun w0 st0 => ?_)
   dsimp only [frOf]
   (repeat' (first | refine storeW (t := 28) rfl rfl rfl rfl rfl hle zW_len rfl rfl ?_ | refine loadW (t := 28) rfl rfl rfl rfl rfl hle rfl rfl ?_ | refine boxW (t := 28) rfl hle rfl rfl rfl ?_ | refine allocW (t := 28) rfl zall zW_eq zW_len rfl rfl rfl ?_ | refine goA ?_ | refine goB ?_ | fail))
   exact awp_ret ⟨_, ResL.cons (ResA.agg rfl rfl rfl rfl rfl rfl (loadCs_all hle) (RL.allClosed hcl)) (ResL.cons (ResA.tmp (.val _)) .nil), rfl⟩
  ·have d2 : decide (4294967296 ≤ t.due - w.now) = false := decide_eq_false h2
   have hb : addB w t = true := by unfold addB; rw [decide_eq_true_eq]; omega
   rw [if_pos hb, if_pos hb]
   have c1 := put_c w t h (by omega)
   have hl2 : (encWh (putD w t)).length = 1025 := encWh_len (by show (w.sl.set _ _).length = _; rw [List.length_set]; exact h.len)
   have hcl2 := encWh_closed (putD w t)
   refine goF Try.func39 (closedL_cons (.agg (encWh_closed w)) (closedL_cons (.agg (encTm_closed t)) closedL_nil)) (fun w0 st0 => ?_)
   dsimp only [frOf]
   (repeat' (first | refine storeW (t := 28) rfl rfl rfl rfl rfl hl2 zW_len rfl rfl ?_ | refine loadW (t := 28) rfl rfl rfl rfl rfl hle rfl rfl ?_ | refine boxW (t := 28) rfl hle rfl rfl rfl ?_ | refine allocW (t := 28) rfl zall zW_eq zW_len rfl rfl rfl ?_ | refine goA ?_ | refine cX c1 ?_ | refine goB ?_ | fail))
   exact awp_ret ⟨_, ResL.cons (ResA.agg rfl rfl rfl rfl rfl rfl (loadCs_all hl2) (RL.allClosed hcl2)) (ResL.cons (ResA.tmp (.val _)) .nil), rfl⟩
end Go.Proofs.Ytkmlmboclegpcaa
namespace Go.Proofs.Ytkmlmboclegpcaa
open Go Go.RowKit
set_option maxRecDepth 100000
theorem RelP.down1 {f : Int → Nat} {lo hi : Int} {w : Wh} {l : List Tmr} (h : RelP f lo hi w l) (s : Nat) (hs : s < 1024) (m : List Tmr) (hm : ∀ t, t ∈ m → f t.due = s ∧ lo < t.due ∧ t.due < hi) :
  ∃ l', RelP (stepF f s w.now) lo hi (m.foldl putD ⟨w.now, w.sl.set s []⟩) l' ∧ (m.foldl putD ⟨w.now, w.sl.set s []⟩).now = w.now ∧ l'.length ≤ l.length + m.length := by
 have hsl : s < w.sl.length := by rw [h.len]; omega
 have hno : SortedT (l.filter (fun t => !decide (f t.due = s))) := sorted_filter _ h.so
 have k0 : RelP (stepF f s w.now) lo hi ⟨w.now, w.sl.set s []⟩ (l.filter (fun t => !decide (f t.due = s))) := by
  refine ⟨by show (w.sl.set _ _).length = _; rw [List.length_set]; exact h.len, fun k t ht => ?_, hno, fun d i => ?_⟩
  ·rw [at_set w _ _ _ _ hsl] at ht
   split at ht
   ·cases ht
   ·rename_i e
    obtain ⟨h1, h2⟩ := h.inn k t ht
    unfold stepF
    rw [if_neg (by rw [h1]; exact e)]
    exact ⟨h1, h2⟩
  ·by_cases hf : f d = s
   ·have e2 : (l.filter (fun t => !decide (f t.due = s))).filter (keyT d i) = [] := filter_none (fun t ht e => by
     have := (List.mem_filter.1 ht).2
     rw [e, hf] at this
     simp at this)
    rw [e2]
    refine filter_none (fun t ht e => ?_)
    rw [at_set w _ _ _ _ hsl] at ht
    split at ht
    ·cases ht
    ·rename_i e'
     have := (h.inn _ t ht).1
     rw [e, hf] at this
     exact e' this.symm
   ·have e2 : stepF f s w.now d = f d := if_neg hf
    rw [e2, at_set w _ _ _ _ hsl, if_neg hf, h.eq d i, List.filter_filter]
    refine List.filter_congr (fun t ht => ?_)
    by_cases hk : keyT d i t = true
    ·rw [hk, (keyT_iff.1 hk).1]
     simp [hf]
    ·have : keyT d i t = false := by simpa using hk
     rw [this]; rfl
 obtain ⟨k1, k2⟩ := k0.puts m (fun t ht => ⟨if_pos (hm t ht).1, (hm t ht).2⟩)
 refine ⟨_, k1, k2, ?_⟩
 rw [foldl_len]
 have := List.length_filter_le (fun t => !decide (f t.due = s)) l
 omega
theorem foldl_take_snoc {α β : Type} (f : β → α → β) (b : β) {l : List α} {k : Nat} {x : α} (h : l[k]? = some x) : (l.take (k + 1)).foldl f b = f ((l.take k).foldl f b) x := by
 rw [take_succ' h, List.foldl_append]
 rfl
attribute [local irreducible] Decidable.decide awp ARun regK toK zW zBig28
set_option maxHeartbeats 8000000 in
theorem down_c (f : Int → Nat) (lo hi : Int) (w : Wh) (l : List Tmr) (r : Nat) (hr : r ≤ 3) (h : OkR f lo hi w l) : FnC Try.prog 59 [.agg (encWh w), .val (.int .i64 (r : Nat))] (.agg (encWh (downD w r))) := by
 have hle := h.ok.e
 have hn0 := h.n0
 have hn1 := h.n1
 have c1 := digit_c w.now (r : Nat) ⟨h.n0, by omega⟩ (by omega)
 have hdl := dig_lt w.now r
 have edg : digI w.now ((r : Nat) : Int).toNat = ((digD w.now r : Nat) : Int) := by
  show digI w.now r = ((digI w.now r).toNat : Int)
  have : 0 ≤ digI w.now r := by unfold digI; split <;> omega
  omega
 rw [edg] at c1
 have hs : 256 * r + digD w.now r < 1024 := by omega
 have hF : 0 + 1 + ((r : Nat) : Int).toNat * 256 + ((digD w.now r : Nat) : Int).toNat * 1 = 256 * r + digD w.now r + 1 := by
  show 0 + 1 + r * 256 + digD w.now r * 1 = _
  omega
 have g1 := slot_get h.r.len hs hF
 have g2 := slot_set h.r.len hs hF ([] : List Tmr)
 have g2' : setF (encWh w) (0 + 1 + ((r : Nat) : Int).toNat * 256 + ((digD w.now r : Nat) : Int).toNat * 1) [.sl 0 true []] = some ((encWh w).set (256 * r + digD w.now r + 1) (.sl 0 true [])) := by
  rw [hF]
  exact setF_one (by rw [hle]; omega)
 have hm : ∀ t, t ∈ w.at (256 * r + digD w.now r) → f t.due = 256 * r + digD w.now r ∧ lo < t.due ∧ t.due < hi := fun t ht => h.r.inn _ t ht
 have hml : (w.at (256 * r + digD w.now r)).length ≤ 1000 := by
  have h1 := at_len w (256 * r + digD w.now r)
  have h2 := h.r.flen
  have h3 := h.ln
  omega
 have hdd : downD w r = (w.at (256 * r + digD w.now r)).foldl putD ⟨w.now, w.sl.set (256 * r + digD w.now r) []⟩ := rfl
 rw [hdd]
 have hok : ∀ j, OkW (((w.at (256 * r + digD w.now r)).take j).foldl putD ⟨w.now, w.sl.set (256 * r + digD w.now r) []⟩) := fun j => by
  obtain ⟨l', k1, k2, k3⟩ := h.r.down1 _ hs ((w.at (256 * r + digD w.now r)).take j) (fun t ht => hm t (List.mem_of_mem_take ht))
  have h3 := h.ln
  have h4 : ((w.at (256 * r + digD w.now r)).take j).length ≤ 1000 := by rw [List.length_take]; omega
  exact ⟨k1.len, by rw [k2]; exact hn0, by rw [k2]; exact hn1, fun k => by
   have h1 := at_len (((w.at (256 * r + digD w.now r)).take j).foldl putD ⟨w.now, w.sl.set (256 * r + digD w.now r) []⟩) k
   have h2 := k1.flen
   omega⟩
 have hlo := h.lo0
 have hhi := h.hi1
 have hrl : r < 4 := by omega
 have hcl := encWh_closed w
 have hset : (encWh w).set (256 * r + digD w.now r + 1) (encTs []) = encWh ⟨w.now, w.sl.set (256 * r + digD w.now r) []⟩ := by
  unfold encWh
  rw [List.set_cons_succ, List.map_set]
 have hwk : RelL Wk ((encWh w).set (256 * r + digD w.now r + 1) (.sl 0 true [])) (encWh ⟨w.now, w.sl.set (256 * r + digD w.now r) []⟩) := by
  rw [← hset]
  refine ⟨by rw [List.length_set, List.length_set], fun i a b ha hb => ?_⟩
  by_cases e : 256 * r + digD w.now r + 1 = i
  ·subst e
   have hlt : 256 * r + digD w.now r + 1 < (encWh w).length := by rw [hle]; omega
   rw [List.getElem?_set_self hlt] at ha hb
   rw [← Option.some.inj ha, ← Option.some.inj hb]
   exact Wk.nilSl
  ·rw [List.getElem?_set_ne e] at ha hb
   rw [ha] at hb
   rw [Option.some.inj hb]
   exact .same _
 clear hset g2 hdd
 generalize hm0 : w.at (256 * r + digD w.now r) = m at *
 generalize hw1 : (⟨w.now, w.sl.set (256 * r + digD w.now r) []⟩ : Wh) = w1 at *
 have hm' : ∀ t, t ∈ m → 0 ≤ t.due ∧ t.due ≤ 9223372036854775807 := fun t ht => by have := hm t ht; omega
 generalize hE : (encWh w).set (256 * r + digD w.now r + 1) (.sl 0 true []) = E at *
 have em : (((m.map encTm).length : Nat) : Int) = m.length := by rw [List.length_map]
 refine goF Try.func59 (closedL_cons (.agg hcl) (closedL_cons (.val _) closedL_nil)) (fun w0 st0 => ?_)
 dsimp only [frOf]
 (repeat' (first | refine goN ?_ | refine awp_region_ne 4 rfl (fun _ => hmix) ?_ | refine boxW (t := 28) rfl hle rfl rfl rfl ?_ | refine allocW (t := 28) rfl zall zW_eq zW_len rfl rfl rfl ?_ | refine ARun.o rfl ?_ | refine cX c1 ?_ | refine ARun.indexArr rfl rfl (by omega) (by omega) rfl rfl rfl rfl (guardF_spec rfl) ?_ | refine loadC rfl rfl rfl rfl rfl g1 rfl rfl ?_ | refine storeC rfl rfl rfl rfl rfl rfl g2' rfl ?_ | refine goB ?_ | ((fail_if_success refine ARun.plain rfl ?_); refine ARun.fork rfl rfl rfl (fun h => ?_) (fun h => ?_)) | refine awp_cond rfl (fun h => ?_) (fun h => ?_)))
 refine awp_wkH 2 [encWh w1] rfl rfl (RelR.cons hwk (RelR.nil _)) ?_
 (repeat' (first | refine goA ?_ | refine goB ?_ | fail))
 refine awp_loopT (T := Nat × Nat) (fun t => ⟨[(2, .ptr 2 0 0 0), (4, .ptr 4 1 0 0), (24, encTs m), (25, .val (.int .i64 ((m.map encTm).length : Nat))), (26, .val (.int .i64 (t.1 : Nat)))], [(2, some ⟨0, 1025, [encWh ((m.take t.1).foldl putD w1)]⟩), (4, some ⟨1, 1025, [zW]⟩)], t.2⟩) (fun t => t.1 ≤ m.length) (fun t => m.length - t.1) (0, _) (Nat.zero_le _) ⟨⟨rfl, rfl, rfl, rfl, rfl, trivial⟩, ⟨rfl, rfl, trivial⟩, Nat.le_refl _⟩ (fun t ht => ?_)
 obtain ⟨i, gc⟩ := t
 dsimp only at ht ⊢
 by_cases hlt : i < m.length
 ·have d1 : decide (((i : Nat) : Int) < ((m.map encTm).length : Nat)) = true := decide_eq_true (by omega)
  obtain ⟨x, hx⟩ : ∃ x, m[i]? = some x := ⟨_, List.getElem?_eq_getElem hlt⟩
  have hp : (m.map encTm)[((i : Nat) : Int).toNat]? = some (encTm x) := map_at hx
  have c2 := put_c ((m.take i).foldl putD w1) x (hok i) (hm' x (List.mem_of_getElem? hx))
  rw [← foldl_take_snoc putD w1 hx] at c2
  have hle1 := (hok i).e
  have hle2 := (hok (i + 1)).e
  generalize encWh ((m.take i).foldl putD w1) = W1 at *
  (repeat' (first | refine storeW (t := 28) rfl rfl rfl rfl rfl hle2 hle1 rfl rfl ?_ | refine loadW (t := 28) rfl rfl rfl rfl rfl hle1 rfl rfl ?_ | refine goA ?_ | refine ARun.indexAddr rfl rfl (by omega) (by with_reducible exact hp) rfl rfl rfl rfl rfl (guardF_spec rfl) ?_ | refine cX c2 ?_ | refine goB ?_ | fail))
  exact ⟨(i + 1, _), ⟨⟨rfl, rfl, rfl, rfl, rfl, trivial⟩, ⟨rfl, rfl, trivial⟩, Nat.le_refl _⟩, hlt, (by dsimp only; omega)⟩
 ·have d1 : decide (((i : Nat) : Int) < ((m.map encTm).length : Nat)) = false := decide_eq_false (by omega)
  have hle1 := (hok i).e
  have hfin : m.take i = m := List.take_of_length_le (by omega)
  rw [hfin] at hle1 ⊢
  have hclf := encWh_closed (m.foldl putD w1)
  generalize encWh (m.foldl putD w1) = W1 at *
  (repeat' (first | refine storeW (t := 28) rfl rfl rfl rfl rfl hle1 zW_len rfl rfl ?_ | refine loadW (t := 28) rfl rfl rfl rfl rfl hle1 rfl rfl ?_ | refine goA ?_ | refine goB ?_ | fail))
  exact awp_ret ⟨_, ResL.cons (ResA.agg rfl rfl rfl rfl rfl rfl (loadCs_all hle1) (RL.allClosed hclf)) .nil, rfl⟩
end Go.Proofs.Ytkmlmboclegpcaa
