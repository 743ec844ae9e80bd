/- gJ9, gJ10, gJ11, gJ12. -/
import Derived.Test.YtfphgelollhdhaaW1
import Derived.Test.YtfphgelollhdhaaW2
import Derived.Test.YtfphgelollhdhaaW3
import Derived.Test.YtfphgelollhdhaaW4
import Derived.Test.YtfphgelollhdhaagW5
import Derived.Test.YtfphgelollhdhaagW6
import Derived.Test.YtfphgelollhdhaagW7
set_option linter.unusedVariables false
set_option linter.unusedSimpArgs false
namespace Go.Proofs.Ytfphgelollhdhaa
open Go Go.RowKit
set_option maxRecDepth 100000
def codeS (self : Int) (t : List Nod) (pos : Int) : List Int := codL XS self t pos 0 ++ [XS.ex]
attribute [local irreducible] Decidable.decide awp ARun regK toK XS
set_option maxHeartbeats 8000000 in
theorem rrow_all : ∀ (m : Nat) (l : List Nod), cntL l < m → okDs l = true → cntL l ≤ 100000 → RrowC l := by
 intro m
 induction m with
 | zero => exact fun l h => absurd h (Nat.not_lt_zero _)
 | succ m ih =>
  intro l hm hok hc pos self en hp0
  have hl := cnt_len l
  refine FnM.of_awp (T := tt) (ok := tok) Try.func24 (by kernel_rfl) rfl (by kernel_rfl) (by kernel_rfl) rfl (fun w0 st0 lent c0 => ?_)
  dsimp only [frOf, hpFrom, List.length_cons, List.length_nil]
  (repeat' (first | refine goN ?_ | refine awp_region_ne 2 rfl (fun _ => hmix) ?_ | refine ARun.o rfl ?_ | refine goB ?_ | ((fail_if_success refine ARun.plain rfl ?_); refine ARun.fork rfl rfl rfl (fun h => ?_) (fun h => ?_)) | refine awp_cond rfl (fun h => ?_) (fun h => ?_)))
  refine awp_nilF 9 1000 rfl rfl rfl ?_
  (repeat' (first | refine goA ?_ | refine goB ?_ | ((fail_if_success refine ARun.plain rfl ?_); refine ARun.fork rfl rfl rfl (fun h => ?_) (fun h => ?_)) | refine awp_cond rfl (fun h => ?_) (fun h => ?_)))
  refine awp_loopT (T := Nat × List Int × Nat × Nat) (fun t => ⟨[(0, encTr l), (1, .val (.int .i64 pos)), (2, .val (.int .i64 self)), (3, .val (.int .i64 en)), (9, .own 1000 t.2.2.1 0 (t.2.1.map encI).length), (10, .val (.int .i64 (t.1 : Nat)))], [(1000, some ⟨t.2.2.1, 1, t.2.1.map encI⟩)], t.2.2.2⟩) (fun t => t.1 ≤ l.length ∧ t.2.1 = codL XS self (l.take t.1) pos en) (fun t => l.length - t.1) (0, [], 0, _) ⟨Nat.zero_le _, by rw [List.take_zero, codL]⟩ ⟨⟨rfl, rfl, rfl, rfl, rfl, rfl, trivial⟩, ⟨rfl, trivial⟩, Nat.le_refl _⟩ (fun t ht => ?_)
  obtain ⟨k, o, g, gc⟩ := t
  obtain ⟨ht, hA⟩ := ht
  dsimp only at ht hA ⊢
  by_cases hlt : k < l.length
  ·have hp : l[k]? = some l[k] := List.getElem?_eq_getElem hlt
   have hc2 : decide (((k : Nat) : Int) < (((l.map encD).length : Nat) : Int)) = true := by simp; omega
   generalize l[k] = x at hp
   have ok1 := okDs_mem hok x (List.mem_of_getElem? hp)
   have n1 := cnt_mem hp
   have n2 := cnt_ab x
   have q0 := sizS_bound (l.take k)
   have q2 := cnt_take l k
   have q1 : ((codL XS self (l.take k) pos en).length : Int) = sizS (l.take k) := codL_len _ _ _ _ _ (ok_take k hok)
   have q5 : (o.length : Int) = sizS (l.take k) := by rw [hA]; exact q1
   have zm := mlen o
   have b4 := oneS_bound x
   have zx : ((codN XS self x (wr (pos + 8 * (((o.map encI).length : Nat) : Int))) en).length : Int) = oneS x := codN_len _ _ _ _ _ ok1
   have zn := mlen (codN XS self x (wr (pos + 8 * (((o.map encI).length : Nat) : Int))) en)
   have c1 := rpart_m x ok1 (by omega) (ih x.a (by omega) (okD_ab ok1).1 (by omega)) (ih x.b (by omega) (okD_ab ok1).2 (by omega)) (wr (pos + 8 * (((o.map encI).length : Nat) : Int))) self en (wr_range _)
   have gx := get_nd hp
   have hN : codL XS self (l.take (k + 1)) pos en = o ++ codN XS self x (wr (pos + 8 * (((o.map encI).length : Nat) : Int))) en := by rw [cod_take XS self en hp hp0, hA, mlen, q1]
   generalize codN XS self x (wr (pos + 8 * (((o.map encI).length : Nat) : Int))) en = o2 at *
   have hM : o.map encI ++ o2.map encI = (o ++ o2).map encI := List.map_append.symm
   (repeat' (first | refine goA ?_ | refine callRo c1 rfl (by (repeat (refine RelL.cons (.wk (.same _) (by first | exact .val _ | exact closed_tr _ | exact .agg (NC_closed _))) ?_)); exact RelL.nil _) (map_cl _) rfl rfl rfl ?_ | refine ARun.indexAddr rfl rfl (by omega) (by with_reducible exact gx) rfl rfl rfl rfl rfl (guardF_spec rfl) ?_ | refine appO rfl ?_ | refine ARun.bin rfl rfl bin_add rfl (guardF_spec rfl) ?_ | refine goB ?_ | fail))
   rw [hM]
   exact ⟨(k + 1, o ++ o2, _, _), ⟨⟨rfl, rfl, rfl, rfl, rfl, succI k, trivial⟩, ⟨rfl, trivial⟩, Nat.le_refl _⟩, ⟨by dsimp only; omega, hN.symm⟩, (by dsimp only; omega)⟩
  ·have hkk : k = l.length := by omega
   subst hkk
   have hc2 : decide (((l.length : Nat) : Int) < (((l.map encD).length : Nat) : Int)) = false := by simp
   rw [List.take_length] at hA
   rw [← hA]
   (repeat' (first | refine goA ?_ | refine goB ?_ | fail))
   exact awp_ret (fin_r rfl rfl rfl rfl rfl)
theorem rcode_c (t : List Nod) (pos self : Int) (h : okDs t = true) (hc : cntL t ≤ 100000) (hp : In64 pos) : FnC Try.prog 13 [encTr t, .val (.int .i64 pos), .val (.int .i64 self)] (encS (codeS self t pos)) := by
 have k1 := rrow_all (cntL t + 1) t (Nat.lt_succ_self _) h hc pos self 0 hp
 have b1 := sizS_bound t
 have z1 : ((codL XS self t pos 0).length : Int) = sizS t := codL_len _ _ _ _ _ h
 have z2 := mlen (codL XS self t pos 0)
 unfold codeS
 generalize codL XS self t pos 0 = o at *
 have hM : o.map encI ++ [XS.ex].map encI = (o ++ [XS.ex]).map encI := List.map_append.symm
 refine goF Try.func13 (closedL_cons (closed_tr _) (closedL_cons (.val _) (closedL_cons (.val _) closedL_nil))) (fun w0 st0 => ?_)
 dsimp only [frOf]
 (repeat' (first | refine goA ?_ | refine callRo k1 rfl (by (repeat (refine RelL.cons (.wk (.same _) (by first | exact .val _ | exact closed_tr _ | exact .agg (NC_closed _))) ?_)); exact RelL.nil _) (map_cl _) rfl rfl rfl ?_ | refine cX rxt_ex ?_ | refine appO rfl ?_ | refine goB ?_ | fail))
 refine awp_ret ⟨_, ResL.cons (ResA.tmp (.owned rfl rfl rfl (own_closed_app encI_closed (encI_closed XS.ex)))) .nil, ?_⟩
 show AV.sl 1 false ((o ++ [XS.ex]).map encI) = _
 rw [← hM]
 rfl
set_option maxHeartbeats 8000000 in
theorem code_c (t : List Nod) (pos self : Int) (h : okDs t = true) (hc : cntL t ≤ 100000) (hp : In64 pos) : FnC Try.prog 12 [encTr t, .val (.int .i64 pos), .val (.int .i64 self)] (encS (codeS self t pos)) := by
 have k1 := row_all (cntL t + 1) t (Nat.lt_succ_self _) h pos self 0 [] (by simp only [List.length_nil]; omega)
 have e0 : wr (pos + 8 * ((([] : List Int).length : Nat) : Int)) = pos := by rw [List.length_nil, show pos + 8 * ((0 : Nat) : Int) = pos by omega]; exact wr_in hp
 rw [e0, List.nil_append] at k1
 have b1 := sizS_bound t
 have z1 : ((codL XS self t pos 0).length : Int) = sizS t := codL_len _ _ _ _ _ h
 have z2 := mlen (codL XS self t pos 0)
 unfold codeS
 have k2 := lay_m pos self 0 (codL XS self t pos 0) [XS.ex] (by omega) (by simp)
 generalize codL XS self t pos 0 = o at *
 have hcl : ∀ el x, el ∈ (o ++ [XS.ex]).map encI → x ∈ el → Closed x := map_cl _
 generalize o ++ [XS.ex] = o2 at *
 refine goF Try.func12 (closedL_cons (closed_tr _) (closedL_cons (.val _) (closedL_cons (.val _) closedL_nil))) (fun w0 st0 => ?_)
 dsimp only [frOf]
 (repeat' (first | refine goN ?_ | refine awp_region_ne 2 rfl (fun _ => hmix) ?_ | refine ARun.o rfl ?_ | refine goB ?_ | ((fail_if_success refine ARun.plain rfl ?_); refine ARun.fork rfl rfl rfl (fun h => ?_) (fun h => ?_)) | refine awp_cond rfl (fun h => ?_) (fun h => ?_)))
 refine awp_newRow 500 1 ?_
 refine awp_nilH 11 500 [LCb 500 _ pos self 0 (([] : List Int).map encI).length] rfl rfl rfl rfl (RelR.cons (RelL.cons (.same _) (RelL.cons (.same _) (RelL.cons (.same _) (RelL.cons (.nil _) (RelL.nil _))))) (RelR.nil _)) ?_
 (repeat' (first | refine goA ?_ | refine cX xt_ex ?_ | refine callLay 11 500 k1 rfl rfl rfl rfl rfl (by (repeat (refine RelL.cons (by first | exact .ptr (j := 0) 0 0 rfl | exact .wk (.same _) (by first | exact .val _ | exact closed_tr _ | exact .agg (NC_closed _)) | exact .wk (.weak _ _ _) (closed_s _)) ?_)); exact RelL.nil _) rfl rfl rfl ?_ | refine callLay 11 500 k2 rfl rfl rfl rfl rfl (by (repeat (refine RelL.cons (by first | exact .ptr (j := 0) 0 0 rfl | exact .wk (.same _) (by first | exact .val _ | exact closed_tr _ | exact .agg (NC_closed _)) | exact .wk (.weak _ _ _) (closed_s _)) ?_)); exact RelL.nil _) rfl rfl rfl ?_ | refine ARun.nilCheckP rfl rfl (guardF_spec rfl) ?_ | refine goB ?_ | fail))
 exact awp_ret ⟨_, ResL.cons (ResA.tmp (.owned rfl rfl rfl hcl)) .nil, rfl⟩
end Go.Proofs.Ytfphgelollhdhaa
namespace Go.Proofs.Ytfphgelollhdhaa
open Go Go.RowKit
set_option maxRecDepth 100000
mutual
def lenN : Nod → Prop
 | .mk _ _ a b => (a.length ≤ 2199023255552 ∧ lenA a) ∧ (b.length ≤ 2199023255552 ∧ lenA b)
def lenA : List Nod → Prop
 | [] => True
 | x :: l => lenN x ∧ lenA l
end
def lenL (l : List Nod) : Prop := l.length ≤ 2199023255552 ∧ lenA l
theorem lenA_mem : ∀ {l : List Nod}, lenA l → ∀ x, x ∈ l → lenL x.a ∧ lenL x.b
 | y :: l, h, x, hx => by
  rw [lenA] at h
  rcases List.mem_cons.1 hx with rfl | hx
  ·obtain ⟨k, n, a, b⟩ := x
   have := h.1
   rw [lenN] at this
   exact this
  ·exact lenA_mem h.2 x hx
theorem lenA_of : ∀ {l : List Nod}, (∀ x, x ∈ l → lenL x.a ∧ lenL x.b) → lenA l
 | [], _ => by rw [lenA]; trivial
 | .mk k n a b :: l, h => by
  rw [lenA, lenN]
  exact ⟨h (.mk k n a b) (by simp), lenA_of (fun x hx => h x (by simp [hx]))⟩
def dmax (d a : Int) : Int := if d < a then a else d
def deepD : Nat → List Nod → Int
 | 0, _ => 0
 | m + 1, l => l.foldl (fun d x => dmax (dmax d (1 + deepD m x.a)) (1 + deepD m x.b)) 0
theorem fold_take {α β : Type} (f : β → α → β) (b : β) {l : List α} {i : Nat} {x : α} (h : l[i]? = some x) : (l.take (i + 1)).foldl f b = f ((l.take i).foldl f b) x := by
 rw [take_one h, List.foldl_append]
 rfl
theorem deep_range : ∀ (m : Nat) (l : List Nod), 0 ≤ deepD m l ∧ deepD m l ≤ m
 | 0, l => by rw [deepD]; omega
 | m + 1, l => by
  rw [deepD]
  have key : ∀ (l : List Nod) (d : Int), 0 ≤ d ∧ d ≤ (m + 1 : Nat) → 0 ≤ l.foldl (fun d x => dmax (dmax d (1 + deepD m x.a)) (1 + deepD m x.b)) d ∧ l.foldl (fun d x => dmax (dmax d (1 + deepD m x.a)) (1 + deepD m x.b)) d ≤ (m + 1 : Nat) := by
   intro l
   induction l with
   | nil => exact fun d h => h
   | cons x l ih =>
    intro d h
    rw [List.foldl_cons]
    have h1 := deep_range m x.a
    have h2 := deep_range m x.b
    refine ih _ ?_
    unfold dmax
    (repeat' split) <;> omega
  exact key l 0 (by omega)
mutual
def goM : Int → List Nod → Int
 | n, [] => n
 | n, x :: r => if n < 300 then goM (wr (wr (n + manA x) + manB x)) r else n
def manA : Nod → Int
 | .mk _ _ a _ => goM a.length a
def manB : Nod → Int
 | .mk _ _ _ b => goM b.length b
end
def manL (l : List Nod) : Int := goM l.length l
theorem manA_eq (x : Nod) : manA x = manL x.a := by
 obtain ⟨k, n, a, b⟩ := x
 rw [manA]
 rfl
theorem manB_eq (x : Nod) : manB x = manL x.b := by
 obtain ⟨k, n, a, b⟩ := x
 rw [manB]
 rfl
theorem go_stop {n : Int} (h : ¬ n < 300) : ∀ l : List Nod, goM n l = n
 | [] => by rw [goM]
 | x :: l => by rw [goM, if_neg h]
theorem go_step {n : Int} {x : Nod} {l : List Nod} (h : n < 300) : goM n (x :: l) = goM (wr (wr (n + manL x.a) + manL x.b)) l := by
 rw [goM, if_pos h, manA_eq, manB_eq]
def guardM (x : Nod) : Bool :=
 if x.k = 3 then decide (x.n = 1) || (decide (x.n = 0) && x.b.isEmpty)
 else if x.k = 4 ∨ x.k = 5 then decide (x.n = 0) && x.b.isEmpty
 else if x.k = 6 then decide (x.n = 0)
 else if x.k = 7 ∨ x.k = 8 then (decide (x.n = 0) || decide (x.n = 1)) && x.b.isEmpty
 else false
def leafM (x : Nod) (loops : Int) : Bool :=
 x.a.isEmpty && x.b.isEmpty && (if x.k = 1 ∨ x.k = 2 then true else if x.k = 9 then decide (x.n = 0) && decide (0 < loops) else if x.k = 10 then decide (x.n = 0) && decide (loops = 0) else decide (x.n = 0))
def loopsM (x : Nod) (loops : Int) : Int := if x.k = 7 ∨ x.k = 8 then loops + 1 else loops
def mayM : Nat → Nod → Int → Bool
 | m, x, loops =>
  if x.k = 1 ∨ x.k = 2 ∨ x.k = 9 ∨ x.k = 10 ∨ x.k = 11 then leafM x loops
  else guardM x && (match m with
   | 0 => false
   | m + 1 => x.a.all (fun y => mayM m y (loopsM x loops)) && x.b.all (fun y => mayM m y (loopsM x loops)))
def mayL (l : List Nod) : Bool := l.all fun x => mayM 16 x 0
theorem okDs_of {l : List Nod} (h : ∀ x, x ∈ l → okD x = true) : okDs l = true := by
 induction l with
 | nil => rw [okDs]
 | cons x l ih => rw [okDs, h x (by simp), ih (fun y hy => h y (by simp [hy]))]; rfl
theorem okD_eq (x : Nod) : okD x =
  if x.k = 1 ∨ x.k = 2 ∨ x.k = 9 ∨ x.k = 10 ∨ x.k = 11 then x.a.isEmpty && x.b.isEmpty
  else if x.k = 3 then (decide (x.n = 1) || (decide (x.n = 0) && x.b.isEmpty)) && okDs x.a && okDs x.b
  else if x.k = 4 ∨ x.k = 5 then x.b.isEmpty && okDs x.a
  else if x.k = 6 then okDs x.a && okDs x.b
  else if x.k = 7 ∨ x.k = 8 then (decide (x.n = 0) || decide (x.n = 1)) && x.b.isEmpty && okDs x.a
  else false := by
 obtain ⟨k, n, a, b⟩ := x
 rw [okD]
 rfl
theorem may_ok : ∀ (m : Nat) (x : Nod) (loops : Int), mayM m x loops = true → okD x = true := by
 intro m
 induction m with
 | zero =>
  intro x loops h
  rw [mayM] at h
  split at h
  ·rename_i hk
   unfold leafM at h
   rw [Bool.and_eq_true, Bool.and_eq_true] at h
   rw [okD_eq, if_pos hk, h.1.1, h.1.2]
   rfl
  ·simp at h
 | succ m ih =>
  intro x loops h
  rw [mayM] at h
  split at h
  ·rename_i hk
   unfold leafM at h
   rw [Bool.and_eq_true, Bool.and_eq_true] at h
   rw [okD_eq, if_pos hk, h.1.1, h.1.2]
   rfl
  ·rename_i hk
   rw [Bool.and_eq_true, Bool.and_eq_true, List.all_eq_true, List.all_eq_true] at h
   obtain ⟨h1, h2, h3⟩ := h
   have oa : okDs x.a = true := okDs_of (fun y hy => ih y _ (h2 y hy))
   have ob : okDs x.b = true := okDs_of (fun y hy => ih y _ (h3 y hy))
   unfold guardM at h1
   rw [okD_eq, if_neg hk]
   by_cases e3 : x.k = 3
   ·rw [if_pos e3] at h1 ⊢
    rw [h1, oa, ob]
    rfl
   rw [if_neg e3] at h1 ⊢
   by_cases e4 : x.k = 4 ∨ x.k = 5
   ·rw [if_pos e4, Bool.and_eq_true] at h1
    rw [if_pos e4, h1.2, oa]
    rfl
   rw [if_neg e4] at h1 ⊢
   by_cases e6 : x.k = 6
   ·rw [if_pos e6, oa, ob]
    rfl
   rw [if_neg e6] at h1 ⊢
   by_cases e7 : x.k = 7 ∨ x.k = 8
   ·rw [if_pos e7] at h1 ⊢
    rw [h1, oa]
    rfl
   ·rw [if_neg e7] at h1
    cases h1
theorem mayL_ok {l : List Nod} (h : mayL l = true) : okDs l = true := okDs_of (fun x hx => may_ok 16 x 0 (List.all_eq_true.1 h x hx))
def topV : Nat → Int
 | 0 => 2199023255552
 | m + 1 => 300 + 2 * topV m
theorem topV_16 : topV 16 ≤ 9223372036854775807 := by decide
theorem topV_le : ∀ {m m' : Nat}, m ≤ m' → 2199023255552 ≤ topV m ∧ topV m ≤ topV m'
 | 0, 0, _ => ⟨by rw [topV]; omega, Int.le_refl _⟩
 | 0, m' + 1, _ => by
  have := topV_le (Nat.zero_le m')
  have e : topV 0 = 2199023255552 := rfl
  have e' : topV (m' + 1) = 300 + 2 * topV m' := rfl
  omega
 | m + 1, m' + 1, h => by
  have := topV_le (Nat.le_of_succ_le_succ h)
  have e : topV (m + 1) = 300 + 2 * topV m := rfl
  have e' : topV (m' + 1) = 300 + 2 * topV m' := rfl
  omega
theorem may_kids {m : Nat} {x : Nod} {loops : Int} (h : mayM m x loops = true) : (x.a = [] ∧ x.b = []) ∨ ∃ m', m = m' + 1 ∧ (∀ y, y ∈ x.a → mayM m' y (loopsM x loops) = true) ∧ (∀ y, y ∈ x.b → mayM m' y (loopsM x loops) = true) := by
 cases m with
 | zero =>
  rw [mayM] at h
  split at h
  ·unfold leafM at h
   simp only [Bool.and_eq_true, List.isEmpty_iff] at h
   exact .inl h.1
  ·simp at h
 | succ m =>
  rw [mayM] at h
  split at h
  ·unfold leafM at h
   simp only [Bool.and_eq_true, List.isEmpty_iff] at h
   exact .inl h.1
  ·rw [Bool.and_eq_true, Bool.and_eq_true, List.all_eq_true, List.all_eq_true] at h
   exact .inr ⟨m, rfl, h.2.1, h.2.2⟩
theorem manL_nil : manL [] = 0 := by
 unfold manL
 rw [goM]
 rfl
theorem cntL_nil : cntL [] = 0 := by rw [cntL]
theorem many_bound : ∀ (m : Nat) (hm : m ≤ 16) (l : List Nod), lenL l → (∀ x, x ∈ l → ∃ loops, mayM m x loops = true) → 0 ≤ manL l ∧ manL l ≤ topV m ∧ (manL l < 300 → (cntL l : Int) = manL l) := by
 intro m
 induction m with
 | zero =>
  intro _ l hl hx
  have key : ∀ (l : List Nod) (n : Int), (∀ x, x ∈ l → ∃ loops, mayM 0 x loops = true) → 0 ≤ n → n ≤ 2199023255552 → goM n l = n ∧ (cntL l : Int) = l.length := by
   intro l
   induction l with
   | nil => exact fun n _ _ _ => ⟨by rw [goM], by rw [cntL]; rfl⟩
   | cons x l ih =>
    intro n h h0 h1
    obtain ⟨lo, hm⟩ := h x (by simp)
    have hab : x.a = [] ∧ x.b = [] := by
     rcases may_kids hm with h | ⟨m', h, _⟩
     ·exact h
     ·omega
    have h2 := ih n (fun y hy => h y (by simp [hy])) h0 h1
    refine ⟨?_, ?_⟩
    ·by_cases hn : n < 300
     ·rw [go_step hn, hab.1, hab.2, manL_nil, show n + 0 = n by omega, wr_in (n := n) (by omega), show n + 0 = n by omega, wr_in (n := n) (by omega)]
      exact h2.1
     ·exact go_stop hn _
    ·obtain ⟨k, n', a, b⟩ := x
     obtain ⟨rfl, rfl⟩ : a = [] ∧ b = [] := hab
     rw [cntL, cntN, cntL_nil, List.length_cons]
     omega
  have hlen := hl.1
  have := key l l.length hx (by omega) (by omega)
  unfold manL
  rw [this.1]
  refine ⟨by omega, by rw [topV]; omega, fun _ => this.2⟩
 | succ m ih =>
  intro hm l hl hx
  have e' : topV (m + 1) = 300 + 2 * topV m := rfl
  have ht := (topV_le (m := m + 1) (m' := 16) hm).2
  have h16 := topV_16
  have h0 := (topV_le (m := m) (m' := 16) (by omega)).1
  have kid : ∀ x, x ∈ l → (0 ≤ manL x.a ∧ manL x.a ≤ topV m ∧ (manL x.a < 300 → (cntL x.a : Int) = manL x.a)) ∧ (0 ≤ manL x.b ∧ manL x.b ≤ topV m ∧ (manL x.b < 300 → (cntL x.b : Int) = manL x.b)) := fun x hxl => by
   obtain ⟨lo, hmx⟩ := hx x hxl
   have hlx := lenA_mem hl.2 x hxl
   rcases may_kids hmx with ⟨h1, h2⟩ | ⟨m', h1, h2, h3⟩
   ·rw [h1, h2, manL_nil, cntL_nil]
    exact ⟨⟨by omega, by omega, fun _ => rfl⟩, ⟨by omega, by omega, fun _ => rfl⟩⟩
   ·obtain rfl : m = m' := by omega
    exact ⟨ih (by omega) x.a hlx.1 (fun y hy => ⟨_, h2 y hy⟩), ih (by omega) x.b hlx.2 (fun y hy => ⟨_, h3 y hy⟩)⟩
  have key : ∀ (l' : List Nod) (n : Int), (∀ x, x ∈ l' → x ∈ l) → 0 ≤ n → n ≤ topV (m + 1) → n ≤ goM n l' ∧ goM n l' ≤ topV (m + 1) ∧ (goM n l' < 300 → (cntL l' : Int) = goM n l' - n + l'.length) := by
   intro l'
   induction l' with
   | nil =>
    intro n _ h1 h2
    rw [goM, cntL]
    exact ⟨Int.le_refl _, h2, fun _ => by simp⟩
   | cons x l' ih' =>
    intro n h h1 h2
    by_cases hn : n < 300
    ·obtain ⟨⟨a1, a2, a3⟩, ⟨b1, b2, b3⟩⟩ := kid x (h x (by simp))
     have r1 : wr (n + manL x.a) = n + manL x.a := wr_in (by omega)
     have r2 : wr (n + manL x.a + manL x.b) = n + manL x.a + manL x.b := wr_in (by omega)
     rw [go_step hn, r1, r2]
     obtain ⟨c1, c2, c3⟩ := ih' (n + manL x.a + manL x.b) (fun y hy => h y (by simp [hy])) (by omega) (by omega)
     refine ⟨by omega, c2, fun hlt => ?_⟩
     have d1 := c3 hlt
     have d2 := a3 (by omega)
     have d3 := b3 (by omega)
     obtain ⟨k, n', a, b⟩ := x
     rw [cntL, cntN, List.length_cons]
     simp only [Nod.a, Nod.b] at d1 d2 d3 ⊢
     omega
    ·rw [go_stop hn]
     exact ⟨Int.le_refl _, h2, fun h => absurd h hn⟩
  have hlen := hl.1
  obtain ⟨c1, c2, c3⟩ := key l l.length (fun x h => h) (by omega) (by omega)
  unfold manL
  exact ⟨by omega, c2, fun h => by have := c3 h; omega⟩
def fewD (l : List Nod) : Bool := decide (deepD 40 l < 40) && decide (manL l < 300)
theorem few_cnt {l : List Nod} (hl : lenL l) (hf : fewD l = true) (hm : mayL l = true) : okDs l = true ∧ cntL l < 300 := by
 refine ⟨mayL_ok hm, ?_⟩
 unfold fewD at hf
 rw [Bool.and_eq_true, decide_eq_true_eq, decide_eq_true_eq] at hf
 have := (many_bound 16 (Nat.le_refl _) l hl (fun x hx => ⟨0, List.all_eq_true.1 hm x hx⟩)).2.2 hf.2
 omega
end Go.Proofs.Ytfphgelollhdhaa
namespace Go.Proofs.Ytfphgelollhdhaa
open Go Go.RowKit
set_option maxRecDepth 100000
theorem len_of {l : List Nod} (h : lenL l) : l.length ≤ 2199023255552 := h.1
theorem drop_one {α : Type} {l : List α} {k : Nat} {x : α} (h : l[k]? = some x) : l.drop k = x :: l.drop (k + 1) := by
 rw [List.drop_eq_getElem_cons (List.getElem?_eq_some_iff.1 h).1, (List.getElem?_eq_some_iff.1 h).2]
attribute [local irreducible] Decidable.decide awp ARun regK toK XS
set_option maxHeartbeats 4000000 in
theorem deep_c : ∀ (m : Nat) (l : List Nod), m ≤ 40 → lenL l → FnC Try.prog 16 [encTr l, .val (.int .i64 (m : Nat))] (.val (.int .i64 (deepD m l))) := by
 intro m
 induction m with
 | zero =>
  intro l _ hl
  have hc : decide (((0 : Nat) : Int) < 1) = true := by simp
  rw [deepD]
  refine goF Try.func16 (closedL_cons (closed_tr _) (closedL_cons (.val _) closedL_nil)) (fun w0 st0 => ?_)
  dsimp only [frOf]
  (repeat' (first | refine goA ?_ | refine goB ?_ | fail))
  exact awp_ret ⟨_, ResL.cons (ResA.tmp (.val _)) .nil, rfl⟩
 | succ m ih =>
  intro l hm hl
  have hlen := len_of hl
  have hc : decide (((m + 1 : Nat) : Int) < 1) = false := decide_eq_false (by omega)
  have em : ((m + 1 : Nat) : Int) - 1 = (m : Nat) := by omega
  rw [deepD]
  refine goF Try.func16 (closedL_cons (closed_tr _) (closedL_cons (.val _) closedL_nil)) (fun w0 st0 => ?_)
  dsimp only [frOf]
  (repeat' (first | refine goA ?_ | refine goB ?_ | fail))
  refine awp_loopT (T := Nat × Int × Nat) (fun t => ⟨[(0, encTr l), (1, .val (.int .i64 ((m + 1 : Nat) : Int))), (5, .val (.int .i64 t.2.1)), (6, .val (.int .i64 (t.1 : Nat)))], [], t.2.2⟩) (fun t => t.1 ≤ l.length ∧ t.2.1 = (l.take t.1).foldl (fun d x => dmax (dmax d (1 + deepD m x.a)) (1 + deepD m x.b)) 0) (fun t => l.length - t.1) (0, 0, _) ⟨Nat.zero_le _, rfl⟩ ⟨⟨rfl, rfl, rfl, rfl, trivial⟩, trivial, Nat.le_refl _⟩ (fun t ht => ?_)
  obtain ⟨k, d, gc⟩ := t
  obtain ⟨ht, hA⟩ := ht
  dsimp only at ht hA ⊢
  by_cases hlt : k < l.length
  ·have hp : l[k]? = some l[k] := List.getElem?_eq_getElem hlt
   have hc2 : decide (((k : Nat) : Int) < (((l.map encD).length : Nat) : Int)) = true := by simp; omega
   generalize l[k] = x at hp
   have hx := lenA_mem hl.2 x (List.mem_of_getElem? hp)
   have gx := get_nd hp
   have c1 := ih x.a (by omega) hx.1
   have c2 := ih x.b (by omega) hx.2
   have r1 := deep_range m x.a
   have r2 := deep_range m x.b
   have hS := fold_take (fun d x => dmax (dmax d (1 + deepD m x.a)) (1 + deepD m x.b)) 0 hp
   rw [← hA] at hS
   rw [← em] at c1 c2
   generalize deepD m x.a = A at *
   generalize deepD m x.b = B at *
   by_cases h1 : d < 1 + A
   ·have d1 : decide (d < 1 + A) = true := decide_eq_true h1
    have m1 : dmax d (1 + A) = 1 + A := if_pos h1
    by_cases h2 : 1 + A < 1 + B
    ·have d2 : decide (1 + A < 1 + B) = true := decide_eq_true h2
     have m2 : dmax (1 + A) (1 + B) = 1 + B := if_pos h2
     (repeat' (first | refine goA ?_ | refine cX c1 ?_ | refine cX c2 ?_ | refine ARun.indexAddr rfl rfl (by omega) (by with_reducible exact gx) rfl rfl rfl rfl rfl (guardF_spec rfl) ?_ | refine goB ?_ | fail))
     exact ⟨(k + 1, 1 + B, _), ⟨⟨rfl, rfl, rfl, succI k, trivial⟩, trivial, Nat.le_refl _⟩, ⟨by dsimp only; omega, by dsimp only; rw [hS, m1, m2]⟩, (by dsimp only; omega)⟩
    ·have d2 : decide (1 + A < 1 + B) = false := decide_eq_false h2
     have m2 : dmax (1 + A) (1 + B) = 1 + A := if_neg h2
     (repeat' (first | refine goA ?_ | refine cX c1 ?_ | refine cX c2 ?_ | refine ARun.indexAddr rfl rfl (by omega) (by with_reducible exact gx) rfl rfl rfl rfl rfl (guardF_spec rfl) ?_ | refine goB ?_ | fail))
     exact ⟨(k + 1, 1 + A, _), ⟨⟨rfl, rfl, rfl, succI k, trivial⟩, trivial, Nat.le_refl _⟩, ⟨by dsimp only; omega, by dsimp only; rw [hS, m1, m2]⟩, (by dsimp only; omega)⟩
   ·have d1 : decide (d < 1 + A) = false := decide_eq_false h1
    have m1 : dmax d (1 + A) = d := if_neg h1
    by_cases h2 : d < 1 + B
    ·have d2 : decide (d < 1 + B) = true := decide_eq_true h2
     have m2 : dmax d (1 + B) = 1 + B := if_pos h2
     (repeat' (first | refine goA ?_ | refine cX c1 ?_ | refine cX c2 ?_ | refine ARun.indexAddr rfl rfl (by omega) (by with_reducible exact gx) rfl rfl rfl rfl rfl (guardF_spec rfl) ?_ | refine goB ?_ | fail))
     exact ⟨(k + 1, 1 + B, _), ⟨⟨rfl, rfl, rfl, succI k, trivial⟩, trivial, Nat.le_refl _⟩, ⟨by dsimp only; omega, by dsimp only; rw [hS, m1, m2]⟩, (by dsimp only; omega)⟩
    ·have d2 : decide (d < 1 + B) = false := decide_eq_false h2
     have m2 : dmax d (1 + B) = d := if_neg h2
     (repeat' (first | refine goA ?_ | refine cX c1 ?_ | refine cX c2 ?_ | refine ARun.indexAddr rfl rfl (by omega) (by with_reducible exact gx) rfl rfl rfl rfl rfl (guardF_spec rfl) ?_ | refine goB ?_ | fail))
     exact ⟨(k + 1, d, _), ⟨⟨rfl, rfl, rfl, succI k, trivial⟩, trivial, Nat.le_refl _⟩, ⟨by dsimp only; omega, by dsimp only; rw [hS, m1, m2]⟩, (by dsimp only; omega)⟩
  ·have hkk : k = l.length := by omega
   subst hkk
   have hc2 : decide (((l.length : Nat) : Int) < (((l.map encD).length : Nat) : Int)) = false := by simp
   rw [List.take_length] at hA
   rw [← hA]
   (repeat' (first | refine goA ?_ | refine goB ?_ | fail))
   exact awp_ret ⟨_, ResL.cons (ResA.tmp (.val _)) .nil, rfl⟩
set_option maxHeartbeats 4000000 in
theorem many_all : ∀ (m : Nat) (l : List Nod), cntL l < m → lenL l → FnC Try.prog 17 [encTr l, .val (.int .i64 300)] (.val (.int .i64 (manL l))) := by
 intro m
 induction m with
 | zero => exact fun l h => absurd h (Nat.not_lt_zero _)
 | succ m ih =>
  intro l hm hl
  have hlen := len_of hl
  have e0 : (((l.map encD).length : Nat) : Int) = l.length := by rw [List.length_map]
  refine goF Try.func17 (closedL_cons (closed_tr _) (closedL_cons (.val _) closedL_nil)) (fun w0 st0 => ?_)
  dsimp only [frOf]
  (repeat' (first | refine goA ?_ | refine goB ?_ | fail))
  refine awp_loopT (T := Nat × Int × Nat) (fun t => ⟨[(0, encTr l), (1, .val (.int .i64 300)), (5, .val (.int .i64 t.2.1)), (6, .val (.int .i64 (t.1 : Nat)))], [], t.2.2⟩) (fun t => t.1 ≤ l.length ∧ goM t.2.1 (l.drop t.1) = manL l) (fun t => l.length - t.1) (0, ((l.map encD).length : Nat), _) ⟨Nat.zero_le _, by dsimp only; rw [List.drop_zero, e0]; rfl⟩ ⟨⟨rfl, rfl, rfl, rfl, trivial⟩, trivial, Nat.le_refl _⟩ (fun t ht => ?_)
  obtain ⟨k, n, gc⟩ := t
  obtain ⟨ht, hA⟩ := ht
  dsimp only at ht hA ⊢
  by_cases hlt : k < l.length
  ·have hp : l[k]? = some l[k] := List.getElem?_eq_getElem hlt
   have hc2 : decide (((k : Nat) : Int) < (((l.map encD).length : Nat) : Int)) = true := by simp; omega
   generalize l[k] = x at hp
   have hx := lenA_mem hl.2 x (List.mem_of_getElem? hp)
   have gx := get_nd hp
   have n1 := cnt_mem hp
   have n2 := cnt_ab x
   have c1 := ih x.a (by omega) hx.1
   have c2 := ih x.b (by omega) hx.2
   rw [drop_one hp] at hA
   by_cases hn : n < 300
   ·have d1 : decide (n < 300) = true := decide_eq_true hn
    rw [go_step hn] at hA
    generalize manL x.a = A at *
    generalize manL x.b = B at *
    (repeat' (first | refine goA ?_ | refine cX c1 ?_ | refine cX c2 ?_ | refine ARun.indexAddr rfl rfl (by omega) (by with_reducible exact gx) rfl rfl rfl rfl rfl (guardF_spec rfl) ?_ | refine ARun.bin rfl rfl bin_add rfl (guardF_spec rfl) ?_ | refine goB ?_ | fail))
    exact ⟨(k + 1, _, _), ⟨⟨rfl, rfl, rfl, succI k, trivial⟩, trivial, Nat.le_refl _⟩, ⟨by dsimp only; omega, hA⟩, (by dsimp only; omega)⟩
   ·have d1 : decide (n < 300) = false := decide_eq_false hn
    rw [go_stop hn] at hA
    rw [← hA]
    (repeat' (first | refine goA ?_ | refine goB ?_ | fail))
    exact awp_ret ⟨_, ResL.cons (ResA.tmp (.val _)) .nil, rfl⟩
  ·have hkk : k = l.length := by omega
   subst hkk
   have hc2 : decide (((l.length : Nat) : Int) < (((l.map encD).length : Nat) : Int)) = false := by simp
   rw [List.drop_length, goM] at hA
   rw [← hA]
   (repeat' (first | refine goA ?_ | refine goB ?_ | fail))
   exact awp_ret ⟨_, ResL.cons (ResA.tmp (.val _)) .nil, rfl⟩
theorem few_c (l : List Nod) (hl : lenL l) : FnC Try.prog 7 [encTr l] (.val (.bool (fewD l))) := by
 have c1 := deep_c 40 l (Nat.le_refl _) hl
 have c2 := many_all (cntL l + 1) l (Nat.lt_succ_self _) hl
 unfold fewD
 generalize deepD 40 l = A at *
 generalize manL l = B at *
 by_cases h1 : A < 40
 ·have d1 : decide (A < 40) = true := decide_eq_true h1
  rw [d1, Bool.true_and]
  refine goF Try.func7 (closedL_cons (closed_tr _) closedL_nil) (fun w0 st0 => ?_)
  dsimp only [frOf]
  (repeat' (first | refine goA ?_ | refine cX c1 ?_ | refine cX c2 ?_ | refine goB ?_ | fail))
  exact awp_ret ⟨_, ResL.cons (ResA.tmp (.val _)) .nil, rfl⟩
 ·have d1 : decide (A < 40) = false := decide_eq_false h1
  rw [d1, Bool.false_and]
  refine goF Try.func7 (closedL_cons (closed_tr _) closedL_nil) (fun w0 st0 => ?_)
  dsimp only [frOf]
  (repeat' (first | refine goA ?_ | refine cX c1 ?_ | refine cX c2 ?_ | refine goB ?_ | fail))
  exact awp_ret ⟨_, ResL.cons (ResA.tmp (.val _)) .nil, rfl⟩
end Go.Proofs.Ytfphgelollhdhaa
namespace Go.Proofs.Ytfphgelollhdhaa
open Go Go.RowKit
set_option maxRecDepth 100000
def bareM (x : Nod) : Bool := x.a.isEmpty && x.b.isEmpty
def isLeaf (x : Nod) : Prop := x.k = 1 ∨ x.k = 2 ∨ x.k = 9 ∨ x.k = 10 ∨ x.k = 11
def kidsM : Nat → Nod → Int → Bool
 | 0, _, _ => false
 | m + 1, x, lo => x.a.all (fun y => mayM m y lo) && x.b.all (fun y => mayM m y lo)
theorem mayM_eq (m : Nat) (x : Nod) (loops : Int) : mayM m x loops = if x.k = 1 ∨ x.k = 2 ∨ x.k = 9 ∨ x.k = 10 ∨ x.k = 11 then leafM x loops else guardM x && kidsM m x (loopsM x loops) := by
 cases m <;> rfl
theorem emp_map (l : List Nod) : ((((l.map encD).length : Nat) : Int) == 0) = l.isEmpty := by
 cases l with
 | nil => rfl
 | cons x l =>
  rw [List.map_cons, List.length_cons]
  exact beq_eq_false_iff_ne.2 (by omega)
theorem emp_gt (l : List Nod) : decide ((0 : Int) < (((l.map encD).length : Nat) : Int)) = !l.isEmpty := by
 cases l with
 | nil => simp
 | cons x l =>
  rw [List.map_cons, List.length_cons]
  exact decide_eq_true (by omega)
theorem all_take {α : Type} {p : α → Bool} {l : List α} {k : Nat} {x : α} (h : l[k]? = some x) : (l.take (k + 1)).all p = ((l.take k).all p && p x) := by
 rw [take_one h, List.all_append]
 simp
theorem all_no {α : Type} {p : α → Bool} {l : List α} {k : Nat} {x : α} (h : l[k]? = some x) (hx : p x = false) : l.all p = false := by
 rw [List.all_eq_false]
 exact ⟨x, List.mem_of_getElem? h, by rw [hx]; simp⟩
theorem beq_dec (a b : Int) : (a == b) = decide (a = b) := rfl
attribute [local irreducible] Decidable.decide awp ARun regK toK XS
set_option maxHeartbeats 8000000 in
theorem may_all : ∀ (M m : Nat), m < M → ∀ (x : Nod) (loops : Int), m ≤ 16 → 0 ≤ loops ∧ loops ≤ 16 - (m : Int) → lenL x.a → lenL x.b → FnC Try.prog 18 [.agg (NC x), .val (.int .i64 (16 - (m : Int))), .val (.int .i64 loops)] (.val (.bool (mayM m x loops))) := by
  intro M
  induction M with
  | zero => exact fun m h => absurd h (Nat.not_lt_zero _)
  | succ M ih =>
    intro m hM x loops hm hlo la lb
    have ea := emp_map x.a
    have eb := emp_map x.b
    have eg := emp_gt x.b
    rw [mayM_eq]
    generalize hR : kidsM m x (loopsM x loops) = R
    refine goF Try.func18 (closedL_cons (.agg (NC_closed x)) (closedL_cons (.val _) (closedL_cons (.val _) closedL_nil))) (fun w0 st0 => ?_)
    dsimp only [frOf]
    (repeat' (first | refine goN ?_ | refine awp_region_ne 1 rfl (fun _ => hmix) ?_ | refine ARun.o rfl ?_ | refine goB ?_ | ((fail_if_success refine ARun.plain rfl ?_); refine ARun.fork rfl rfl rfl (fun h => ?_) (fun h => ?_)) | refine awp_cond rfl (fun h => ?_) (fun h => ?_)))
    refine awp_cut (T := Nat) (fun t => ⟨[(1, .val (.int .i64 (16 - (m : Int)))), (2, .val (.int .i64 loops)), (3, .ptr 3 0 0 0), (7, .val (.bool (bareM x)))], [(3, some ⟨0, 4, [NC x]⟩)], t⟩) (fun _ => True) ?_ (fun t1 _ => ?_)
    · unfold bareM
      cases hA : x.a.isEmpty
      · rw [hA] at ea
        rw [Bool.false_and]
        (repeat' (first | refine goA ?_ | refine goB ?_ | fail))
        exact ⟨_, ⟨⟨rfl, rfl, rfl, rfl, trivial⟩, ⟨rfl, trivial⟩, Nat.le_refl _⟩, trivial⟩
      · rw [hA] at ea
        rw [Bool.true_and, ← eb]
        (repeat' (first | refine goA ?_ | refine goB ?_ | fail))
        exact ⟨_, ⟨⟨rfl, rfl, rfl, rfl, trivial⟩, ⟨rfl, trivial⟩, Nat.le_refl _⟩, trivial⟩
    refine awp_seq ?_
    refine awp_cut (T := Nat) (fun t => ⟨[(1, .val (.int .i64 (16 - (m : Int)))), (2, .val (.int .i64 (loopsM x loops))), (3, .ptr 3 0 0 0)], [(3, some ⟨0, 4, [NC x]⟩)], t⟩) (fun _ => ¬ isLeaf x ∧ guardM x = true) ?_ (fun t3 hI => ?_)
    · (repeat' (first | refine goA ?_ | refine goB ?_ | ((fail_if_success refine ARun.plain rfl ?_); refine ARun.fork rfl rfl rfl (fun h => ?_) (fun h => ?_)) | refine awp_cond rfl (fun h => ?_) (fun h => ?_)))
      all_goals first
        | (refine awp_ret ⟨_, ResL.cons (ResA.tmp (.val _)) .nil, congrArg (fun b => AV.val (.bool b)) ?_⟩
           clear ih hR ea
           simp_all [leafM, guardM, bareM, isLeaf, beq_dec]
           done)
        | (refine ⟨_, ⟨⟨rfl, congrArg (fun n => AV.val (.int .i64 n)) (?_ : _ = loopsM x loops), rfl, trivial⟩, ⟨rfl, trivial⟩, Nat.le_refl _⟩, ?_⟩
           · clear ih hR ea
             simp_all [loopsM]
             done
           · clear ih hR ea
             simp_all [guardM, isLeaf]
             done)
        | skip
    · have hE : (if x.k = 1 ∨ x.k = 2 ∨ x.k = 9 ∨ x.k = 10 ∨ x.k = 11 then leafM x loops else guardM x && R) = R := (if_neg hI.1).trans (by rw [hI.2, Bool.true_and])
      rw [hE, ← hR]
      clear hE hR ea eb eg
      have hL : 0 ≤ loopsM x loops ∧ loopsM x loops ≤ 17 - (m : Int) := by
        unfold loopsM
        split <;> omega
      generalize loopsM x loops = L at *
      refine awp_seq ?_
      cases m with
      | zero =>
        have hd : decide ((16 : Int) ≤ 16 - ((0 : Nat) : Int)) = true := decide_eq_true (by omega)
        (repeat' (first | refine goA ?_ | refine goB ?_ | fail))
        exact awp_ret ⟨_, ResL.cons (ResA.tmp (.val _)) .nil, rfl⟩
      | succ m =>
        have hd : decide ((16 : Int) ≤ 16 - ((m + 1 : Nat) : Int)) = false := decide_eq_false (by omega)
        have eo : 16 - ((m + 1 : Nat) : Int) + 1 = 16 - (m : Int) := by omega
        have hlenA := la.1
        have hlenB := lb.1
        have hL : 0 ≤ L ∧ L ≤ 16 - (m : Int) := ⟨hL.1, by have := hL.2; omega⟩
        (repeat' (first | refine goA ?_ | refine goB ?_ | fail))
        refine awp_loopT (T := Nat × Nat) (fun t => ⟨[(1, .val (.int .i64 (16 - ((m + 1 : Nat) : Int)))), (2, .val (.int .i64 L)), (3, .ptr 3 0 0 0), (8, .val (.int .i64 (t.1 : Nat)))], [(3, some ⟨0, 4, [NC x]⟩)], t.2⟩) (fun t => t.1 ≤ x.a.length ∧ (x.a.take t.1).all (fun y => mayM m y L) = true) (fun t => x.a.length - t.1) (0, _) ⟨Nat.zero_le _, by rw [List.take_zero]; rfl⟩ ⟨⟨rfl, rfl, rfl, rfl, trivial⟩, ⟨rfl, trivial⟩, Nat.le_refl _⟩ (fun t ht => ?_)
        obtain ⟨k, gc⟩ := t
        obtain ⟨ht, hA⟩ := ht
        dsimp only at ht hA ⊢
        by_cases hlt : k < x.a.length
        · have hp : x.a[k]? = some x.a[k] := List.getElem?_eq_getElem hlt
          have hc2 : decide (((k : Nat) : Int) < (((x.a.map encD).length : Nat) : Int)) = true := by simp; omega
          generalize x.a[k] = y at hp
          have hy := lenA_mem la.2 y (List.mem_of_getElem? hp)
          have gx := get_nd hp
          have c1 := ih m (by omega) y L (by omega) hL hy.1 hy.2
          rw [← eo] at c1
          have hS := all_take (p := fun y => mayM m y L) hp
          cases hq : mayM m y L
          · rw [hq] at c1
            have hF := all_no (p := fun y => mayM m y L) hp hq
            have hRR : kidsM (m + 1) x L = false := by
              show (x.a.all _ && x.b.all _) = false
              rw [hF, Bool.false_and]
            rw [hRR]
            (repeat' (first | refine goA ?_ | refine cX c1 ?_ | refine ARun.indexAddr rfl rfl (by omega) (by with_reducible exact gx) rfl rfl rfl rfl rfl (guardF_spec rfl) ?_ | refine goB ?_ | fail))
            exact awp_ret ⟨_, ResL.cons (ResA.tmp (.val _)) .nil, rfl⟩
          · rw [hq] at c1
            (repeat' (first | refine goA ?_ | refine cX c1 ?_ | refine ARun.indexAddr rfl rfl (by omega) (by with_reducible exact gx) rfl rfl rfl rfl rfl (guardF_spec rfl) ?_ | refine goB ?_ | fail))
            refine ⟨(k + 1, _), ⟨⟨rfl, rfl, rfl, succI k, trivial⟩, ⟨rfl, trivial⟩, Nat.le_refl _⟩, ⟨by dsimp only; omega, ?_⟩, (by dsimp only; omega)⟩
            dsimp only
            rw [hS, hA, Bool.true_and]
            exact hq
        · have hkk : k = x.a.length := by omega
          subst hkk
          have hc2 : decide (((x.a.length : Nat) : Int) < (((x.a.map encD).length : Nat) : Int)) = false := by simp
          rw [List.take_length] at hA
          have hA1 := hA
          clear hA ht hlt
          (repeat' (first | refine goA ?_ | refine goB ?_ | fail))
          refine awp_loopT (T := Nat × Nat) (fun t => ⟨[(1, .val (.int .i64 (16 - ((m + 1 : Nat) : Int)))), (2, .val (.int .i64 L)), (3, .ptr 3 0 0 0), (10, .val (.int .i64 (t.1 : Nat)))], [(3, some ⟨0, 4, [NC x]⟩)], t.2⟩) (fun t => t.1 ≤ x.b.length ∧ (x.b.take t.1).all (fun y => mayM m y L) = true) (fun t => x.b.length - t.1) (0, _) ⟨Nat.zero_le _, by rw [List.take_zero]; rfl⟩ ⟨⟨rfl, rfl, rfl, rfl, trivial⟩, ⟨rfl, trivial⟩, Nat.le_refl _⟩ (fun t ht => ?_)
          obtain ⟨k, gc⟩ := t
          obtain ⟨ht, hA⟩ := ht
          dsimp only at ht hA ⊢
          by_cases hlt : k < x.b.length
          · have hp : x.b[k]? = some x.b[k] := List.getElem?_eq_getElem hlt
            have hc2 : decide (((k : Nat) : Int) < (((x.b.map encD).length : Nat) : Int)) = true := by simp; omega
            generalize x.b[k] = y at hp
            have hy := lenA_mem lb.2 y (List.mem_of_getElem? hp)
            have gx := get_nd hp
            have c1 := ih m (by omega) y L (by omega) hL hy.1 hy.2
            rw [← eo] at c1
            have hS := all_take (p := fun y => mayM m y L) hp
            cases hq : mayM m y L
            · rw [hq] at c1
              have hF := all_no (p := fun y => mayM m y L) hp hq
              have hRR : kidsM (m + 1) x L = false := by
                show (x.a.all _ && x.b.all _) = false
                rw [hF, Bool.and_false]
              rw [hRR]
              (repeat' (first | refine goA ?_ | refine cX c1 ?_ | refine ARun.indexAddr rfl rfl (by omega) (by with_reducible exact gx) rfl rfl rfl rfl rfl (guardF_spec rfl) ?_ | refine goB ?_ | fail))
              exact awp_ret ⟨_, ResL.cons (ResA.tmp (.val _)) .nil, rfl⟩
            · rw [hq] at c1
              (repeat' (first | refine goA ?_ | refine cX c1 ?_ | refine ARun.indexAddr rfl rfl (by omega) (by with_reducible exact gx) rfl rfl rfl rfl rfl (guardF_spec rfl) ?_ | refine goB ?_ | fail))
              refine ⟨(k + 1, _), ⟨⟨rfl, rfl, rfl, succI k, trivial⟩, ⟨rfl, trivial⟩, Nat.le_refl _⟩, ⟨by dsimp only; omega, ?_⟩, (by dsimp only; omega)⟩
              dsimp only
              rw [hS, hA, Bool.true_and]
              exact hq
          · have hkk : k = x.b.length := by omega
            subst hkk
            have hc2 : decide (((x.b.length : Nat) : Int) < (((x.b.map encD).length : Nat) : Int)) = false := by simp
            rw [List.take_length] at hA
            have hRR : kidsM (m + 1) x L = true := by
              show (x.a.all _ && x.b.all _) = true
              rw [hA1, hA]
              rfl
            rw [hRR]
            (repeat' (first | refine goA ?_ | refine goB ?_ | fail))
            exact awp_ret ⟨_, ResL.cons (ResA.tmp (.val _)) .nil, rfl⟩
theorem may_c (x : Nod) (la : lenL x.a) (lb : lenL x.b) : FnC Try.prog 18 [.agg (NC x), .val (.int .i64 0), .val (.int .i64 0)] (.val (.bool (mayM 16 x 0))) :=
 may_all 17 16 (by omega) x 0 (Nat.le_refl _) (by omega) la lb
set_option maxHeartbeats 4000000 in
theorem mayL_c (l : List Nod) (hl : lenL l) : FnC Try.prog 8 [encTr l] (.val (.bool (mayL l))) := by
 have hlen := len_of hl
 unfold mayL
 refine goF Try.func8 (closedL_cons (closed_tr _) closedL_nil) (fun w0 st0 => ?_)
 dsimp only [frOf]
 (repeat' (first | refine goA ?_ | refine goB ?_ | fail))
 refine awp_loopT (T := Nat × Nat) (fun t => ⟨[(0, encTr l), (3, .val (.int .i64 (t.1 : Nat)))], [], t.2⟩) (fun t => t.1 ≤ l.length ∧ (l.take t.1).all (fun y => mayM 16 y 0) = true) (fun t => l.length - t.1) (0, _) ⟨Nat.zero_le _, by rw [List.take_zero]; rfl⟩ ⟨⟨rfl, rfl, trivial⟩, trivial, Nat.le_refl _⟩ (fun t ht => ?_)
 obtain ⟨k, gc⟩ := t
 obtain ⟨ht, hA⟩ := ht
 dsimp only at ht hA ⊢
 by_cases hlt : k < l.length
 ·have hp : l[k]? = some l[k] := List.getElem?_eq_getElem hlt
  have hc2 : decide (((k : Nat) : Int) < (((l.map encD).length : Nat) : Int)) = true := by simp; omega
  generalize l[k] = y at hp
  have hy := lenA_mem hl.2 y (List.mem_of_getElem? hp)
  have gx := get_nd hp
  have c1 := may_c y hy.1 hy.2
  have hS := all_take (p := fun y => mayM 16 y 0) hp
  cases hq : mayM 16 y 0
  ·rw [hq] at c1
   rw [all_no (p := fun y => mayM 16 y 0) hp hq]
   (repeat' (first | refine goA ?_ | refine cX c1 ?_ | refine ARun.indexAddr rfl rfl (by omega) (by with_reducible exact gx) rfl rfl rfl rfl rfl (guardF_spec rfl) ?_ | refine goB ?_ | fail))
   exact awp_ret ⟨_, ResL.cons (ResA.tmp (.val _)) .nil, rfl⟩
  ·rw [hq] at c1
   (repeat' (first | refine goA ?_ | refine cX c1 ?_ | refine ARun.indexAddr rfl rfl (by omega) (by with_reducible exact gx) rfl rfl rfl rfl rfl (guardF_spec rfl) ?_ | refine goB ?_ | fail))
   refine ⟨(k + 1, _), ⟨⟨rfl, succI k, trivial⟩, trivial, Nat.le_refl _⟩, ⟨by dsimp only; omega, ?_⟩, (by dsimp only; omega)⟩
   dsimp only
   rw [hS, hA, Bool.true_and]
   exact hq
 ·have hkk : k = l.length := by omega
  subst hkk
  have hc2 : decide (((l.length : Nat) : Int) < (((l.map encD).length : Nat) : Int)) = false := by simp
  rw [List.take_length] at hA
  rw [hA]
  (repeat' (first | refine goA ?_ | refine goB ?_ | fail))
  exact awp_ret ⟨_, ResL.cons (ResA.tmp (.val _)) .nil, rfl⟩
end Go.Proofs.Ytfphgelollhdhaa
