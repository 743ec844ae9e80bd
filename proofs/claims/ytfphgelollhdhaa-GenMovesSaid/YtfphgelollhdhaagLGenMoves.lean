/- GenMoves returns true at every input, and leaves its arguments as they were. -/
import Derived.Test.YtfphgelollhdhaaW1
import Derived.Test.YtfphgelollhdhaaW2
import Derived.Test.YtfphgelollhdhaaW3
import Derived.Test.YtfphgelollhdhaaW4
import Derived.Test.YtfphgelollhdhaagW5
import Derived.Test.YtfphgelollhdhaagW6
import Derived.Test.YtfphgelollhdhaagW7
import Derived.Test.YtfphgelollhdhaagW8
import Derived.Test.YtfphgelollhdhaagW9
set_option linter.unusedVariables false
set_option linter.unusedSimpArgs false
namespace Go.Proofs.Ytfphgelollhdhaa
open Go Go.RowKit
set_option maxRecDepth 100000
def Mv (lo hi D u v : Int) : Prop := (lo ≤ u ∧ u ≤ hi ∧ u % 8 = 0 ∧ v = u + D) ∨ (u < 1000000 ∧ v = u)
def MvL (lo hi D : Int) : List Int → List Int → Prop
 | [], [] => True
 | u :: l, v :: l' => Mv lo hi D u v ∧ MvL lo hi D l l'
 | _, _ => False
theorem MvL.append {lo hi D : Int} : ∀ {a a' b b' : List Int}, MvL lo hi D a a' → MvL lo hi D b b' → MvL lo hi D (a ++ b) (a' ++ b')
 | [], [], _, _, _, h => h
 | _ :: _, _ :: _, _, _, h, k => ⟨h.1, MvL.append h.2 k⟩
 | [], _ :: _, _, _, h, _ => h.elim
 | _ :: _, [], _, _, h, _ => h.elim
theorem MvL.get {lo hi D : Int} : ∀ {a a' : List Int}, MvL lo hi D a a' → a'.length = a.length ∧ ∀ (i : Nat) (u : Int), a[i]? = some u → ∃ v, a'[i]? = some v ∧ Mv lo hi D u v
 | [], [], _ => ⟨rfl, fun i u h => by simp at h⟩
 | u :: l, v :: l', h => by
  obtain ⟨h1, h2⟩ := MvL.get h.2
  refine ⟨by simp [h1], fun i w hw => ?_⟩
  cases i with
  | zero =>
   simp only [List.getElem?_cons_zero, Option.some.injEq] at hw
   subst hw
   exact ⟨v, rfl, h.1⟩
  | succ i => exact h2 i w (by simpa using hw)
 | [], _ :: _, h => h.elim
 | _ :: _, [], h => h.elim
/- LEAVE stands in loops alone; numbers and words are small. -/
mutual
def smN : Nod → Bool → Prop
 | .mk k n a b, lo => (k ≤ 2 → n < 1000000) ∧ (k = 9 → lo = true) ∧ smL a (lo || decide (k = 7 ∨ k = 8)) ∧ smL b (lo || decide (k = 7 ∨ k = 8))
def smL : List Nod → Bool → Prop
 | [], _ => True
 | x :: l, lo => smN x lo ∧ smL l lo
end
theorem smN_eq (x : Nod) (lo : Bool) : smN x lo ↔ (x.k ≤ 2 → x.n < 1000000) ∧ (x.k = 9 → lo = true) ∧ smL x.a (lo || decide (x.k = 7 ∨ x.k = 8)) ∧ smL x.b (lo || decide (x.k = 7 ∨ x.k = 8)) := by
 obtain ⟨k, n, a, b⟩ := x
 rw [smN]
 rfl
theorem XS_small : XS.lit < 1000000 ∧ XS.zb < 1000000 ∧ XS.br < 1000000 ∧ XS.doo < 1000000 ∧ XS.qdo < 1000000 ∧ XS.lp < 1000000 ∧ XS.plp < 1000000 ∧ XS.unl < 1000000 ∧ XS.ex < 1000000 := by
 have key : ∀ s, xtD s < 1000000 := fun s => by
  have h := (idx_rng nmsV s 0).2
  have hl := len_nms
  rw [List.length_map] at hl
  rw [hl] at h
  unfold xtD
  omega
 unfold XS
 exact ⟨key _, key _, key _, key _, key _, key _, key _, key _, key _⟩
structure At (lo hi D pos sz en en' : Int) (lp : Bool) : Prop where
 l0 : 1000000 ≤ lo
 h0 : hi ≤ 1000000000000
 d0 : 0 ≤ D ∧ D ≤ 1000000000000 ∧ D % 8 = 0
 p0 : lo ≤ pos ∧ pos + 8 * sz ≤ hi ∧ pos % 8 = 0
 e0 : lp = true → lo ≤ en ∧ en ≤ hi ∧ en % 8 = 0 ∧ en' = en + D
def MvR (l : List Nod) : Prop := ∀ (lo hi D pos en en' : Int) (lp : Bool), okDs l = true → smL l lp → At lo hi D pos (sizS l) en en' lp → MvL lo hi D (codL XS 1 l pos en) (codL XS 1 l (pos + D) en')
theorem at_place {lo hi D pos sz en en' : Int} {lp : Bool} (h : At lo hi D pos sz en en' lp) {k : Int} (hk : 0 ≤ k ∧ k ≤ sz) : Mv lo hi D (wr (pos + 8 * k)) (wr (pos + D + 8 * k)) ∧ wr (pos + 8 * k) = pos + 8 * k ∧ wr (pos + D + 8 * k) = pos + 8 * k + D := by
 obtain ⟨h1, h2, h3, h4, h5⟩ := h
 have e1 : wr (pos + 8 * k) = pos + 8 * k := wr_in (by omega)
 have e2 : wr (pos + D + 8 * k) = pos + 8 * k + D := by rw [wr_in (by omega)]; omega
 refine ⟨?_, e1, e2⟩
 rw [e1, e2]
 exact .inl ⟨by omega, by omega, by omega, rfl⟩
theorem mv_c {lo hi D u : Int} (h : u < 1000000) : Mv lo hi D u u := .inr ⟨h, rfl⟩
theorem At.sub {lo hi D pos sz en en' : Int} {lp : Bool} (h : At lo hi D pos sz en en' lp) {k sz' : Int} (hk : 0 ≤ k ∧ 0 ≤ sz' ∧ k + sz' ≤ sz) : At lo hi D (pos + 8 * k) sz' en en' lp := by
 obtain ⟨h1, h2, h3, h4, h5⟩ := h
 exact ⟨h1, h2, h3, by omega, h5⟩
theorem mv_node (x : Nod) (ha : MvR x.a) (hb : MvR x.b) (lo hi D pos en en' : Int) (lp : Bool) (ok : okD x = true) (hs : smN x lp) (h : At lo hi D pos (oneS x) en en' lp) : MvL lo hi D (codN XS 1 x pos en) (codN XS 1 x (pos + D) en') := by
 obtain ⟨x1, x2, x3, x4, x5, x6, x7, x8, x9⟩ := XS_small
 rw [smN_eq] at hs
 obtain ⟨s1, s2, s3, s4⟩ := hs
 have b1 := sizS_bound x.a
 have b2 := sizS_bound x.b
 obtain ⟨oka, okb⟩ := okD_ab ok
 have p0 := at_place h (k := 0) (by have := oneS_bound x; omega)
 have pE := at_place h (k := oneS x) (by have := oneS_bound x; omega)
 rw [show pos + 8 * 0 = pos by omega, show pos + D + 8 * 0 = pos + D by omega] at p0
 have hp : Mv lo hi D pos (pos + D) := by
  have := p0.1
  rw [p0.2.1, p0.2.2] at this
  exact this
 have hone := oneS_eq x
 have sub : ∀ (k sz' : Int) (l : List Nod) (e e' : Int) (lq : Bool), MvR l → okDs l = true → smL l lq → sz' = sizS l → At lo hi D (pos + 8 * k) sz' e e' lq → 0 ≤ k → k ≤ oneS x → MvL lo hi D (codL XS 1 l (wr (pos + 8 * k)) e) (codL XS 1 l (wr (pos + D + 8 * k)) e') := fun k sz' l e e' lq hr h1 h2 h3 h4 h5 h6 => by
  obtain ⟨_, q1, q2⟩ := at_place h (k := k) ⟨h5, h6⟩
  rw [q1, q2]
  subst h3
  exact hr lo hi D _ e e' lq h1 h2 h4
 have sub0 : ∀ (l : List Nod) (lq : Bool), MvR l → okDs l = true → smL l lq → sizS l ≤ oneS x → (lq = true → lp = true) → (∀ z, At lo hi D pos z en en' lp → At lo hi D pos z en en' lq) → MvL lo hi D (codL XS 1 l pos en) (codL XS 1 l (pos + D) en') := fun l lq hr h1 h2 h3 _ h4 => by
  refine hr lo hi D pos en en' lq h1 h2 (h4 _ ?_)
  have := h.sub (k := 0) (sz' := sizS l) ⟨by omega, (sizS_bound l).1, by omega⟩
  rw [show pos + 8 * 0 = pos by omega] at this
  exact this
 rw [codN_eq, codN_eq]
 rcases okD_cases ok with ⟨hk, _, _⟩ | ⟨hk, hn⟩ | ⟨hk, hb0⟩ | hk | ⟨hk, hn, hb0⟩
 ·rcases hk with hk | hk | hk | hk | hk
  ·simp only [hk, if_true, reduceIte]
   exact ⟨mv_c x1, mv_c (s1 (by omega)), trivial⟩
  ·simp only [hk, Int.reduceEq, if_false, reduceIte]
   exact ⟨mv_c (s1 (by omega)), trivial⟩
  ·simp only [hk, Int.reduceEq, if_false, reduceIte, or_false]
   obtain ⟨e1, e2, e3, e4⟩ := h.e0 (s2 hk)
   exact ⟨mv_c x8, mv_c x3, .inl ⟨e1, e2, e3, e4⟩, trivial⟩
  ·simp only [hk, Int.reduceEq, if_false, reduceIte, or_false]
   exact ⟨mv_c x9, trivial⟩
  ·simp only [hk, Int.reduceEq, if_false, reduceIte, or_false]
   exact ⟨mv_c (by omega), trivial⟩
 ·have hlq : (lp || decide (x.k = 7 ∨ x.k = 8)) = lp := by simp [hk]
  rw [hlq] at s3 s4
  rcases hn with hn | ⟨hn, hb0⟩
  ·simp only [hk, hn, Int.reduceEq, if_false, if_true, reduceIte, or_false, false_or] at hone ⊢
   have q1 := sub 2 (sizS x.a) x.a en en' lp ha oka s3 rfl (h.sub (by omega)) (by omega) (by omega)
   have q2 := sub (4 + sizS x.a) (sizS x.b) x.b en en' lp hb okb s4 rfl (h.sub (by omega)) (by omega) (by omega)
   have q3 := (at_place h (k := 4 + sizS x.a) (by omega)).1
   exact ((MvL.append (a := [_, _]) (a' := [_, _]) ⟨mv_c x2, q3, trivial⟩ q1).append (b := [_, _]) (b' := [_, _]) ⟨mv_c x3, pE.1, trivial⟩).append q2
  ·simp only [hk, hn, Int.reduceEq, if_false, if_true, reduceIte, or_false, false_or] at hone ⊢
   have q1 := sub 2 (sizS x.a) x.a en en' lp ha oka s3 rfl (h.sub (by omega)) (by omega) (by omega)
   exact MvL.append (a := [_, _]) (a' := [_, _]) ⟨mv_c x2, pE.1, trivial⟩ q1
 ·have hlq : (lp || decide (x.k = 7 ∨ x.k = 8)) = lp := by rcases hk with hk | hk <;> simp [hk]
  rw [hlq] at s3 s4
  rcases hk with hk | hk
  ·simp only [hk, Int.reduceEq, if_false, if_true, reduceIte, or_false, false_or, true_or] at hone ⊢
   exact (sub0 x.a lp ha oka s3 (by omega) (fun h => h) (fun _ h => h)).append (b := [_, _]) (b' := [_, _]) ⟨mv_c x2, hp, trivial⟩
  ·simp only [hk, Int.reduceEq, if_false, if_true, reduceIte, or_false, false_or, or_true] at hone ⊢
   exact (sub0 x.a lp ha oka s3 (by omega) (fun h => h) (fun _ h => h)).append (b := [_, _]) (b' := [_, _]) ⟨mv_c x3, hp, trivial⟩
 ·have hlq : (lp || decide (x.k = 7 ∨ x.k = 8)) = lp := by simp [hk]
  rw [hlq] at s3 s4
  simp only [hk, Int.reduceEq, if_false, if_true, reduceIte, or_false, false_or] at hone ⊢
  have q1 := sub0 x.a lp ha oka s3 (by omega) (fun h => h) (fun _ h => h)
  have q2 := sub (sizS x.a + 2) (sizS x.b) x.b en en' lp hb okb s4 rfl (h.sub (by omega)) (by omega) (by omega)
  exact ((q1.append (b := [_, _]) (b' := [_, _]) ⟨mv_c x2, pE.1, trivial⟩).append q2).append (b := [_, _]) (b' := [_, _]) ⟨mv_c x3, hp, trivial⟩
 ·have hlq : (lp || decide (x.k = 7 ∨ x.k = 8)) = true := by rcases hk with hk | hk <;> simp [hk]
  rw [hlq] at s3
  have hE : ∀ z, 0 ≤ z → ∀ k, 0 ≤ k → k + z ≤ oneS x → At lo hi D (pos + 8 * k) z (wr (pos + 8 * oneS x)) (wr (pos + D + 8 * oneS x)) true := fun z hz k hk0 hkz => by
   obtain ⟨g1, g2, g3, g4, _⟩ := h
   refine ⟨g1, g2, g3, by omega, fun _ => ?_⟩
   rw [pE.2.1, pE.2.2]
   exact ⟨by omega, by omega, by omega, rfl⟩
  have hlpx : (if x.k = 8 then XS.plp else XS.lp) < 1000000 := by split <;> assumption
  rcases hn with hn | hn
  ·rcases hk with hk | hk <;>
   ·simp only [hk, hn, Int.reduceEq, if_false, if_true, reduceIte, or_false, false_or, true_or, or_true] at hone hlpx ⊢
    have q1 := sub 1 (sizS x.a) x.a _ _ true ha oka s3 rfl (hE _ b1.1 1 (by omega) (by omega)) (by omega) (by omega)
    have q2 := (at_place h (k := 1) (by omega)).1
    rw [show pos + 8 = pos + 8 * 1 by omega, show pos + D + 8 = pos + D + 8 * 1 by omega]
    exact (MvL.append (a := [_]) (a' := [_]) ⟨mv_c x4, trivial⟩ q1).append (b := [_, _]) (b' := [_, _]) ⟨mv_c hlpx, q2, trivial⟩
  ·rcases hk with hk | hk <;>
   ·simp only [hk, hn, Int.reduceEq, if_false, if_true, reduceIte, or_false, false_or, true_or, or_true] at hone hlpx ⊢
    have q1 := sub 2 (sizS x.a) x.a _ _ true ha oka s3 rfl (hE _ b1.1 2 (by omega) (by omega)) (by omega) (by omega)
    have q2 := (at_place h (k := 2) (by omega)).1
    rw [show pos + 16 = pos + 8 * 2 by omega, show pos + D + 16 = pos + D + 8 * 2 by omega]
    exact (MvL.append (a := [_, _]) (a' := [_, _]) ⟨mv_c x5, pE.1, trivial⟩ q1).append (b := [_, _]) (b' := [_, _]) ⟨mv_c hlpx, q2, trivial⟩
theorem mv_all : ∀ (m : Nat) (l : List Nod), cntL l < m → MvR l := by
 intro m
 induction m with
 | zero => exact fun l h => absurd h (Nat.not_lt_zero _)
 | succ m ih =>
  intro l
  induction l with
  | nil => exact fun _ lo hi D pos en en' lp _ _ _ => by rw [codL, codL]; trivial
  | cons x l ihl =>
   intro hc lo hi D pos en en' lp ok hs h
   rw [cntL] at hc
   have n2 := cnt_ab x
   rw [okDs, Bool.and_eq_true] at ok
   rw [smL] at hs
   rw [sizS] at h
   have c1 := oneS_bound x
   have c2 := sizS_bound l
   have h1 := h.sub (k := 0) (sz' := oneS x) (by omega)
   rw [show pos + 8 * 0 = pos by omega] at h1
   have q1 := mv_node x (ih x.a (by omega)) (ih x.b (by omega)) lo hi D pos en en' lp ok.1 hs.1 h1
   obtain ⟨_, e1, e2⟩ := at_place h (k := oneS x) (by omega)
   have q2 := ihl (by omega) lo hi D (pos + 8 * oneS x) en en' lp ok.2 hs.2 (h.sub (by omega))
   rw [codL, codL, e1, e2]
   exact q1.append q2
theorem mv_code {t : List Nod} (ok : okDs t = true) (hs : smL t false) (hc : cntL t ≤ 10000) {a a2 : Int} (h0 : 1000000 ≤ a ∧ a % 8 = 0 ∧ a ≤ 100000000) (h1 : a ≤ a2 ∧ a2 ≤ 1000000000 ∧ a2 % 8 = 0) : MvL a (a + 8 * (sizS t + 1)) (a2 - a) (codeS 1 t a) (codeS 1 t a2) := by
 have b := sizS_bound t
 have := mv_all (cntL t + 1) t (Nat.lt_succ_self _) a (a + 8 * (sizS t + 1)) (a2 - a) a 0 0 false ok hs ⟨by omega, by omega, by omega, by omega, fun h => by cases h⟩
 rw [show a + (a2 - a) = a2 by omega] at this
 unfold codeS
 exact this.append ⟨mv_c XS_small.2.2.2.2.2.2.2.2, trivial⟩
end Go.Proofs.Ytfphgelollhdhaa
namespace Go.Proofs.Ytfphgelollhdhaa
open Go Go.RowKit
set_option maxRecDepth 100000
def addF (x : Nod) (far : List Int) : List Int := if x.k ≤ 2 ∧ 1000000 ≤ x.n then far ++ [x.n] else far
mutual
def plA : Nod → List Int → List Int × Bool
 | .mk _ _ a _, far => plL a far
def plB : Nod → List Int → List Int × Bool
 | .mk _ _ _ b, far => plL b far
def plL : List Nod → List Int → List Int × Bool
 | [], far => (far, !far.isEmpty)
 | x :: l, far =>
  if (plA x (addF x far)).2 = true then ((plA x (addF x far)).1, true)
  else if (plB x (plA x (addF x far)).1).2 = true then ((plB x (plA x (addF x far)).1).1, true)
  else plL l (plB x (plA x (addF x far)).1).1
end
theorem plA_eq (x : Nod) (far : List Int) : plA x far = plL x.a far := by
 obtain ⟨k, n, a, b⟩ := x
 rw [plA]
 rfl
theorem plB_eq (x : Nod) (far : List Int) : plB x far = plL x.b far := by
 obtain ⟨k, n, a, b⟩ := x
 rw [plB]
 rfl
theorem plL_cons (x : Nod) (l : List Nod) (far : List Int) : plL (x :: l) far =
  if (plL x.a (addF x far)).2 = true then ((plL x.a (addF x far)).1, true)
  else if (plL x.b (plL x.a (addF x far)).1).2 = true then ((plL x.b (plL x.a (addF x far)).1).1, true)
  else plL l (plL x.b (plL x.a (addF x far)).1).1 := by
 rw [plL, plA_eq, plB_eq]
theorem plL_nil (far : List Int) : plL [] far = (far, !far.isEmpty) := by rw [plL]
theorem addF_len (x : Nod) (far : List Int) : (addF x far).length ≤ far.length + 1 := by
 unfold addF
 split
 ·rw [List.length_append]
  exact Nat.le_refl _
 ·omega
theorem pl_len : ∀ (m : Nat) (l : List Nod) (far : List Int), cntL l < m → (plL l far).1.length ≤ far.length + cntL l := by
 intro m
 induction m with
 | zero => exact fun l far h => absurd h (Nat.not_lt_zero _)
 | succ m ih =>
  intro l
  induction l with
  | nil => exact fun far _ => by rw [plL_nil]; exact Nat.le_add_right _ _
  | cons x l ihl =>
   intro far h
   rw [cntL] at h ⊢
   have n2 := cnt_ab x
   have q0 := addF_len x far
   have q1 := ih x.a (addF x far) (by omega)
   have q2 := ih x.b (plL x.a (addF x far)).1 (by omega)
   have q3 := ihl (plL x.b (plL x.a (addF x far)).1).1 (by omega)
   rw [plL_cons]
   split
   ·dsimp only
    omega
   ·split
    ·dsimp only
     omega
    ·omega
/- All numbers and words are small. -/
mutual
def nuN : Nod → Prop
 | .mk k n a b => (k ≤ 2 → n < 1000000) ∧ nuL a ∧ nuL b
def nuL : List Nod → Prop
 | [] => True
 | x :: l => nuN x ∧ nuL l
end
theorem nuN_eq (x : Nod) : nuN x ↔ (x.k ≤ 2 → x.n < 1000000) ∧ nuL x.a ∧ nuL x.b := by
 obtain ⟨k, n, a, b⟩ := x
 rw [nuN]
 rfl
theorem nuL_mem : ∀ {l : List Nod}, nuL l → ∀ x, x ∈ l → nuN x
 | y :: l, h, x, hx => by
  rw [nuL] at h
  rcases List.mem_cons.1 hx with rfl | hx
  ·exact h.1
  ·exact nuL_mem h.2 x hx
theorem pl_false : ∀ (m : Nat) (l : List Nod) (far : List Int), cntL l < m → (plL l far).2 = false → far = [] ∧ nuL l ∧ (plL l far).1 = [] := by
 intro m
 induction m with
 | zero => exact fun l far h => absurd h (Nat.not_lt_zero _)
 | succ m ih =>
  intro l
  induction l with
  | nil =>
   intro far _ h
   rw [plL_nil] at h ⊢
   have : far = [] := by simpa using h
   subst this
   exact ⟨rfl, by rw [nuL]; trivial, rfl⟩
  | cons x l ihl =>
   intro far h hf
   rw [cntL] at h
   have n2 := cnt_ab x
   rw [plL_cons] at hf ⊢
   split at hf
   ·cases hf
   ·rename_i h1
    rw [if_neg h1]
    split at hf
    ·cases hf
    ·rename_i h2
     rw [if_neg h2]
     obtain ⟨a1, a2, a3⟩ := ih x.a (addF x far) (by omega) (by simpa using h1)
     obtain ⟨b1, b2, b3⟩ := ih x.b _ (by omega) (by simpa using h2)
     obtain ⟨c1, c2, c3⟩ := ihl _ (by omega) hf
     have hc : ¬ (x.k ≤ 2 ∧ 1000000 ≤ x.n) := fun hc => by
      unfold addF at a1
      rw [if_pos hc] at a1
      simp at a1
     unfold addF at a1
     rw [if_neg hc] at a1
     exact ⟨a1, by rw [nuL, nuN_eq]; exact ⟨⟨fun hk => by omega, a2, b2⟩, c2⟩, c3⟩
theorem may_sm : ∀ (m : Nat) (x : Nod) (loops : Int), 0 ≤ loops → mayM m x loops = true → nuN x → smN x (decide (0 < loops)) := by
 intro m
 induction m with
 | zero =>
  intro x loops h0 h hn
  rw [nuN_eq] at hn
  rw [smN_eq]
  have hk := may_kids h
  rw [mayM_eq] at h
  rcases hk with ⟨ha, hb⟩ | ⟨m', e, _⟩
  ·rw [ha, hb]
   refine ⟨hn.1, fun h9 => ?_, by rw [smL]; trivial, by rw [smL]; trivial⟩
   rw [if_pos (by omega)] at h
   unfold leafM at h
   rw [h9] at h
   simp at h
   exact decide_eq_true h.2.2
  ·omega
 | succ m ih =>
  intro x loops h0 h hn
  rw [nuN_eq] at hn
  rw [smN_eq]
  have hk := may_kids h
  rw [mayM_eq] at h
  have h9 : x.k = 9 → decide (0 < loops) = true := fun h9 => by
   rw [if_pos (by omega)] at h
   unfold leafM at h
   rw [h9] at h
   simp at h
   exact decide_eq_true h.2.2
  rcases hk with ⟨ha, hb⟩ | ⟨m', e, ha, hb⟩
  ·rw [ha, hb]
   exact ⟨hn.1, h9, by rw [smL]; trivial, by rw [smL]; trivial⟩
  ·obtain rfl : m = m' := by omega
   have hl : 0 ≤ loopsM x loops := by
    unfold loopsM
    split <;> omega
   have hd : decide (0 < loopsM x loops) = (decide (0 < loops) || decide (x.k = 7 ∨ x.k = 8)) := by
    unfold loopsM
    by_cases hq : x.k = 7 ∨ x.k = 8
    ·rw [if_pos hq, decide_eq_true hq, Bool.or_true]
     exact decide_eq_true (by omega)
    ·rw [if_neg hq, decide_eq_false hq, Bool.or_false]
   have key : ∀ l : List Nod, (∀ y, y ∈ l → mayM m y (loopsM x loops) = true) → nuL l → smL l (decide (0 < loopsM x loops)) := by
    intro l
    induction l with
    | nil => exact fun _ _ => by rw [smL]; trivial
    | cons y l ihl =>
     intro h1 h2
     rw [nuL] at h2
     rw [smL]
     exact ⟨ih y _ hl (h1 y (by simp)) h2.1, ihl (fun z hz => h1 z (by simp [hz])) h2.2⟩
   rw [← hd]
   exact ⟨hn.1, h9, key _ ha hn.2.1, key _ hb hn.2.2⟩
theorem sm_of {t : List Nod} (hm : mayL t = true) (hn : nuL t) : smL t false := by
 have h := List.all_eq_true.1 hm
 induction t with
 | nil => rw [smL]; trivial
 | cons x l ih =>
  rw [nuL] at hn
  rw [smL]
  refine ⟨may_sm 16 x 0 (by omega) (h x (by simp)) hn.1, ih ?_ hn.2 (fun z hz => h z (by simp [hz]))⟩
  exact List.all_eq_true.2 (fun z hz => h z (by simp [hz]))
abbrev bsF (far : List Int) : List LB := [(1, [[.own 1001 1 0 (far.map encI).length]]), (1, far.map encI)]
abbrev bsG (far : List Int) : List (List (List AV)) := [[[.own 1001 1 0 (far.map encI).length]], far.map encI]
def PlC (l : List Nod) : Prop := ∀ far : List Int, far.length + cntL l ≤ 100000 → FnM Try.prog 14 [encTr l, .ptr 1000 0 0 0] (bsF far) (.val (.bool (plL l far).2)) (bsG (plL l far).1)
theorem fin_f {rs : Array ResultVar} {t g n : Nat} {r : Bool} {far : List Int} {x y els : List (List AV)} {s : AS} (hr : rs.toList = [.tmp t]) (h0 : lkA s.fr t = .val (.bool r)) (h1 : lkH s.hp 1000 = some ⟨0, 1, [[.own 1001 g 0 n]]⟩) (h2 : lkH s.hp 1001 = some ⟨g, 1, els⟩) (he : els = far.map encI) (hn : n = (far.map encI).length) :
  endsM rs (.val (.bool r)) [(1, x), (1, y)] (bsG far) s := by
 subst hn
 subst he
 exact ⟨1001, g, [.val (.bool r)], rfl, by rw [hr]; exact .cons (by rw [h0]; exact .reif (.val _)) .nil, rfl, ⟨_, h1, RelR.cons (RelL.cons (.row 0 _) (RelL.nil _)) (RelR.nil _)⟩, ⟨_, h2, RelR.id (fun el v q1 q2 => .reif (.closed _ (map_cl _ el v q1 q2)))⟩⟩
section
variable {P : Program} {T : Nat → Option TI} {ok : ∀ t ti, T t = some ti → tiOf P t = some ti} {nn : Nat} {w0 : World} {st0 lent : Nat → Prop} {rdd : Option Nat × Bool} {c00 : RC}
 {ops : Array Oper} {K : AS → List (List Nat × List Nat) → Prop} {k : Nat} {rest : List Oper} {fr : List (Nat × AV)} {hp : List (Nat × Option Blk)} {gc : Nat} {fps : List (List Nat × List Nat)}
 {d : Nat} {ty : TypeId} {pos : String} {after : Array Edge} {gd : Option (Nat × Bool)} {v : AV}
theorem callFar {fx : Operand} {args : Array Operand} {ats : Array TypeId} {f : FuncId} {cavs : List AV} {r : Bool} {far far' : List Int} (b bR : Nat) {g gR n : Nat} {eR : List (List AV)} (hF : FnM P f cavs (bsF far) (.val (.bool r)) (bsG far')) (hf : evA fr fx = .val (.func (.func f) #[] #[]))
  (hlk : lkH hp b = some ⟨g, 1, [[.own bR gR 0 n]]⟩) (hlkR : lkH hp bR = some ⟨gR, 1, eR⟩) (hn : n = (far.map encI).length) (he : eR = far.map encI)
  (ha : RelL (Ln [(b, g), (bR, gR)]) (args.toList.map (evA fr)) cavs) (hne : nodupB [b, bR] = true) (hd : Nat.blt d nn = true) (hg : guardF ops fr ⟨some d, .call ⟨.value fx, args, ats⟩, ty, pos, after, gd⟩ = some true)
  (nx : ARun ⟨P, T, ok, nn, w0, st0, lent, rdd, c00⟩ ops K (k + 1) rest ⟨(d, .val (.bool r)) :: fr, (b, some ⟨g, 1, [[.own bR (gc + k) 0 (far'.map encI).length]]⟩) :: (bR, some ⟨gc + k, 1, far'.map encI⟩) :: hp, gc⟩ (fps ++ [([b, bR], [b, bR])])) : ARun ⟨P, T, ok, nn, w0, st0, lent, rdd, c00⟩ ops K k (⟨some d, .call ⟨.value fx, args, ats⟩, ty, pos, after, gd⟩ :: rest) ⟨fr, hp, gc⟩ fps := by
 subst hn
 subst he
 exact callSt (dst := some d) b g 1 bR gR 1 [.own bR gR 0 (far.map encI).length] [.own bR (gc + k) 0 (far'.map encI).length] hF hf hlk hlkR ha hne (RelL.cons (.own (j := 1) 0 _ rfl) (RelL.nil _)) (RelL.cons (.own (j := 1) 0 _ rfl) (RelL.nil _)) (map_cl _) (map_cl _) (.same _ (.val _)) rfl rfl hd hg nx
end
theorem addF_yes {x : Nod} (far : List Int) (h1 : x.k ≤ 2) (h2 : 1000000 ≤ x.n) : addF x far = far ++ [x.n] := if_pos ⟨h1, h2⟩
theorem addF_no {x : Nod} (far : List Int) (h : ¬ (x.k ≤ 2 ∧ 1000000 ≤ x.n)) : addF x far = far := if_neg h
attribute [local irreducible] Decidable.decide awp ARun regK toK XS
set_option maxHeartbeats 8000000 in
theorem plain_all : ∀ (m : Nat) (l : List Nod), cntL l < m → lenL l → PlC l := by
 intro m
 induction m with
 | zero => exact fun l h => absurd h (Nat.not_lt_zero _)
 | succ m ih =>
  intro l hm hl far0 hfar0
  have hlen := len_of hl
  refine FnM.of_awp (T := tt) (ok := tok) Try.func14 (by kernel_rfl) rfl (by kernel_rfl) (by kernel_rfl) rfl (fun w0 st0 lent c0 => ?_)
  dsimp only [frOf, hpFrom, List.length_cons, List.length_nil]
  (repeat' (first | refine goA ?_ | refine goB ?_ | fail))
  refine awp_loopT (T := Nat × List Int × Nat × Nat) (fun t => ⟨[(0, encTr l), (1, .ptr 1000 0 0 0), (5, .val (.int .i64 (t.1 : Nat)))], [(1000, some ⟨0, 1, [[.own 1001 t.2.2.1 0 (t.2.1.map encI).length]]⟩), (1001, some ⟨t.2.2.1, 1, t.2.1.map encI⟩)], t.2.2.2⟩) (fun t => t.1 ≤ l.length ∧ plL (l.drop t.1) t.2.1 = plL l far0 ∧ t.2.1.length + cntL (l.drop t.1) ≤ 100000) (fun t => l.length - t.1) (0, far0, 1, _) ⟨Nat.zero_le _, by rw [List.drop_zero], by rw [List.drop_zero]; exact hfar0⟩ ⟨⟨rfl, rfl, rfl, trivial⟩, ⟨rfl, rfl, trivial⟩, Nat.le_refl _⟩ (fun t ht => ?_)
  obtain ⟨k, far, g, gc⟩ := t
  obtain ⟨ht, hA, hfl⟩ := ht
  dsimp only at ht hA hfl ⊢
  by_cases hlt : k < l.length
  ·have hp : l[k]? = some l[k] := List.getElem?_eq_getElem hlt
   have hc2 : decide (((k : Nat) : Int) < (((l.map encD).length : Nat) : Int)) = true := by simp; omega
   generalize l[k] = x at hp
   have hx := lenA_mem hl.2 x (List.mem_of_getElem? hp)
   have gx := get_nd hp
   have n1 := cnt_mem hp
   have n2 := cnt_ab x
   rw [drop_one hp] at hA hfl
   rw [cntL] at hfl
   rw [plL_cons] at hA
   have q0 := addF_len x far
   have qa := pl_len (m + 1) x.a (addF x far) (by omega)
   have qb := pl_len (m + 1) x.b (plL x.a (addF x far)).1 (by omega)
   have ca := ih x.a (by omega) hx.1 (addF x far) (by omega)
   have cb := ih x.b (by omega) hx.2 (plL x.a (addF x far)).1 (by omega)
   have hmf := mlen far
   by_cases hk : x.k ≤ 2 ∧ 1000000 ≤ x.n
   ·have d1 : decide (x.k ≤ 2) = true := decide_eq_true hk.1
    have d2 : decide ((1000000 : Int) ≤ x.n) = true := decide_eq_true hk.2
    rw [addF_yes far hk.1 hk.2] at ca cb hA qa qb
    have hM : far.map encI ++ [encI x.n] = (far ++ [x.n]).map encI := by rw [List.map_append]; rfl
    have hML : (far.map encI ++ [encI x.n]).length = ((far ++ [x.n]).map encI).length := by rw [hM]
    rw [List.length_append, List.length_singleton] at qa
    generalize hF0 : far ++ [x.n] = F at *
    cases h1 : (plL x.a F).2
    ·rw [h1] at ca hA
     rw [if_neg (by simp)] at hA
     cases h2 : (plL x.b (plL x.a F).1).2
     ·rw [h2] at cb hA
      rw [if_neg (by simp)] at hA
      (repeat' (first | refine goA ?_ | refine ARun.nilCheckP rfl rfl (guardF_spec rfl) ?_ | refine appO rfl ?_ | refine ARun.indexAddr rfl rfl (by omega) (by with_reducible exact gx) rfl rfl rfl rfl rfl (guardF_spec rfl) ?_ | refine callFar 1000 1001 ca rfl rfl rfl hML hM (RelL.cons (.wk (.same _) (closed_tr _)) (RelL.cons (.ptr (j := 0) 0 0 rfl) (RelL.nil _))) rfl rfl rfl ?_ | refine callFar 1000 1001 cb rfl rfl rfl rfl rfl (RelL.cons (.wk (.same _) (closed_tr _)) (RelL.cons (.ptr (j := 0) 0 0 rfl) (RelL.nil _))) rfl rfl rfl ?_ | refine goB ?_ | fail))
      exact ⟨(k + 1, (plL x.b (plL x.a F).1).1, _, _), ⟨⟨rfl, rfl, succI k, trivial⟩, ⟨rfl, rfl, trivial⟩, Nat.le_refl _⟩, ⟨by dsimp only; omega, hA, by dsimp only; omega⟩, (by dsimp only; omega)⟩
     ·rw [h2] at cb hA
      rw [if_pos rfl] at hA
      rw [← hA]
      (repeat' (first | refine goA ?_ | refine ARun.nilCheckP rfl rfl (guardF_spec rfl) ?_ | refine appO rfl ?_ | refine ARun.indexAddr rfl rfl (by omega) (by with_reducible exact gx) rfl rfl rfl rfl rfl (guardF_spec rfl) ?_ | refine callFar 1000 1001 ca rfl rfl rfl hML hM (RelL.cons (.wk (.same _) (closed_tr _)) (RelL.cons (.ptr (j := 0) 0 0 rfl) (RelL.nil _))) rfl rfl rfl ?_ | refine callFar 1000 1001 cb rfl rfl rfl rfl rfl (RelL.cons (.wk (.same _) (closed_tr _)) (RelL.cons (.ptr (j := 0) 0 0 rfl) (RelL.nil _))) rfl rfl rfl ?_ | refine goB ?_ | fail))
      exact awp_ret (fin_f rfl rfl rfl rfl rfl rfl)
    ·rw [h1] at ca hA
     rw [if_pos rfl] at hA
     rw [← hA]
     (repeat' (first | refine goA ?_ | refine ARun.nilCheckP rfl rfl (guardF_spec rfl) ?_ | refine appO rfl ?_ | refine ARun.indexAddr rfl rfl (by omega) (by with_reducible exact gx) rfl rfl rfl rfl rfl (guardF_spec rfl) ?_ | refine callFar 1000 1001 ca rfl rfl rfl hML hM (RelL.cons (.wk (.same _) (closed_tr _)) (RelL.cons (.ptr (j := 0) 0 0 rfl) (RelL.nil _))) rfl rfl rfl ?_ | refine callFar 1000 1001 cb rfl rfl rfl rfl rfl (RelL.cons (.wk (.same _) (closed_tr _)) (RelL.cons (.ptr (j := 0) 0 0 rfl) (RelL.nil _))) rfl rfl rfl ?_ | refine goB ?_ | fail))
     exact awp_ret (fin_f rfl rfl rfl rfl rfl rfl)
   ·rw [addF_no far hk] at ca cb hA qa qb
    generalize hF0 : far = F at *
    by_cases hk1 : x.k ≤ 2
    ·have d1 : decide (x.k ≤ 2) = true := decide_eq_true hk1
     have d2 : decide ((1000000 : Int) ≤ x.n) = false := decide_eq_false (fun h => hk ⟨hk1, h⟩)
     cases h1 : (plL x.a F).2
     ·rw [h1] at ca hA
      rw [if_neg (by simp)] at hA
      cases h2 : (plL x.b (plL x.a F).1).2
      ·rw [h2] at cb hA
       rw [if_neg (by simp)] at hA
       (repeat' (first | refine goA ?_ | refine ARun.nilCheckP rfl rfl (guardF_spec rfl) ?_ | refine appO rfl ?_ | refine ARun.indexAddr rfl rfl (by omega) (by with_reducible exact gx) rfl rfl rfl rfl rfl (guardF_spec rfl) ?_ | refine callFar 1000 1001 ca rfl rfl rfl rfl rfl (RelL.cons (.wk (.same _) (closed_tr _)) (RelL.cons (.ptr (j := 0) 0 0 rfl) (RelL.nil _))) rfl rfl rfl ?_ | refine callFar 1000 1001 cb rfl rfl rfl rfl rfl (RelL.cons (.wk (.same _) (closed_tr _)) (RelL.cons (.ptr (j := 0) 0 0 rfl) (RelL.nil _))) rfl rfl rfl ?_ | refine goB ?_ | fail))
       exact ⟨(k + 1, (plL x.b (plL x.a F).1).1, _, _), ⟨⟨rfl, rfl, succI k, trivial⟩, ⟨rfl, rfl, trivial⟩, Nat.le_refl _⟩, ⟨by dsimp only; omega, hA, by dsimp only; omega⟩, (by dsimp only; omega)⟩
      ·rw [h2] at cb hA
       rw [if_pos rfl] at hA
       rw [← hA]
       (repeat' (first | refine goA ?_ | refine ARun.nilCheckP rfl rfl (guardF_spec rfl) ?_ | refine appO rfl ?_ | refine ARun.indexAddr rfl rfl (by omega) (by with_reducible exact gx) rfl rfl rfl rfl rfl (guardF_spec rfl) ?_ | refine callFar 1000 1001 ca rfl rfl rfl rfl rfl (RelL.cons (.wk (.same _) (closed_tr _)) (RelL.cons (.ptr (j := 0) 0 0 rfl) (RelL.nil _))) rfl rfl rfl ?_ | refine callFar 1000 1001 cb rfl rfl rfl rfl rfl (RelL.cons (.wk (.same _) (closed_tr _)) (RelL.cons (.ptr (j := 0) 0 0 rfl) (RelL.nil _))) rfl rfl rfl ?_ | refine goB ?_ | fail))
       exact awp_ret (fin_f rfl rfl rfl rfl rfl rfl)
     ·rw [h1] at ca hA
      rw [if_pos rfl] at hA
      rw [← hA]
      (repeat' (first | refine goA ?_ | refine ARun.nilCheckP rfl rfl (guardF_spec rfl) ?_ | refine appO rfl ?_ | refine ARun.indexAddr rfl rfl (by omega) (by with_reducible exact gx) rfl rfl rfl rfl rfl (guardF_spec rfl) ?_ | refine callFar 1000 1001 ca rfl rfl rfl rfl rfl (RelL.cons (.wk (.same _) (closed_tr _)) (RelL.cons (.ptr (j := 0) 0 0 rfl) (RelL.nil _))) rfl rfl rfl ?_ | refine callFar 1000 1001 cb rfl rfl rfl rfl rfl (RelL.cons (.wk (.same _) (closed_tr _)) (RelL.cons (.ptr (j := 0) 0 0 rfl) (RelL.nil _))) rfl rfl rfl ?_ | refine goB ?_ | fail))
      exact awp_ret (fin_f rfl rfl rfl rfl rfl rfl)
    ·have d1 : decide (x.k ≤ 2) = false := decide_eq_false hk1
     cases h1 : (plL x.a F).2
     ·rw [h1] at ca hA
      rw [if_neg (by simp)] at hA
      cases h2 : (plL x.b (plL x.a F).1).2
      ·rw [h2] at cb hA
       rw [if_neg (by simp)] at hA
       (repeat' (first | refine goA ?_ | refine ARun.nilCheckP rfl rfl (guardF_spec rfl) ?_ | refine appO rfl ?_ | refine ARun.indexAddr rfl rfl (by omega) (by with_reducible exact gx) rfl rfl rfl rfl rfl (guardF_spec rfl) ?_ | refine callFar 1000 1001 ca rfl rfl rfl rfl rfl (RelL.cons (.wk (.same _) (closed_tr _)) (RelL.cons (.ptr (j := 0) 0 0 rfl) (RelL.nil _))) rfl rfl rfl ?_ | refine callFar 1000 1001 cb rfl rfl rfl rfl rfl (RelL.cons (.wk (.same _) (closed_tr _)) (RelL.cons (.ptr (j := 0) 0 0 rfl) (RelL.nil _))) rfl rfl rfl ?_ | refine goB ?_ | fail))
       exact ⟨(k + 1, (plL x.b (plL x.a F).1).1, _, _), ⟨⟨rfl, rfl, succI k, trivial⟩, ⟨rfl, rfl, trivial⟩, Nat.le_refl _⟩, ⟨by dsimp only; omega, hA, by dsimp only; omega⟩, (by dsimp only; omega)⟩
      ·rw [h2] at cb hA
       rw [if_pos rfl] at hA
       rw [← hA]
       (repeat' (first | refine goA ?_ | refine ARun.nilCheckP rfl rfl (guardF_spec rfl) ?_ | refine appO rfl ?_ | refine ARun.indexAddr rfl rfl (by omega) (by with_reducible exact gx) rfl rfl rfl rfl rfl (guardF_spec rfl) ?_ | refine callFar 1000 1001 ca rfl rfl rfl rfl rfl (RelL.cons (.wk (.same _) (closed_tr _)) (RelL.cons (.ptr (j := 0) 0 0 rfl) (RelL.nil _))) rfl rfl rfl ?_ | refine callFar 1000 1001 cb rfl rfl rfl rfl rfl (RelL.cons (.wk (.same _) (closed_tr _)) (RelL.cons (.ptr (j := 0) 0 0 rfl) (RelL.nil _))) rfl rfl rfl ?_ | refine goB ?_ | fail))
       exact awp_ret (fin_f rfl rfl rfl rfl rfl rfl)
     ·rw [h1] at ca hA
      rw [if_pos rfl] at hA
      rw [← hA]
      (repeat' (first | refine goA ?_ | refine ARun.nilCheckP rfl rfl (guardF_spec rfl) ?_ | refine appO rfl ?_ | refine ARun.indexAddr rfl rfl (by omega) (by with_reducible exact gx) rfl rfl rfl rfl rfl (guardF_spec rfl) ?_ | refine callFar 1000 1001 ca rfl rfl rfl rfl rfl (RelL.cons (.wk (.same _) (closed_tr _)) (RelL.cons (.ptr (j := 0) 0 0 rfl) (RelL.nil _))) rfl rfl rfl ?_ | refine callFar 1000 1001 cb rfl rfl rfl rfl rfl (RelL.cons (.wk (.same _) (closed_tr _)) (RelL.cons (.ptr (j := 0) 0 0 rfl) (RelL.nil _))) rfl rfl rfl ?_ | refine goB ?_ | fail))
      exact awp_ret (fin_f rfl rfl rfl rfl rfl rfl)
  ·have hkk : k = l.length := by omega
   subst hkk
   have hc2 : decide (((l.length : Nat) : Int) < (((l.map encD).length : Nat) : Int)) = false := by simp
   rw [List.drop_length, plL_nil] at hA
   rw [← hA]
   have eg : decide ((0 : Int) < (((far.map encI).length : Nat) : Int)) = !far.isEmpty := by
    cases far with
    | nil => simp
    | cons a far =>
     rw [List.map_cons, List.length_cons]
     exact decide_eq_true (by omega)
   dsimp only
   rw [← eg]
   (repeat' (first | refine goA ?_ | refine ARun.nilCheckP rfl rfl (guardF_spec rfl) ?_ | refine goB ?_ | fail))
   exact awp_ret (fin_f rfl rfl rfl rfl rfl rfl)
end Go.Proofs.Ytfphgelollhdhaa
namespace Go.Proofs.Ytfphgelollhdhaa
open Go Go.RowKit
set_option maxRecDepth 100000
theorem nil_inh : (([] : List Int).map encI).length = 0 := rfl
theorem get_i {l : List Int} {k : Nat} {u : Int} (h : l[k]? = some u) : (l.map encI)[((k : Nat) : Int).toNat]? = some [.val (.int .i64 u)] := get_map h
theorem tmod8 {u : Int} (h : 0 ≤ u) : u.tmod 8 = u % 8 := Int.tmod_eq_emod_of_nonneg h
attribute [local irreducible] Decidable.decide awp ARun regK toK XS
set_option maxHeartbeats 8000000 in
theorem moves_c (t : List Nod) (at_ by_ : Int) (lt : lenL t) (ha : 0 ≤ at_ ∧ at_ ≤ 65535) (hb : 0 ≤ by_ ∧ by_ ≤ 65535) : FnC Try.prog 4 [encTr t, .val (.int .u16 at_), .val (.int .u16 by_)] (.val (.bool true)) := by
 have c0 := shown_c
 have f1 := few_c t lt
 have m1 := mayL_c t lt
 cases h1 : fewD t
 ·rw [h1] at f1
  (refine goF Try.func4 (closedL_cons (closed_tr _) (closedL_cons (.val _) (closedL_cons (.val _) closedL_nil))) (fun w0 st0 => ?_); dsimp only [frOf])
  (repeat' (first | refine goA ?_ | refine cX c0 ?_ | refine cX f1 ?_ | refine cX m1 ?_ | refine goB ?_ | fail))
  exact awp_ret ⟨_, ResL.cons (ResA.tmp (.val _)) .nil, rfl⟩
 rw [h1] at f1
 cases h3 : mayL t
 ·rw [h3] at m1
  (refine goF Try.func4 (closedL_cons (closed_tr _) (closedL_cons (.val _) (closedL_cons (.val _) closedL_nil))) (fun w0 st0 => ?_); dsimp only [frOf])
  (repeat' (first | refine goA ?_ | refine cX c0 ?_ | refine cX f1 ?_ | refine cX m1 ?_ | refine goB ?_ | fail))
  exact awp_ret ⟨_, ResL.cons (ResA.tmp (.val _)) .nil, rfl⟩
 rw [h3] at m1
 obtain ⟨ok, nt⟩ := few_cnt lt h1 h3
 have bt := sizS_bound t
 obtain ⟨a, hA⟩ : ∃ a, a = 1000000 + 8 * at_ := ⟨_, rfl⟩
 obtain ⟨a2, hA2⟩ : ∃ a2, a2 = a + 8 * by_ := ⟨_, rfl⟩
 have st := siz_c t ok (by omega)
 unfold SizC at st
 have cx := code_c t a 1 ok (by omega) ⟨by omega, by omega⟩
 have cy := code_c t a2 1 ok (by omega) ⟨by omega, by omega⟩
 have za : ((codL XS 1 t a 0).length : Int) = sizS t := codL_len _ _ _ _ _ ok
 have zb : ((codL XS 1 t a2 0).length : Int) = sizS t := codL_len _ _ _ _ _ ok
 have cp := plain_all (cntL t + 1) t (Nat.lt_succ_self _) lt [] (by rw [List.length_nil]; omega)
 have hmv : (plL t []).2 = false → MvL a (a + 8 * (sizS t + 1)) (a2 - a) (codeS 1 t a) (codeS 1 t a2) := fun h => mv_code ok (sm_of h3 (pl_false (cntL t + 1) t [] (Nat.lt_succ_self _) h).2.1) (by omega) (by omega) (by omega)
 have hlx : (codeS 1 t a)[(codL XS 1 t a 0).length]? = some XS.ex := by
  unfold codeS
  rw [List.getElem?_append_right (Nat.le_refl _), Nat.sub_self]
  rfl
 have zx : ((codeS 1 t a).length : Int) = sizS t + 1 := by
  unfold codeS
  rw [List.length_append, List.length_singleton]
  omega
 have zy : ((codeS 1 t a2).length : Int) = sizS t + 1 := by
  unfold codeS
  rw [List.length_append, List.length_singleton]
  omega
 generalize codeS 1 t a = X at *
 generalize codeS 1 t a2 = Y at *
 have mx := mlen X
 have my := mlen Y
 unfold encS at cx cy
 have e1 : ((((X.map encI).length : Nat) : Int) != sizS t + 1) = false := by
  rw [mx, zx]
  simp
 have e2 : ((((Y.map encI).length : Nat) : Int) != (((X.map encI).length : Nat) : Int)) = false := by
  rw [mx, my, zx, zy]
  simp
 have e3 : decide ((((X.map encI).length : Nat) : Int) < 1) = false := decide_eq_false (by omega)
 have clx : Closed (.sl 1 false (X.map encI)) := closed_s X
 have hgL : (X.map encI)[((((X.map encI).length : Nat) : Int) - 1).toNat]? = some [.val (.int .i64 XS.ex)] := by
  rw [show ((((X.map encI).length : Nat) : Int) - 1).toNat = (codL XS 1 t a 0).length by omega, List.getElem?_map, hlx]
  rfl
 have hlX : X.length ≤ 10000 := by omega
 clear hlx za zb
 subst hA2
 subst hA
 cases hpl : (plL t []).2
 ·have hm := (hmv hpl).get
  obtain ⟨hYX, hget⟩ := hm
  rw [hpl] at cp
  generalize (plL t []).1 = far' at *
  clear hmv hpl
  (refine goF Try.func4 (closedL_cons (closed_tr _) (closedL_cons (.val _) (closedL_cons (.val _) closedL_nil))) (fun w0 st0 => ?_); dsimp only [frOf])
  (repeat' (first | refine goN ?_ | refine awp_region_ne 7 rfl (fun _ => hmix) ?_ | refine ARun.o rfl ?_ | refine cX c0 ?_ | refine cX f1 ?_ | refine cX m1 ?_ | refine ARun.convInt rfl rfl rfl rfl rfl (guardF_spec rfl) ?_ | refine goB ?_ | ((fail_if_success refine ARun.plain rfl ?_); refine ARun.fork rfl rfl rfl (fun h => ?_) (fun h => ?_)) | refine awp_cond rfl (fun h => ?_) (fun h => ?_)))
  refine awp_newRow 500 1 ?_
  refine awp_nilH 10 500 [[.own 500 _ 0 (([] : List Int).map encI).length]] rfl rfl rfl rfl (RelR.cons (RelL.cons (.nil _) (RelL.nil _)) (RelR.nil _)) ?_
  (repeat' (first | refine goA ?_ | refine cX cx ?_ | refine cX cy ?_ | refine cX st ?_ | refine callFar 10 500 cp rfl rfl rfl rfl rfl (RelL.cons (.wk (.same _) (closed_tr _)) (RelL.cons (.ptr (j := 0) 0 0 rfl) (RelL.nil _))) rfl rfl rfl ?_ | refine goB ?_ | fail))
  refine awp_loopT (T := Nat × Nat) (fun q => ⟨[(7, .val (.bool true)), (8, .val (.int .i64 (1000000 + 8 * at_))), (9, .val (.int .i64 (1000000 + 8 * at_ + 8 * by_))), (11, .sl 1 false (X.map encI)), (12, .sl 1 false (Y.map encI)), (13, .val (.int .i64 (q.1 : Nat)))], [], q.2⟩) (fun q => q.1 ≤ X.length) (fun q => X.length - q.1) (0, _) (Nat.zero_le _) ⟨⟨rfl, rfl, rfl, rfl, rfl, rfl, trivial⟩, trivial, Nat.le_refl _⟩ (fun q hq => ?_)
  obtain ⟨k, gc⟩ := q
  dsimp only at hq ⊢
  by_cases hlt : k < X.length
  ·have hp : X[k]? = some X[k] := List.getElem?_eq_getElem hlt
   have hc2 : decide (((k : Nat) : Int) < (((X.map encI).length : Nat) : Int)) = true := decide_eq_true (by omega)
   obtain ⟨v, hv, hM⟩ := hget k _ hp
   generalize X[k] = u at hp hM
   have gX := get_i hp
   have gY := get_i hv
   rcases hM with ⟨r1, r2, r3, r4⟩ | ⟨r1, r2⟩
   ·have d1 : decide (1000000 + 8 * at_ ≤ u) = true := decide_eq_true r1
    have d2 : decide (u ≤ 1000000 + 8 * at_ + 8 * (((X.map encI).length : Nat) : Int)) = true := decide_eq_true (by omega)
    have d3 : (u.tmod 8 == 0) = true := by rw [tmod8 (by omega), r3]; exact beq_self_eq_true _
    have d5 : (!(u.tmod 8 == 0)) = false := by rw [d3]; rfl
    have d4 : (v != u + (1000000 + 8 * at_ + 8 * by_) - (1000000 + 8 * at_)) = false := by
     rw [r4]
     simp
     omega
    (repeat' (first | refine goA ?_ | refine ARun.indexAddr rfl rfl (by omega) (by with_reducible exact gX) rfl rfl rfl rfl rfl (guardF_spec rfl) ?_ | refine ARun.indexAddr rfl rfl (by omega) (by with_reducible exact gY) rfl rfl rfl rfl rfl (guardF_spec rfl) ?_ | refine goB ?_ | fail))
    exact ⟨(k + 1, _), ⟨⟨rfl, rfl, rfl, rfl, rfl, succI k, trivial⟩, trivial, Nat.le_refl _⟩, by dsimp only; omega, (by dsimp only; omega)⟩
   ·have d1 : decide (1000000 + 8 * at_ ≤ u) = false := decide_eq_false (by omega)
    have d4 : (v != u) = false := by rw [r2]; simp
    (repeat' (first | refine goA ?_ | refine ARun.indexAddr rfl rfl (by omega) (by with_reducible exact gX) rfl rfl rfl rfl rfl (guardF_spec rfl) ?_ | refine ARun.indexAddr rfl rfl (by omega) (by with_reducible exact gY) rfl rfl rfl rfl rfl (guardF_spec rfl) ?_ | refine goB ?_ | fail))
    exact ⟨(k + 1, _), ⟨⟨rfl, rfl, rfl, rfl, rfl, succI k, trivial⟩, trivial, Nat.le_refl _⟩, by dsimp only; omega, (by dsimp only; omega)⟩
  ·have hkk : k = X.length := by omega
   subst hkk
   have hc2 : decide (((X.length : Nat) : Int) < (((X.map encI).length : Nat) : Int)) = false := decide_eq_false (by omega)
   (repeat' (first | refine goA ?_ | refine ARun.indexAddr rfl rfl (by omega) (by with_reducible exact hgL) rfl rfl rfl rfl rfl (guardF_spec rfl) ?_ | refine cX rxt_ex ?_ | refine goB ?_ | fail))
   exact awp_ret ⟨_, ResL.cons (ResA.tmp (.val _)) .nil, congrArg (fun b => AV.val (.bool b)) (beq_self_eq_true XS.ex).symm⟩
 ·rw [hpl] at cp
  generalize (plL t []).1 = far' at *
  clear hmv
  (refine goF Try.func4 (closedL_cons (closed_tr _) (closedL_cons (.val _) (closedL_cons (.val _) closedL_nil))) (fun w0 st0 => ?_); dsimp only [frOf])
  (repeat' (first | refine goN ?_ | refine awp_region_ne 7 rfl (fun _ => hmix) ?_ | refine ARun.o rfl ?_ | refine cX c0 ?_ | refine cX f1 ?_ | refine cX m1 ?_ | refine ARun.convInt rfl rfl rfl rfl rfl (guardF_spec rfl) ?_ | refine goB ?_ | ((fail_if_success refine ARun.plain rfl ?_); refine ARun.fork rfl rfl rfl (fun h => ?_) (fun h => ?_)) | refine awp_cond rfl (fun h => ?_) (fun h => ?_)))
  refine awp_newRow 500 1 ?_
  refine awp_nilH 10 500 [[.own 500 _ 0 (([] : List Int).map encI).length]] rfl rfl rfl rfl (RelR.cons (RelL.cons (.nil _) (RelL.nil _)) (RelR.nil _)) ?_
  (repeat' (first | refine goA ?_ | refine cX cx ?_ | refine cX cy ?_ | refine cX st ?_ | refine callFar 10 500 cp rfl rfl rfl rfl rfl (RelL.cons (.wk (.same _) (closed_tr _)) (RelL.cons (.ptr (j := 0) 0 0 rfl) (RelL.nil _))) rfl rfl rfl ?_ | refine goB ?_ | fail))
  exact awp_ret ⟨_, ResL.cons (ResA.tmp (.val _)) .nil, rfl⟩
end Go.Proofs.Ytfphgelollhdhaa
namespace Go.Proofs.Ytfphgelollhdhaa
open Go Go.RowKit Go.ChangeShapes Go.WideShapes Go.Deep Go.Proofs.Ytfphgelollhdhaa
set_option maxRecDepth 100000
section
variable {H : Type} {encT : TypeId × Value → H} {w : World} {base : Nat} {spare : Nat → Bool} {held : Bool}
theorem arg_u16 {r : Reach} {b0 : Nat} {v : Value} {d : DataW H} {p : List MemPlace} (hv : Value.okWide Try.prog w r b0 30 v)
  (h : DataW.Trod encT Try.prog w base spare held 30 v d p) : ∃ a, Rep (still w) w (.val (.int .u16 a)) v ∧ (0 ≤ a ∧ a ≤ 65535) := by
 obtain ⟨n, rfl⟩ := okWide_int Try.underlying30 hv
 exact arg_one (enc := fun a => .val (.int .u16 a)) rfl h (opens_u16 Try.underlying30)
end
theorem genMoves_lifted (os : Os) (started : os.Started) (H : Type) (enc : TypeId × Value → H) :
  ReturnsInHanded {} Try.checked os 4 .any (Rows.genMovesSpec.pre6 enc Try.prog Try.f4 Rows.genMovesRow.domain false) (Rows.genMovesSpec.post enc Try.prog Try.f4 false true false false) := by
 refine returnsInHanded_of_change_sized (C := Try.checked) own_knob started (by kernel_rfl) Try.func4
  (ChangeSpec.witness6 (enc := enc) (C := Try.checked) false ⟨#[], #[.slice none 0 0, .int .u16 0, .int .u16 0], []⟩ 12 (by kernel_rfl) (by kernel_rfl) (by kernel_rfl) (by kernel_rfl)) ?_
 intro W base args ds gs before hval0 hW hcnd hszw _
 have hval : ∀ (j : Nat) t v, Try.f4.params[j]? = some t → args[j]? = some v → Value.okWide Try.prog W .any base t v := hval0
 have hW' := hW
 obtain ⟨p, q, hA0, hV, rfl, hfz, hnd⟩ := hW
 have hA : DataW.TrodAll enc Try.prog W 0 (fun _ => true) true Try.f4.params.toList args.toList ds p := hA0
 rw [Try.params4] at hA hval
 obtain ⟨v0, vs0, d0, ds0, p0, q0, hargs, rfl, rfl, h0, r0⟩ := trodAll_cons hA
 obtain ⟨v1, vs1, d1, ds1, p1, q1, rfl, rfl, rfl, h1, r1⟩ := trodAll_cons r0
 obtain ⟨v2, vs2, d2, ds2, p2, q2, rfl, rfl, rfl, h2, r2⟩ := trodAll_cons r1
 obtain ⟨rfl, rfl, rfl⟩ := trodAll_nil r2
 obtain rfl : args = #[v0, v1, v2] := by cases args; simp_all
 obtain ⟨rfl, rfl⟩ := trodVars_none hV
 have k0 := h0
 have lt0 : ∀ x ∈ p0, x.block < W.heap.size := by obtain ⟨m, hm⟩ := k0; exact DataW.trod_lt m _ _ _ hm
 have k1 := h1
 have lt1 : ∀ x ∈ p1, x.block < W.heap.size := by obtain ⟨m, hm⟩ := k1; exact DataW.trod_lt m _ _ _ hm
 have k2 := h2
 have lt2 : ∀ x ∈ p2, x.block < W.heap.size := by obtain ⟨m, hm⟩ := k2; exact DataW.trod_lt m _ _ _ hm
 obtain ⟨y0, rep0, hy0⟩ := arg_tree (hval 0 22 v0 rfl rfl) h0 (sized_at (j := 0) hszw rfl rfl)
 obtain ⟨y1, rep1, hy1⟩ := arg_u16 (hval 1 30 v1 rfl rfl) h1
 obtain ⟨y2, rep2, hy2⟩ := arg_u16 (hval 2 30 v2 rfl rfl) h2
 clear hA0 hval0
 refine ((moves_c y0 y1 y2 hy0 hy1 hy2).law (us := [v0, v1, v2]) rfl (fun i x u hx hu => by
  cases i with
  | zero => simp only [List.getElem?_cons_zero, Option.some.injEq] at hx hu; rw [← hx, ← hu]; exact rep0
  | succ i =>
   simp only [List.getElem?_cons_succ] at hx hu
   cases i with
   | zero => simp only [List.getElem?_cons_zero, Option.some.injEq] at hx hu; rw [← hx, ← hu]; exact rep1
   | succ i =>
    simp only [List.getElem?_cons_succ] at hx hu
    cases i with
    | zero => simp only [List.getElem?_cons_zero, Option.some.injEq] at hx hu; rw [← hx, ← hu]; exact rep2
    | succ i =>
     simp only [List.getElem?_cons_succ] at hx hu
     simp at hx)).mono fun e W' ⟨he, bel⟩ => ?_
 subst he
 exact ⟨_, rfl, _, _, _, [], _, [], hW', trodAll_mk1 (shut_bool Try.underlying4 _), (trodAll_cons_mk (Below.trod laid_out (by kernel_rfl) (of_decide_eq_true (by kernel_rfl)) k0 bel lt0) (trodAll_cons_mk (Below.trod laid_out (by kernel_rfl) (of_decide_eq_true (by kernel_rfl)) k1 bel lt1) (trodAll_cons_mk (Below.trod laid_out (by kernel_rfl) (of_decide_eq_true (by kernel_rfl)) k2 bel lt2) trodAll_mk0))), rfl, bel.frame _, fun h => by cases h⟩
theorem genMoves_holds : Rows.GenMovesSaid :=
 OpenClaim.holds_of_wide 4 Try.f4 rfl rfl rfl rfl rfl rfl rfl ⟨rfl, rfl, rfl, rfl, rfl⟩ rfl rfl rfl rfl rfl (by kernel_rfl) Try.func4 (by kernel_rfl)
  (of_decide_eq_true (by kernel_rfl)) (by unfold Func.isWrapper; first | (rw [if_pos (by decide +kernel)]; kernel_rfl) | (rw [if_neg (by decide +kernel)]; exact ⟨rfl, rfl⟩))
  (fun os started H enc _ => genMoves_lifted os started H enc)
#print axioms genMoves_holds
end Go.Proofs.Ytfphgelollhdhaa
