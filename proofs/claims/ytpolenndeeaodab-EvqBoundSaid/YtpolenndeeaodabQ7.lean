/- evq: Take, of the document's answer. -/
import Derived.Test.YtpolenndeeaodabQ6
namespace Go.Proofs.Ytpolenndeeaodab
set_option linter.unusedVariables false
set_option linter.unusedSimpArgs false
open Go Go.RowKit
set_option maxRecDepth 100000
attribute [local irreducible] Decidable.decide awp ARun regK toK

/-- The event at k is of the least rank, and the first of that rank. -/
def IsBest (l : List E) (k : Nat) : Prop := ∃ e, l[k]? = some e ∧ ∀ j e', l[j]? = some e' → e.2.1 < e'.2.1 ∨ (e.2.1 = e'.2.1 ∧ k ≤ j)
def Found (l : List E) (r : Int) (i : Nat) (at' : Int) : Prop :=
  (at' = -1 ∧ ∀ j e, l[j]? = some e → r ≤ e.2.1 ∧ (j < i → e.2.1 ≠ r)) ∨ (∃ k : Nat, at' = k ∧ IsBest l k)
/-- Numbers go up. -/
def Asc (l : List E) : Prop := ∀ (i j : Nat) (e e' : E), l[i]? = some e → l[j]? = some e' → i < j → e.1 < e'.1

theorem bestUp_lt2 (l : List E) : ∀ n, 0 < n → bestUp l n < n
  | 0, h => absurd h (by omega)
  | n + 1, _ => by
    rw [bestUp]
    split
    · omega
    · rcases Nat.eq_zero_or_pos n with h | h
      · subst h; exact Nat.zero_lt_one
      · have := bestUp_lt2 l n h; omega
theorem IsBest.up {l : List E} (ha : Asc l) {k : Nat} (h : IsBest l k) : ∀ n, k < n → n ≤ l.length → bestUp l n = k := by
  obtain ⟨e, h1, h2⟩ := h
  intro n
  induction n with
  | zero => intro h; exact absurd h (by omega)
  | succ n ih =>
    intro h3 h4
    have hn : l[n]? = some l[n] := List.getElem?_eq_getElem (by omega)
    rw [bestUp]
    by_cases hkn : k < n
    · rw [ih hkn (by omega), hn, h1]
      have h5 := h2 n _ hn
      have h6 := ha k n _ _ h1 hn hkn
      have hno : aheadE l[n] e = false := by
        unfold aheadE
        simp; omega
      simp only [Option.getD_some, hno]
      rfl
    · have hkn : k = n := by omega
      subst hkn
      have he : e = l[k] := by rw [h1] at hn; exact Option.some.inj hn
      rcases Nat.eq_zero_or_pos k with hz | hz
      · subst hz; split <;> rfl
      · have hlt := bestUp_lt2 l k hz
        have hb : l[bestUp l k]? = some (l[bestUp l k]'(by omega)) := List.getElem?_eq_getElem (by omega)
        have h5 := h2 _ _ hb
        have hyes : aheadE l[k] (l[bestUp l k]'(by omega)) = true := by
          rw [← he]
          unfold aheadE
          simp; omega
        rw [hn, hb]
        simp only [Option.getD_some, hyes]
        rfl
theorem Found.zero (l : List E) (h : ∀ e, e ∈ l → 0 ≤ e.2.1) : Found l 0 0 (-1) := .inl ⟨rfl, fun j e he => ⟨h e (List.mem_of_getElem? he), fun h => absurd h (by omega)⟩⟩
theorem Found.step {l : List E} {r : Int} {i : Nat} (h : Found l r i (-1)) {e : E} (he : l[i]? = some e) : if e.2.1 = r then Found l r (i + 1) i else Found l r (i + 1) (-1) := by
  rcases h with ⟨_, h⟩ | ⟨k, h, _⟩
  · split
    · rename_i hr
      refine .inr ⟨i, rfl, e, he, fun j e' hj => ?_⟩
      have := h j e' hj
      omega
    · rename_i hr
      refine .inl ⟨rfl, fun j e' hj => ⟨(h j e' hj).1, fun hl => ?_⟩⟩
      by_cases hji : j = i
      · subst hji; rw [he] at hj; rw [← Option.some.inj hj]; exact hr
      · exact (h j e' hj).2 (by omega)
  · omega
theorem Found.neg {l : List E} {r : Int} {i : Nat} {a : Int} (h : Found l r i a) (ha : a < 0) : a = -1 := by
  rcases h with h | ⟨k, h, _⟩
  · exact h.1
  · omega
theorem Found.next {l : List E} {r : Int} {at' : Int} {i : Nat} (h : Found l r i at') (hi : at' < 0 → i = l.length) : Found l (r + 1) 0 at' := by
  rcases h with ⟨h0, h⟩ | h
  · refine .inl ⟨h0, fun j e hj => ⟨?_, fun h => absurd h (by omega)⟩⟩
    have h1 := h j e hj
    have h2 := (List.getElem?_eq_some_iff.1 hj).1
    have := h1.2 (by omega)
    omega
  · exact .inr h
theorem Found.again {l : List E} {r : Int} {at' : Int} {i : Nat} (h : Found l r 0 at') (hp : 0 ≤ at') : Found l r i at' := by
  rcases h with ⟨h0, h⟩ | h
  · omega
  · exact .inr h
theorem Found.done {l : List E} (ha : Asc l) (h0 : 0 < l.length) (h4 : ∀ e, e ∈ l → e.2.1 ≤ 3) {at' r : Int} (h : Found l r 0 at') (hr : 4 ≤ r ∨ 0 ≤ at') : at' = (bestUp l l.length : Nat) := by
  rcases h with ⟨h1, h⟩ | ⟨k, h1, h2⟩
  · have h5 := h 0 _ (List.getElem?_eq_getElem h0)
    have := h4 _ (List.getElem_mem h0)
    omega
  · rw [h1, h2.up ha l.length (by obtain ⟨e, h, _⟩ := h2; exact (List.getElem?_eq_some_iff.1 h).1) (Nat.le_refl _)]

def accA (b g : Nat) : List (List AV) → AV
  | [] => .sl 0 true []
  | e :: l => .own b g 0 (e :: l).length
def accB (g sz : Nat) : List (List AV) → Option Blk
  | [] => none
  | e :: l => some ⟨g, sz, e :: l⟩


set_option maxHeartbeats 4000000 in
theorem ref_take_c (q : Q) (hl : q.ev.length ≤ 1000000) (hasc : Asc q.ev) (hrng : ∀ e, e ∈ q.ev → (0 ≤ e.2.1 ∧ e.2.1 ≤ 3) ∧ (-9223372036854775808 ≤ e.2.2.2.2 ∧ e.2.2.2.2 ≤ 9223372036854775806)) :
    FnC Try.prog 18 [.agg (encQ q)] (.tup [.agg (encEv (takeQ q).1), .agg (encQ (takeQ q).2.1), .val (.bool (takeQ q).2.2)]) := by
  refine FnC.of_awp (T := tt) (ok := tok) Try.func18 (by kernel_rfl) rfl (by kernel_rfl) (closedL_cons (closed_q q) closedL_nil) (fun w0 st0 => ?_)
  dsimp only [frOf]
  (repeat' (first | refine awp_seq ?_ | refine awp_block ?_ | refine awp_region (fun _ => hmix) ?_ | refine ARun.op rfl (by first | exact True.intro | exact rfl | (unfold inR; omega)) ?_ | (refine ARun.fin (by first | (intro h; cases h; done) | (intro _; kernel_rfl)) ?_; dsimp only [thenA, blockA, AS.bump, List.length_cons, List.length_nil, reduceIte, Nat.reduceEqDiff]) | (refine awp_skip ?_; dsimp only [thenA, blockA, AS.bump, List.length_cons, List.length_nil, reduceIte, Nat.reduceEqDiff]) | (refine awp_exit ?_; dsimp only [thenA, blockA, AS.bump, List.length_cons, List.length_nil, reduceIte, Nat.reduceEqDiff]) | refine awp_condT rfl (by first | rfl | assumption) ?_ | refine awp_condF rfl (by first | rfl | assumption) ?_ | ((fail_if_success refine ARun.plain rfl ?_); first | refine ARun.knowT rfl rfl rfl (by first | rfl | assumption) ?_ | refine ARun.knowF rfl rfl rfl (by first | rfl | assumption) ?_ | refine ARun.fork rfl rfl rfl (fun h => ?_) (fun h => ?_)) | refine awp_cond rfl (fun h => ?_) (fun h => ?_)))
  · have hz : q.ev.length = 0 := by rw [List.length_map] at h; simpa using h
    have e : takeQ q = ((0, 0, 0, 0, 0), q, false) := by unfold takeQ; rw [if_pos hz]
    rw [e]
    refine awp_ret ⟨_, ResL.cons (ResA.agg rfl rfl rfl rfl rfl rfl rfl (RL.cons (.val _) (RL.cons (.val _) (RL.cons (.val _) (RL.cons (.val _) (RL.cons (.val _) (RL.nil _))))))) (ResL.cons (ResA.agg rfl rfl rfl rfl rfl rfl rfl (RL.cons (.closed _ (closed_map closed_ev)) (RL.cons (.val _) (RL.cons (.val _) (RL.cons (.val _) (RL.nil _)))))) (ResL.cons (ResA.tmp (.val _)) .nil)), rfl⟩
  have hpos : 0 < q.ev.length := by rw [List.length_map] at h; have := beq_eq_false_iff_ne.1 h; omega
  clear h
  refine awp_loopT (T := Int × Int × Nat) (fun t => ⟨[(5, .val (.int .i64 t.1)), (6, .val (.int .i64 t.2.1)), (1, .ptr 1 0 0 0), (2, .ptr 2 1 0 0), (3, .ptr 3 2 0 0), (4, .val (.bool false))], [(1, some ⟨0, 4, [encQ q]⟩), (2, some ⟨1, 5, [encEv (0, 0, 0, 0, 0)]⟩), (3, some ⟨2, 4, [[.sl 0 true [], .val (.int .i64 0), .val (.int .i64 0), .val (.int .i64 0)]]⟩)], t.2.2⟩)
    (fun t => (0 ≤ t.2.1 ∧ t.2.1 ≤ 4) ∧ Found q.ev t.2.1 0 t.1) (fun t => (4 - t.2.1).toNat) (_, _, _) ⟨⟨by decide, by decide⟩, Found.zero _ (fun e he => (hrng e he).1.1)⟩ ⟨⟨rfl, rfl, rfl, rfl, rfl, rfl, trivial⟩, ⟨rfl, rfl, rfl, trivial⟩, Nat.le_refl _⟩ (fun t ht => ?_)
  obtain ⟨at', r, gc⟩ := t
  obtain ⟨⟨hr0, hr4⟩, hF⟩ := ht
  dsimp only at hr0 hr4 hF ⊢
  by_cases hin : r ≤ 3 ∧ at' < 0
  · have d1 : decide (r ≤ 3) = true := by simpa using hin.1
    have d2 : decide (at' < 0) = true := by simpa using hin.2
    have hat : at' = -1 := by
      rcases hF with h | ⟨k, h, _⟩
      · exact h.1
      · omega
    (repeat' (first | refine awp_seq ?_ | refine awp_block ?_ | refine awp_region (fun _ => hmix) ?_ | refine ARun.op rfl (by first | exact True.intro | exact rfl | (unfold inR; omega)) ?_ | (refine ARun.fin (by first | (intro h; cases h; done) | (intro _; kernel_rfl)) ?_; dsimp only [thenA, blockA, AS.bump, List.length_cons, List.length_nil, reduceIte, Nat.reduceEqDiff]) | (refine awp_skip ?_; dsimp only [thenA, blockA, AS.bump, List.length_cons, List.length_nil, reduceIte, Nat.reduceEqDiff]) | (refine awp_exit ?_; dsimp only [thenA, blockA, AS.bump, List.length_cons, List.length_nil, reduceIte, Nat.reduceEqDiff]) | refine awp_condT rfl (by first | rfl | assumption) ?_ | refine awp_condF rfl (by first | rfl | assumption) ?_ | ((fail_if_success refine ARun.plain rfl ?_); first | refine ARun.knowT rfl rfl rfl (by first | rfl | assumption) ?_ | refine ARun.knowF rfl rfl rfl (by first | rfl | assumption) ?_ | refine ARun.fork rfl rfl rfl (fun h => ?_) (fun h => ?_)) | refine awp_cond rfl (fun h => ?_) (fun h => ?_)))
    refine awp_loopT (T := Int × Nat × Nat) (fun t => ⟨[(5, .val (.int .i64 t.1)), (6, .val (.int .i64 r)), (7, .val (.int .i64 (t.2.1 : Nat))), (1, .ptr 1 0 0 0), (2, .ptr 2 1 0 0), (3, .ptr 3 2 0 0), (4, .val (.bool false))], [(1, some ⟨0, 4, [encQ q]⟩), (2, some ⟨1, 5, [encEv (0, 0, 0, 0, 0)]⟩), (3, some ⟨2, 4, [[.sl 0 true [], .val (.int .i64 0), .val (.int .i64 0), .val (.int .i64 0)]]⟩)], t.2.2⟩)
      (fun t => t.2.1 ≤ q.ev.length ∧ Found q.ev r t.2.1 t.1) (fun t => q.ev.length - t.2.1) (at', 0, _) ⟨Nat.zero_le _, hF⟩ ⟨⟨rfl, rfl, rfl, rfl, rfl, rfl, rfl, trivial⟩, ⟨rfl, rfl, rfl, trivial⟩, Nat.le_refl _⟩ (fun t ht => ?_)
    obtain ⟨a2, k, gc⟩ := t
    obtain ⟨hk, hF2⟩ := ht
    dsimp only at hk hF2 ⊢
    clear d2 hat
    by_cases hlt : k < q.ev.length
    · have h1 : q.ev[k]? = some q.ev[k] := List.getElem?_eq_getElem hlt
      have hc : decide (((k : Nat) : Int) < (((q.ev.map encEv).length : Nat) : Int)) = true := by rw [List.length_map]; simp; omega
      (repeat' (first | refine awp_seq ?_ | refine awp_block ?_ | refine awp_region (fun _ => hmix) ?_ | refine ARun.op rfl (by first | exact True.intro | exact rfl | (unfold inR; omega)) ?_ | refine ARun.indexAddr rfl rfl (by omega) (by first | with_reducible exact get_map h1 | with_reducible exact get_map h1) rfl rfl rfl rfl rfl (guardF_spec rfl) ?_ | (refine ARun.fin (by first | (intro h; cases h; done) | (intro _; kernel_rfl)) ?_; dsimp only [thenA, blockA, AS.bump, List.length_cons, List.length_nil, reduceIte, Nat.reduceEqDiff]) | (refine awp_skip ?_; dsimp only [thenA, blockA, AS.bump, List.length_cons, List.length_nil, reduceIte, Nat.reduceEqDiff]) | (refine awp_exit ?_; dsimp only [thenA, blockA, AS.bump, List.length_cons, List.length_nil, reduceIte, Nat.reduceEqDiff]) | refine awp_condT rfl (by first | rfl | assumption) ?_ | refine awp_condF rfl (by first | rfl | assumption) ?_ | ((fail_if_success refine ARun.plain rfl ?_); first | refine ARun.knowT rfl rfl rfl (by first | rfl | assumption) ?_ | refine ARun.knowF rfl rfl rfl (by first | rfl | assumption) ?_ | refine ARun.fork rfl rfl rfl (fun h => ?_) (fun h => ?_)) | refine awp_cond rfl (fun h => ?_) (fun h => ?_)))
      · have hr : q.ev[k].2.1 = r := by simpa using h
        have ha : a2 = -1 := hF2.neg (by simpa using ‹decide (a2 < 0) = true›)
        have hst := (ha ▸ hF2).step h1
        rw [if_pos hr] at hst
        exact ⟨(_, k + 1, _), ⟨⟨rfl, rfl, succI k, rfl, rfl, rfl, rfl, trivial⟩, ⟨rfl, rfl, rfl, trivial⟩, Nat.le_refl _⟩, ⟨hlt, hst⟩, by dsimp only; omega⟩
      · have hr : ¬ q.ev[k].2.1 = r := by simpa using h
        have ha : a2 = -1 := hF2.neg (by simpa using ‹decide (a2 < 0) = true›)
        have hst := (ha ▸ hF2).step h1
        rw [if_neg hr] at hst
        exact ⟨(_, k + 1, _), ⟨⟨by rw [ha]; rfl, rfl, succI k, rfl, rfl, rfl, rfl, trivial⟩, ⟨rfl, rfl, rfl, trivial⟩, Nat.le_refl _⟩, ⟨hlt, hst⟩, by dsimp only; omega⟩
      · have ha : 0 ≤ a2 := by simpa using h
        exact ⟨(_, _, _), ⟨⟨rfl, rfl, rfl, rfl, rfl, rfl, trivial⟩, ⟨rfl, rfl, rfl, trivial⟩, Nat.le_refl _⟩, ⟨⟨by dsimp only; omega, by dsimp only; omega⟩, hF2.next (fun h => by omega)⟩, by dsimp only; omega⟩
    · have hc : decide (((k : Nat) : Int) < (((q.ev.map encEv).length : Nat) : Int)) = false := by rw [List.length_map]; simp; omega
      have hk : k = q.ev.length := by omega
      (repeat' (first | refine awp_seq ?_ | refine awp_block ?_ | refine awp_region (fun _ => hmix) ?_ | refine ARun.op rfl (by first | exact True.intro | exact rfl | (unfold inR; omega)) ?_ | (refine ARun.fin (by first | (intro h; cases h; done) | (intro _; kernel_rfl)) ?_; dsimp only [thenA, blockA, AS.bump, List.length_cons, List.length_nil, reduceIte, Nat.reduceEqDiff]) | (refine awp_skip ?_; dsimp only [thenA, blockA, AS.bump, List.length_cons, List.length_nil, reduceIte, Nat.reduceEqDiff]) | (refine awp_exit ?_; dsimp only [thenA, blockA, AS.bump, List.length_cons, List.length_nil, reduceIte, Nat.reduceEqDiff]) | refine awp_condT rfl (by first | rfl | assumption) ?_ | refine awp_condF rfl (by first | rfl | assumption) ?_ | ((fail_if_success refine ARun.plain rfl ?_); first | refine ARun.knowT rfl rfl rfl (by first | rfl | assumption) ?_ | refine ARun.knowF rfl rfl rfl (by first | rfl | assumption) ?_ | refine ARun.fork rfl rfl rfl (fun h => ?_) (fun h => ?_)) | refine awp_cond rfl (fun h => ?_) (fun h => ?_)))
      exact ⟨(_, _, _), ⟨⟨rfl, rfl, rfl, rfl, rfl, rfl, trivial⟩, ⟨rfl, rfl, rfl, trivial⟩, Nat.le_refl _⟩, ⟨⟨by dsimp only; omega, by dsimp only; omega⟩, hF2.next (fun h => hk)⟩, by dsimp only; omega⟩
  · have hat : at' = (bestUp q.ev q.ev.length : Nat) := by
      refine Found.done hasc hpos (fun e he => (hrng e he).1.2) hF ?_
      omega
    have hblt := bestUp_lt q.ev q.ev.length (Nat.le_refl _) hpos
    have hb : q.ev[bestUp q.ev q.ev.length]? = some q.ev[bestUp q.ev q.ev.length] := List.getElem?_eq_getElem hblt
    have e : takeQ q = (q.ev[bestUp q.ev q.ev.length], ⟨oldUp q.ev (bestUp q.ev q.ev.length) q.age q.ev.length, q.room, q.age, q.next⟩, true) := by
      unfold takeQ; rw [if_neg (by omega), hb]; rfl
    rw [e]
    clear e hF
    generalize hbe : bestUp q.ev q.ev.length = bb at *
    subst hat
    have hlow : decide (((bb : Nat) : Int) < 0) = false := by simp
    (repeat' (first | refine awp_seq ?_ | refine awp_block ?_ | refine awp_region (fun _ => hmix) ?_ | refine ARun.op rfl (by first | exact True.intro | exact rfl | (unfold inR; omega)) ?_ | (refine ARun.fin (by first | (intro h; cases h; done) | (intro _; kernel_rfl)) ?_; dsimp only [thenA, blockA, AS.bump, List.length_cons, List.length_nil, reduceIte, Nat.reduceEqDiff]) | (refine awp_skip ?_; dsimp only [thenA, blockA, AS.bump, List.length_cons, List.length_nil, reduceIte, Nat.reduceEqDiff]) | (refine awp_exit ?_; dsimp only [thenA, blockA, AS.bump, List.length_cons, List.length_nil, reduceIte, Nat.reduceEqDiff]) | refine awp_condT rfl (by first | rfl | assumption) ?_ | refine awp_condF rfl (by first | rfl | assumption) ?_ | ((fail_if_success refine ARun.plain rfl ?_); first | refine ARun.knowT rfl rfl rfl (by first | rfl | assumption) ?_ | refine ARun.knowF rfl rfl rfl (by first | rfl | assumption) ?_ | refine ARun.fork rfl rfl rfl (fun h => ?_) (fun h => ?_)) | refine awp_cond rfl (fun h => ?_) (fun h => ?_)))
    all_goals
      refine awp_loopT (T := Nat × Nat × Nat) (fun t => ⟨[(5, .val (.int .i64 (bb : Nat))), (8, accA 84 t.2.1 ((oldUp q.ev bb q.age t.1).map encEv)), (9, .val (.int .i64 (t.1 : Nat))), (1, .ptr 1 0 0 0), (2, .ptr 2 1 0 0), (3, .ptr 3 2 0 0), (4, .val (.bool false))], [(84, accB t.2.1 5 ((oldUp q.ev bb q.age t.1).map encEv)), (1, some ⟨0, 4, [encQ q]⟩), (2, some ⟨1, 5, [encEv (0, 0, 0, 0, 0)]⟩), (3, some ⟨2, 4, [[.sl 0 true [], .val (.int .i64 0), .val (.int .i64 0), .val (.int .i64 0)]]⟩)], t.2.2⟩)
        (fun t => t.1 ≤ q.ev.length) (fun t => q.ev.length - t.1) (0, 0, _) (Nat.zero_le _) ⟨⟨rfl, rfl, rfl, rfl, rfl, rfl, rfl, trivial⟩, ⟨rfl, rfl, rfl, rfl, trivial⟩, Nat.le_refl _⟩ (fun t ht => ?_)
      clear hbe
      obtain ⟨k, g, gc⟩ := t
      dsimp only at ht ⊢
      have hol := oldUp_len q.ev bb q.age k
      by_cases hlt : k < q.ev.length
      · have h1 : q.ev[k]? = some q.ev[k] := List.getElem?_eq_getElem hlt
        have hc : decide (((k : Nat) : Int) < (((q.ev.map encEv).length : Nat) : Int)) = true := by rw [List.length_map]; simp; omega
        have hr := hrng _ (List.getElem_mem hlt)
        by_cases he : k = bb
        · have hd : (((k : Nat) : Int) == ((bb : Nat) : Int)) = true := by simp [he]
          have hs : oldUp q.ev bb q.age (k + 1) = oldUp q.ev bb q.age k := by rw [oldUp, if_pos he]
          (repeat' (first | refine awp_seq ?_ | refine awp_block ?_ | refine awp_region (fun _ => hmix) ?_ | refine ARun.op rfl (by first | exact True.intro | exact rfl | (unfold inR; omega)) ?_ | refine ARun.indexAddr rfl rfl (by omega) (by first | with_reducible exact get_map h1 | with_reducible exact get_map h1) rfl rfl rfl rfl rfl (guardF_spec rfl) ?_ | (refine ARun.fin (by first | (intro h; cases h; done) | (intro _; kernel_rfl)) ?_; dsimp only [thenA, blockA, AS.bump, List.length_cons, List.length_nil, reduceIte, Nat.reduceEqDiff]) | (refine awp_skip ?_; dsimp only [thenA, blockA, AS.bump, List.length_cons, List.length_nil, reduceIte, Nat.reduceEqDiff]) | (refine awp_exit ?_; dsimp only [thenA, blockA, AS.bump, List.length_cons, List.length_nil, reduceIte, Nat.reduceEqDiff]) | refine awp_condT rfl (by first | rfl | assumption) ?_ | refine awp_condF rfl (by first | rfl | assumption) ?_ | ((fail_if_success refine ARun.plain rfl ?_); first | refine ARun.knowT rfl rfl rfl (by first | rfl | assumption) ?_ | refine ARun.knowF rfl rfl rfl (by first | rfl | assumption) ?_ | refine ARun.fork rfl rfl rfl (fun h => ?_) (fun h => ?_)) | refine awp_cond rfl (fun h => ?_) (fun h => ?_)))
          exact ⟨(k + 1, g, _), ⟨⟨rfl, (by dsimp only; rw [hs]; rfl), succI k, rfl, rfl, rfl, rfl, trivial⟩, ⟨(by dsimp only; rw [hs]; rfl), rfl, rfl, rfl, trivial⟩, Nat.le_refl _⟩, hlt, by dsimp only; omega⟩
        · have hd : (((k : Nat) : Int) == ((bb : Nat) : Int)) = false := by simp; omega
          have hs : oldUp q.ev bb q.age (k + 1) = oldUp q.ev bb q.age k ++ [olderE q.ev[k] q.age] := by rw [oldUp, if_neg he, h1]; rfl
          generalize oldUp q.ev bb q.age k = out at *
          generalize hx : q.ev[k] = x at *
          obtain ⟨xi, xr, xh, xa, xg⟩ := x
          dsimp only at hr
          cases out with
          | nil =>
            (repeat' (first | refine awp_seq ?_ | refine awp_block ?_ | refine awp_region (fun _ => hmix) ?_ | refine ARun.op rfl (by first | exact True.intro | exact rfl | (unfold inR; omega)) ?_ | refine ARun.indexAddr rfl rfl (by omega) (by first | with_reducible exact get_map h1 | with_reducible exact get_map h1) rfl rfl rfl rfl rfl (guardF_spec rfl) ?_ | refine ARun.append_full rfl rfl rfl rfl rfl (.inl rfl) (.inr rfl) (.inl rfl) rfl rfl (by simp only [List.length_append, List.length_map, List.length_take, List.length_cons, List.length_nil]; omega) (by simp only [maxLen, List.length_append, List.length_map, List.length_take, List.length_cons, List.length_nil]; omega) rfl (guardF_spec rfl) ?_ | (refine ARun.fin (by first | (intro h; cases h; done) | (intro _; kernel_rfl)) ?_; dsimp only [thenA, blockA, AS.bump, List.length_cons, List.length_nil, reduceIte, Nat.reduceEqDiff]) | (refine awp_skip ?_; dsimp only [thenA, blockA, AS.bump, List.length_cons, List.length_nil, reduceIte, Nat.reduceEqDiff]) | (refine awp_exit ?_; dsimp only [thenA, blockA, AS.bump, List.length_cons, List.length_nil, reduceIte, Nat.reduceEqDiff]) | refine awp_condT rfl (by first | rfl | assumption) ?_ | refine awp_condF rfl (by first | rfl | assumption) ?_ | ((fail_if_success refine ARun.plain rfl ?_); first | refine ARun.knowT rfl rfl rfl (by first | rfl | assumption) ?_ | refine ARun.knowF rfl rfl rfl (by first | rfl | assumption) ?_ | refine ARun.fork rfl rfl rfl (fun h => ?_) (fun h => ?_)) | refine awp_cond rfl (fun h => ?_) (fun h => ?_)))
            · have e : olderE (xi, xr, xh, xa, xg) q.age = (xi, xr - 1, xh, xa, 0) := by (simp only [decide_eq_true_eq, decide_eq_false_iff_not, beq_iff_eq, beq_eq_false_iff_ne, ne_eq] at *; unfold olderE; simp only [beq_iff_eq]; (repeat' split) <;> first | rfl | (exfalso; omega))
              rw [e] at hs
              exact ⟨(k + 1, _, _), ⟨⟨rfl, (by dsimp only; rw [hs, List.map_append]; rfl), succI k, rfl, rfl, rfl, rfl, trivial⟩, ⟨(by dsimp only; rw [hs, List.map_append]; rfl), rfl, rfl, rfl, trivial⟩, Nat.le_refl _⟩, hlt, by dsimp only; omega⟩
            · have e : olderE (xi, xr, xh, xa, xg) q.age = (xi, xr, xh, xa, xg + 1) := by (simp only [decide_eq_true_eq, decide_eq_false_iff_not, beq_iff_eq, beq_eq_false_iff_ne, ne_eq] at *; unfold olderE; simp only [beq_iff_eq]; (repeat' split) <;> first | rfl | (exfalso; omega))
              rw [e] at hs
              exact ⟨(k + 1, _, _), ⟨⟨rfl, (by dsimp only; rw [hs, List.map_append]; rfl), succI k, rfl, rfl, rfl, rfl, trivial⟩, ⟨(by dsimp only; rw [hs, List.map_append]; rfl), rfl, rfl, rfl, trivial⟩, Nat.le_refl _⟩, hlt, by dsimp only; omega⟩
            · have e : olderE (xi, xr, xh, xa, xg) q.age = (xi, xr, xh, xa, xg) := by (simp only [decide_eq_true_eq, decide_eq_false_iff_not, beq_iff_eq, beq_eq_false_iff_ne, ne_eq] at *; unfold olderE; simp only [beq_iff_eq]; (repeat' split) <;> first | rfl | (exfalso; omega))
              rw [e] at hs
              exact ⟨(k + 1, _, _), ⟨⟨rfl, (by dsimp only; rw [hs, List.map_append]; rfl), succI k, rfl, rfl, rfl, rfl, trivial⟩, ⟨(by dsimp only; rw [hs, List.map_append]; rfl), rfl, rfl, rfl, trivial⟩, Nat.le_refl _⟩, hlt, by dsimp only; omega⟩
          | cons o os =>
            have hol2 : os.length + 1 ≤ k := hol
            (repeat' (first | refine awp_seq ?_ | refine awp_block ?_ | refine awp_region (fun _ => hmix) ?_ | refine ARun.op rfl (by first | exact True.intro | exact rfl | (unfold inR; omega)) ?_ | refine ARun.indexAddr rfl rfl (by omega) (by first | with_reducible exact get_map h1 | with_reducible exact get_map h1) rfl rfl rfl rfl rfl (guardF_spec rfl) ?_ | refine ARun.append_own rfl rfl rfl rfl rfl rfl rfl rfl rfl (.inr rfl) rfl rfl (by simp only [List.length_append, List.length_map, List.length_take, List.length_cons, List.length_nil]; omega) (by simp only [maxLen, List.length_append, List.length_map, List.length_take, List.length_cons, List.length_nil]; omega) rfl (guardF_spec rfl) ?_ | (refine ARun.fin (by first | (intro h; cases h; done) | (intro _; kernel_rfl)) ?_; dsimp only [thenA, blockA, AS.bump, List.length_cons, List.length_nil, reduceIte, Nat.reduceEqDiff]) | (refine awp_skip ?_; dsimp only [thenA, blockA, AS.bump, List.length_cons, List.length_nil, reduceIte, Nat.reduceEqDiff]) | (refine awp_exit ?_; dsimp only [thenA, blockA, AS.bump, List.length_cons, List.length_nil, reduceIte, Nat.reduceEqDiff]) | refine awp_condT rfl (by first | rfl | assumption) ?_ | refine awp_condF rfl (by first | rfl | assumption) ?_ | ((fail_if_success refine ARun.plain rfl ?_); first | refine ARun.knowT rfl rfl rfl (by first | rfl | assumption) ?_ | refine ARun.knowF rfl rfl rfl (by first | rfl | assumption) ?_ | refine ARun.fork rfl rfl rfl (fun h => ?_) (fun h => ?_)) | refine awp_cond rfl (fun h => ?_) (fun h => ?_)))
            · have e : olderE (xi, xr, xh, xa, xg) q.age = (xi, xr - 1, xh, xa, 0) := by (simp only [decide_eq_true_eq, decide_eq_false_iff_not, beq_iff_eq, beq_eq_false_iff_ne, ne_eq] at *; unfold olderE; simp only [beq_iff_eq]; (repeat' split) <;> first | rfl | (exfalso; omega))
              rw [e] at hs
              exact ⟨(k + 1, _, _), ⟨⟨rfl, (by dsimp only; rw [hs, List.map_append]; rfl), succI k, rfl, rfl, rfl, rfl, trivial⟩, ⟨(by dsimp only; rw [hs, List.map_append]; rfl), rfl, rfl, rfl, trivial⟩, Nat.le_refl _⟩, hlt, by dsimp only; omega⟩
            · have e : olderE (xi, xr, xh, xa, xg) q.age = (xi, xr, xh, xa, xg + 1) := by (simp only [decide_eq_true_eq, decide_eq_false_iff_not, beq_iff_eq, beq_eq_false_iff_ne, ne_eq] at *; unfold olderE; simp only [beq_iff_eq]; (repeat' split) <;> first | rfl | (exfalso; omega))
              rw [e] at hs
              exact ⟨(k + 1, _, _), ⟨⟨rfl, (by dsimp only; rw [hs, List.map_append]; rfl), succI k, rfl, rfl, rfl, rfl, trivial⟩, ⟨(by dsimp only; rw [hs, List.map_append]; rfl), rfl, rfl, rfl, trivial⟩, Nat.le_refl _⟩, hlt, by dsimp only; omega⟩
            · have e : olderE (xi, xr, xh, xa, xg) q.age = (xi, xr, xh, xa, xg) := by (simp only [decide_eq_true_eq, decide_eq_false_iff_not, beq_iff_eq, beq_eq_false_iff_ne, ne_eq] at *; unfold olderE; simp only [beq_iff_eq]; (repeat' split) <;> first | rfl | (exfalso; omega))
              rw [e] at hs
              exact ⟨(k + 1, _, _), ⟨⟨rfl, (by dsimp only; rw [hs, List.map_append]; rfl), succI k, rfl, rfl, rfl, rfl, trivial⟩, ⟨(by dsimp only; rw [hs, List.map_append]; rfl), rfl, rfl, rfl, trivial⟩, Nat.le_refl _⟩, hlt, by dsimp only; omega⟩
      · have hc : decide (((k : Nat) : Int) < (((q.ev.map encEv).length : Nat) : Int)) = false := by rw [List.length_map]; simp; omega
        have hk : k = q.ev.length := by omega
        subst hk
        generalize oldUp q.ev bb q.age q.ev.length = out at *
        cases out with
        | nil =>
          (repeat' (first | refine awp_seq ?_ | refine awp_block ?_ | refine awp_region (fun _ => hmix) ?_ | refine ARun.op rfl (by first | exact True.intro | exact rfl | (unfold inR; omega)) ?_ | refine ARun.indexAddr rfl rfl (by omega) (by first | with_reducible exact get_map hb | with_reducible exact get_map hb) rfl rfl rfl rfl rfl (guardF_spec rfl) ?_ | (refine ARun.fin (by first | (intro h; cases h; done) | (intro _; kernel_rfl)) ?_; dsimp only [thenA, blockA, AS.bump, List.length_cons, List.length_nil, reduceIte, Nat.reduceEqDiff]) | (refine awp_skip ?_; dsimp only [thenA, blockA, AS.bump, List.length_cons, List.length_nil, reduceIte, Nat.reduceEqDiff]) | (refine awp_exit ?_; dsimp only [thenA, blockA, AS.bump, List.length_cons, List.length_nil, reduceIte, Nat.reduceEqDiff]) | refine awp_condT rfl (by first | rfl | assumption) ?_ | refine awp_condF rfl (by first | rfl | assumption) ?_ | ((fail_if_success refine ARun.plain rfl ?_); first | refine ARun.knowT rfl rfl rfl (by first | rfl | assumption) ?_ | refine ARun.knowF rfl rfl rfl (by first | rfl | assumption) ?_ | refine ARun.fork rfl rfl rfl (fun h => ?_) (fun h => ?_)) | refine awp_cond rfl (fun h => ?_) (fun h => ?_)))
          refine awp_ret ⟨_, ResL.cons (ResA.agg rfl rfl rfl rfl rfl rfl rfl (RL.cons (.val _) (RL.cons (.val _) (RL.cons (.val _) (RL.cons (.val _) (RL.cons (.val _) (RL.nil _))))))) (ResL.cons (ResA.agg rfl rfl rfl rfl rfl rfl rfl (RL.cons (.nilSl (sz' := 5)) (RL.cons (.val _) (RL.cons (.val _) (RL.cons (.val _) (RL.nil _)))))) (ResL.cons (ResA.tmp (.val _)) .nil)), rfl⟩
        | cons o os =>
          (repeat' (first | refine awp_seq ?_ | refine awp_block ?_ | refine awp_region (fun _ => hmix) ?_ | refine ARun.op rfl (by first | exact True.intro | exact rfl | (unfold inR; omega)) ?_ | refine ARun.indexAddr rfl rfl (by omega) (by first | with_reducible exact get_map hb | with_reducible exact get_map hb) rfl rfl rfl rfl rfl (guardF_spec rfl) ?_ | (refine ARun.fin (by first | (intro h; cases h; done) | (intro _; kernel_rfl)) ?_; dsimp only [thenA, blockA, AS.bump, List.length_cons, List.length_nil, reduceIte, Nat.reduceEqDiff]) | (refine awp_skip ?_; dsimp only [thenA, blockA, AS.bump, List.length_cons, List.length_nil, reduceIte, Nat.reduceEqDiff]) | (refine awp_exit ?_; dsimp only [thenA, blockA, AS.bump, List.length_cons, List.length_nil, reduceIte, Nat.reduceEqDiff]) | refine awp_condT rfl (by first | rfl | assumption) ?_ | refine awp_condF rfl (by first | rfl | assumption) ?_ | ((fail_if_success refine ARun.plain rfl ?_); first | refine ARun.knowT rfl rfl rfl (by first | rfl | assumption) ?_ | refine ARun.knowF rfl rfl rfl (by first | rfl | assumption) ?_ | refine ARun.fork rfl rfl rfl (fun h => ?_) (fun h => ?_)) | refine awp_cond rfl (fun h => ?_) (fun h => ?_)))
          refine awp_ret ⟨_, ResL.cons (ResA.agg rfl rfl rfl rfl rfl rfl rfl (RL.cons (.val _) (RL.cons (.val _) (RL.cons (.val _) (RL.cons (.val _) (RL.cons (.val _) (RL.nil _))))))) (ResL.cons (ResA.agg rfl rfl rfl rfl rfl rfl rfl (RL.cons (Reif.owned rfl rfl rfl (own_closed_map (l := o :: os) closed_ev)) (RL.cons (.val _) (RL.cons (.val _) (RL.cons (.val _) (RL.nil _)))))) (ResL.cons (ResA.tmp (.val _)) .nil)), rfl⟩
end Go.Proofs.Ytpolenndeeaodab
