/- Functions that hand on elements one by one. -/
import Derived.Test.YtedfegoafallhaaE2
namespace Go.Proofs.Ytedfegoafallhaa
set_option linter.unusedVariables false
set_option linter.unusedSimpArgs false
open Go Go.RowKit
set_option maxRecDepth 100000

/-- What such a function is called with: the elements, the loop, what the loop's party holds between rounds. -/
structure YCtx (P : Program) (T : Nat → Option TI) (ok : ∀ t ti, T t = some ti → tiOf P t = some ti) (n : Nat) (xs : List (List AV)) where
  l : Nat
  J : Nat → (Nat → Prop) → World → Prop
  Jx : World → Prop
  hJ : ∀ i It It' W1 W2, J i It W1 → Below W1.heap.size W1 W2 → (∀ β, It' β → It β ∨ (W1.heap.size ≤ β ∧ β < W2.heap.size)) → J i It' W2
  hJx : ∀ W1 W2, Jx W1 → Below W1.heap.size W1 W2 → Jx W2
  hR : ∀ (i : Nat) (x : List AV) (It : Nat → Prop) (W1 : World) (args : List Value), xs[i]? = some x → J i It W1 → args.length = x.length → (∀ (j : Nat) (a : AV) (u : Value), x[j]? = some a → args[j]? = some u → Rep (RC.pure It) W1 a u) →
      YieldAt Fence.wide 0 P l args.toArray W1 (fun e W2 => Keep It W1 W2 ∧ ((e = .returned (.bool true) ∧ J (i + 1) It W2) ∨ (e = .returned (.bool false) ∧ Jx W2)))
variable {P : Program} {T : Nat → Option TI} {ok : ∀ t ti, T t = some ti → tiOf P t = some ti} {n : Nat} {xs : List (List AV)}
def YCtx.ctx (Y : YCtx P T ok n xs) (W : World) (st : Nat → Prop) : ACtx := ⟨P, T, ok, n, W, st, fun _ => False, (none, true), RC.bare st⟩
def YCtx.JJ (Y : YCtx P T ok n xs) : Option Nat → (Nat → Prop) → World → Prop
  | some i, It, W => Y.J i It W
  | none, _, W => Y.Jx W
def SimY (Y : YCtx P T ok n xs) (ph : Option Nat) (s : AS) (a : Act) (w : World) : Prop := ∃ W st, Y.JJ ph st W ∧ (∀ β, st β → β < W.heap.size) ∧ SimE (Y.ctx W st) s a w
def awpY (Y : YCtx P T ok n xs) (c : Code) (ph : Option Nat) (s : AS) (Q : Exit → Option Nat → AS → Prop) : Prop :=
  ∀ a w, SimY Y ph s a w → c.wpIn Fence.wide 0 P (fun e a' w' => ∃ ph' s', SimY Y ph' s' a' w' ∧ Q e ph' s') a w

section
variable {Y : YCtx P T ok n xs} {ph : Option Nat} {s : AS} {Q : Exit → Option Nat → AS → Prop}
/-- Code that hands nothing on. -/
theorem awpY_plain {c : Code} (h : ∀ W st, awp (Y.ctx W st) c s (fun e s' => Q e ph s')) : awpY Y c ph s Q := fun a w ⟨W, st, hJ, hb, hs⟩ =>
  wpIn_mono (h W st a w hs) (fun e a' w' ⟨s', h1, h2⟩ => ⟨ph, s', ⟨W, st, hJ, hb, h1⟩, h2⟩)
def thenY (next : Option Nat → AS → Prop) (Q : Exit → Option Nat → AS → Prop) : Exit → Option Nat → AS → Prop
  | .normal, ph, s => next ph s
  | e, ph, s => Q e ph s
theorem awpY_seq {x y : Code} (h : awpY Y x ph s (thenY (fun ph' s' => awpY Y y ph' s' Q) Q)) : awpY Y (.seq x y) ph s Q := fun a w hs =>
  wpIn_seq (wpIn_mono (h a w hs) (fun e a' w' ⟨ph', s', h1, h2⟩ => by
    cases e <;> first
      | exact h2 a' w' h1
      | exact ⟨ph', s', h1, h2⟩))
def blockY (id : Nat) (Q : Exit → Option Nat → AS → Prop) : Exit → Option Nat → AS → Prop
  | .exit id', ph, s => if id' = id then Q .normal ph s else Q (.exit id') ph s
  | e, ph, s => Q e ph s
theorem awpY_block {id : Nat} {c : Code} (h : awpY Y c ph s (blockY id Q)) : awpY Y (.block id c) ph s Q := fun a w hs =>
  wpIn_block (wpIn_mono (h a w hs) (fun e a' w' ⟨ph', s', h1, h2⟩ => by
    cases e with
    | exit id' =>
      simp only [Exit.inBlock, blockY] at h2 ⊢
      split
      · rename_i hid; rw [if_pos hid] at h2; exact ⟨ph', s', h1, h2⟩
      · rename_i hid; rw [if_neg hid] at h2; exact ⟨ph', s', h1, h2⟩
    | _ => exact ⟨ph', s', h1, h2⟩))
theorem awpY_skip (h : Q .normal ph s) : awpY Y .skip ph s Q := fun _ _ hs => wpIn_skip ⟨ph, s, hs, h⟩
theorem awpY_exit {id : Nat} (h : Q (.exit id) ph s) : awpY Y (.exit id) ph s Q := fun _ _ hs => wpIn_exit ⟨ph, s, hs, h⟩
theorem awpY_ret (h : Q .ret ph s) : awpY Y .ret ph s Q := fun _ _ hs => wpIn_ret ⟨ph, s, hs, h⟩
theorem awpY_cond {x : Operand} {c d : Code} {b : Bool} (hv : s.ev x = .val (.bool b)) (ht : b = true → awpY Y c ph s Q) (hf : b = false → awpY Y d ph s Q) : awpY Y (.cond x c d) ph s Q := by
  intro a w hs
  have he : a.eval x = .bool b := by
    obtain ⟨W, st, _, _, c', hS, _⟩ := hs
    have := hS.ev x
    rw [hv] at this
    generalize a.eval x = u at this
    cases this
    rfl
  exact wpIn_cond_split he (fun e => ht e a w hs) (fun e => hf e a w hs)
/-- A loop, by an index. -/
theorem awpY_loopT {c : Code} {τ : Type} (S : τ → AS) (φ : τ → Option Nat) (I : τ → Prop) (μ : τ → Nat) (t0 : τ) (h0 : I t0) (hph : ph = φ t0) (hs : FrLe s.fr (S t0).fr ∧ HpLe s.hp (S t0).hp ∧ s.gc ≤ (S t0).gc)
    (round : ∀ t, I t → awpY Y c (φ t) (S t) (thenY (fun ph' s' => ∃ t', ph' = φ t' ∧ (FrLe s'.fr (S t').fr ∧ HpLe s'.hp (S t').hp ∧ s'.gc ≤ (S t').gc) ∧ I t' ∧ μ t' < μ t) Q)) : awpY Y (.loop c) ph s Q := by
  intro a w ⟨W, st, hJ, hb, hsim⟩
  subst hph
  refine wp_loop_ex (rd := none) (I := fun (t : τ) a w => SimY Y (φ t) (S t) a w ∧ I t) μ (t := t0) ⟨⟨W, st, hJ, hb, hsim.le hs.1 hs.2.1 hs.2.2⟩, h0⟩ (fun t a w ht => ?_)
  refine wpIn_mono (round t ht.2 a w ht.1) (fun e a' w' ⟨ph', s', h1, h2⟩ => ?_)
  cases e with
  | normal =>
    obtain ⟨t', k0, k1, k2, k3⟩ := h2
    subst k0
    obtain ⟨W, st, hJ, hb, hsim⟩ := h1
    exact ⟨t', ⟨⟨W, st, hJ, hb, hsim.le k1.1 k1.2.1 k1.2.2⟩, k2⟩, k3⟩
  | _ => exact ⟨ph', s', h1, h2⟩
end

theorem wpOpsIn_append {F : Fence} {n : Nat} {P : Program} {ops : Array Oper} {Q : Exit → Act → World → Prop} : ∀ (l1 l2 : List Nat) (a : Act) (w : World), wpOpsIn F n P ops (Exit.then (wpOpsIn F n P ops Q l2) Q) l1 a w → wpOpsIn F n P ops Q (l1 ++ l2) a w
  | [], l2, a, w, h => h
  | i :: l1, l2, a, w, h => by
    rw [wpOpsIn_cons] at h
    rw [List.cons_append, wpOpsIn_cons]
    unfold wpOpIn at h ⊢
    split
    · rename_i ho
      simp only [ho] at h
      exact wpOpsIn_append l1 l2 a w h
    · rename_i o ho
      simp only [ho] at h
      split
      · rename_i hw
        rw [if_pos hw] at h
        refine ⟨h.1, ?_⟩
        have h2 := h.2
        generalize (o.semAt F.round a.eval).run P w = r at h2
        cases r with
        | ok x w' =>
          cases x <;> simp only [Oper.uponIn] at h2 ⊢ <;> first
            | exact wpOpsIn_append l1 l2 _ _ h2
            | exact ⟨h2.1, h2.2.mono (fun e w'' he => by cases e <;> first | exact wpOpsIn_append l1 l2 _ _ he | exact he)⟩
            | exact ⟨h2.1, h2.2.mono (fun v w'' he => wpOpsIn_append l1 l2 _ _ he)⟩
        | halt x w' => cases x <;> simp only [Oper.uponIn] at h2 ⊢ <;> exact h2
      · rename_i hw
        rw [if_neg hw] at h
        exact ⟨h.1, wpOpsIn_append l1 l2 _ _ h.2⟩
end Go.Proofs.Ytedfegoafallhaa
