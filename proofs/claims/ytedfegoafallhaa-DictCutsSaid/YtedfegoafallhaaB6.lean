/- A slice of the call's own that is never written any more. -/
import Derived.Test.YtedfegoafallhaaB5
namespace Go.Proofs.Ytedfegoafallhaa
set_option linter.unusedVariables false
set_option linter.unusedSimpArgs false
open Go Go.RowKit

theorem own_to_sl {C : ACtx} {s : AS} {c c' : RC} {a : Act} {w : World} (hS : Sim C s c a w) {b g sz : Nat} {els : List (List AV)} {u : Value} (hb : lkH s.hp b = some ⟨g, sz, els⟩) (hcl : ∀ el x, el ∈ els → x ∈ el → Closed x)
    (hst : ∀ β, c.st β → c'.st β) (hst' : ∀ o β, c.own b g = some o → o.loc = some β → c'.st β) (r : Rep c w (.own b g 0 els.length) u) : Rep c' w (.sl sz false els) u := by
  obtain ⟨o, h1, hB⟩ := hS.hp b _ hb
  simp only at h1
  generalize hn : els.length = n at r
  cases r with
  | own _ _ _ _ A m cap hu hp =>
    obtain ⟨rfl, k2, k3, k4, k0, k5⟩ := hp o h1
    obtain ⟨h2, h3, h4⟩ := hB.row k0
    simp only at h2 h3 h4
    subst hn
    rcases k5 with hcap | ⟨β, k5, k6, k7⟩
    · subst hcap
      have he : els = [] := List.eq_nil_of_length_eq_zero (by omega)
      subst he
      exact .sl sz false [] A 0 0 0 (fun _ _ => undef) (by simp) (by simp [maxLen]) (by simp) (fun _ => rfl) (by simp) (fun h => absurd rfl h) (fun i el f x hi => by simp at hi) (fun i el f x hi => by simp at hi)
    · rw [k5] at h4
      obtain ⟨cur, e, q1, q2, q3⟩ := h4
      rw [Nat.zero_mul] at k6
      refine .sl sz false els A cap β 0 (fun i f => (cur[i * sz + f]?).getD undef) k2 k3 (by simp) k4 h3 (fun _ => ⟨k6, fun _ => hst' o β h1 k5⟩) (fun i el f x hi hx => ?_) (fun i el f x hi hx => ?_)
      · obtain ⟨z, r1, r2, r3⟩ := q3 i el f x hi hx
        rw [r1]
        refine ⟨?_, r2⟩
        rw [cell_row q1, Nat.zero_add]
        exact r1
      · obtain ⟨z, r1, r2, r3⟩ := q3 i el f x hi hx
        rw [r1]
        exact r3.closed (hcl el x (List.mem_of_getElem? hi) (List.mem_of_getElem? hx)) c' (fun β' hb' => ⟨hst β' hb', rfl⟩)

/-- Slots behind a slice's freezing. -/
def FrFz (fr : List (Nat × AV)) (b g sz : Nat) (els : List (List AV)) : List (Nat × AV) → Prop
  | [] => True
  | (t, v) :: r => (lkA fr t = v ∨ (∃ n, lkA fr t = .own b g 0 n ∧ n = els.length ∧ v = .sl sz false els)) ∧ FrFz fr b g sz els r
def HpFz (hp : List (Nat × Option Blk)) (b : Nat) : List (Nat × Option Blk) → Prop
  | [] => True
  | (t, v) :: r => (lkH hp t = v ∧ Nat.beq t b = false) ∧ HpFz hp b r
theorem FrFz.spec {fr : List (Nat × AV)} {b g sz : Nat} {els : List (List AV)} : ∀ {l : List (Nat × AV)}, FrFz fr b g sz els l → ∀ t, lkA l t = lkA fr t ∨ (lkA fr t = .own b g 0 els.length ∧ lkA l t = .sl sz false els) ∨ lkA l t = .dead
  | [], _, _ => .inr (.inr rfl)
  | (k, v) :: r, h, t => by
    rw [lkA_cons]
    split
    · rename_i e
      subst e
      rcases h.1 with h1 | ⟨n, h1, h2, h3⟩
      · exact .inl h1.symm
      · subst h2
        exact .inr (.inl ⟨h1, h3⟩)
    · exact FrFz.spec h.2 t
theorem HpFz.spec {hp : List (Nat × Option Blk)} {b : Nat} : ∀ {l : List (Nat × Option Blk)}, HpFz hp b l → ∀ t, (lkH l t = lkH hp t ∧ t ≠ b) ∨ lkH l t = none
  | [], _, _ => .inr rfl
  | (k, v) :: r, h, t => by
    rw [lkH_cons]
    split
    · rename_i e
      subst e
      refine .inl ⟨h.1.1.symm, fun e => ?_⟩
      have := h.1.2
      rw [e, Nat.beq_refl] at this
      cases this
    · exact HpFz.spec h.2 t

theorem awp_freeze {C : ACtx} {fr fr' : List (Nat × AV)} {hp hp' : List (Nat × Option Blk)} {gc : Nat} {c : Code} {Q : Exit → AS → Prop} (b g sz : Nat) (els : List (List AV)) (hb : lkH hp b = some ⟨g, sz, els⟩) (hcl : ∀ el x, el ∈ els → x ∈ el → Closed x)
    (h1 : FrFz fr b g sz els fr') (h2 : HpFz hp b hp') (k : awp C c ⟨fr', hp', gc⟩ Q) : awp C c ⟨fr, hp, gc⟩ Q := by
  refine awp_weaken (fun a w ⟨c0, hS, hu⟩ => ?_) k
  classical
  let c' : RC := ⟨fun b' g' => if lkH hp' b' = none then none else c0.own b' g', c0.used, fun β => c0.st β ∨ ∃ o, c0.own b g = some o ∧ o.loc = some β⟩
  have hst1 : ∀ β, c0.st β → c'.st β := fun β hβ => .inl hβ
  have hm : Mono c0 c' w w := ⟨fun β hb => ⟨hst1 β hb, rfl⟩, fun g hg => hg, fun b g o _ ho => by
    simp only [c'] at ho
    split at ho
    · cases ho
    · exact ho⟩
  have hne : ∀ b', lkH hp' b' ≠ none → lkH hp' b' = lkH hp b' ∧ b' ≠ b := by
    intro b' hb'
    rcases h2.spec b' with e | e
    · exact e
    · exact absurd e hb'
  refine ⟨c', ⟨hS.nd.step (fun _ hb => ⟨.inl hb, rfl⟩), hS.sz, fun t => ?_, fun b' blk hb' => ?_, fun b' g' o ho => ?_, fun b1 g1 o1 b2 g2 o2 β q1 q2 q3 q4 => ?_, fun β hβ => ?_, fun β hβ => .inl (hS.st0 β hβ), hS.old, hS.mo.trans hm⟩, hu⟩
  · rcases h1.spec t with e | ⟨e1, e2⟩ | e
    · simp only [e]; exact (hS.fr t).mono hm
    · simp only [e2]
      have := hS.fr t
      simp only [e1] at this
      exact own_to_sl hS hb hcl hst1 (fun o β ho hβ => .inr ⟨o, ho, hβ⟩) this
    · simp only [e]; exact .dead _
  · have hb'' : lkH hp' b' = some blk := hb'
    obtain ⟨e1, e2⟩ := hne b' (by rw [hb'']; simp)
    obtain ⟨o, q1, q2⟩ := hS.hp b' blk (by simp only; rw [← e1]; exact hb'')
    refine ⟨o, ?_, q2.mono hm (fun _ _ => rfl)⟩
    simp only [c']
    rw [if_neg (by rw [hb'']; simp)]
    exact q1
  · simp only [c'] at ho
    split at ho
    · cases ho
    · rename_i hn
      obtain ⟨e1, e2⟩ := hne b' hn
      obtain ⟨q1, ⟨blk, q2, q3⟩, q4⟩ := hS.al b' g' o ho
      refine ⟨q1, ⟨blk, e1.trans q2, q3⟩, fun β hβ => ?_⟩
      obtain ⟨r1, r2, r3⟩ := q4 β hβ
      refine ⟨r1, fun hs => ?_, r3⟩
      rcases hs with hs | ⟨o', ho', hl'⟩
      · exact r2 hs
      · exact e2 (hS.inj b' g' o b g o' β ho ho' hβ hl').1
  · simp only [c'] at q1 q2
    split at q1
    · cases q1
    · split at q2
      · cases q2
      · exact hS.inj b1 g1 o1 b2 g2 o2 β q1 q2 q3 q4
  · rcases hβ with hβ | ⟨o, ho, hl⟩
    · exact hS.st β hβ
    · obtain ⟨r1, r2, r3⟩ := (hS.al b g o ho).2.2 β hl
      exact ⟨r1, .inr r3⟩

/-- A region other than that of number m. -/
theorem awp_region_ne {C : ACtx} {s : AS} {Q : Exit → AS → Prop} {id : Nat} {l : List Oper} {draw : Bool} (m : Nat) (_ : Nat.beq id m = false) (hm : draw = true → C.P.follows .mixedOrders = true) (h : ARun C l.toArray (regK draw l Q) 0 l s []) : awp C (.region id l.toArray draw) s Q := awp_region hm h
theorem own_closed_map {α : Type} {f : α → List AV} {l : List α} (h : ∀ a x, x ∈ f a → Closed x) : ∀ el x, el ∈ l.map f → x ∈ el → Closed x := fun el x hel hx => by
  obtain ⟨a, _, rfl⟩ := List.mem_map.1 hel
  exact h a x hx
end Go.Proofs.Ytedfegoafallhaa
