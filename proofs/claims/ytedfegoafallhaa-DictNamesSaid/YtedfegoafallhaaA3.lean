/- Walks over abstract states: rules for each form of code; contracts of functions that only compute. -/
import Derived.Test.YtedfegoafallhaaA2
namespace Go.Proofs.Ytedfegoafallhaa
set_option linter.unusedVariables false
set_option linter.unusedSimpArgs false
open Go Go.RowKit

def SimE (C : ACtx) (s : AS) (a : Act) (w : World) : Prop := ∃ c, Sim C s c a w ∧ ∀ g, c.used g → g < s.gc
def awp (C : ACtx) (c : Code) (s : AS) (Q : Exit → AS → Prop) : Prop :=
  ∀ (a : Act) (w : World), SimE C s a w → c.wpIn (fenceR C.rd.1) 0 C.P (fun e a' w' => ∃ s', SimE C s' a' w' ∧ Q e s') a w

theorem wp_loop_ex {rd : Option Nat} {P : Program} {Q : Exit → Act → World → Prop} {a : Act} {w : World} {c : Code} {T : Type} {t : T} (I : T → Act → World → Prop) (μ : T → Nat) (h₀ : I t a w)
    (round : ∀ t a w, I t a w → c.wpIn (fenceR rd) 0 P (Exit.then (fun a' w' => ∃ t', I t' a' w' ∧ μ t' < μ t) Q) a w) : (Code.loop c).wpIn (fenceR rd) 0 P Q a w := by
  intro b k cs hro hb hr
  have key : ∀ n t a w, μ t = n → I t a w →
      ∃ e a' w', Q e a' w' ∧ ArrivesIn (Machine.fenced P (fenceR rd)) P (lone (b.atR a (.code c :: .inLoop c :: k)) cs w) b k cs e a' w' := by
    intro n
    induction n using Nat.strongRecOn with
    | _ n ih =>
      intro t a w hn hI
      obtain ⟨e, a₁, w₁, hq, harr⟩ := round t a w hI b (.inLoop c :: k) cs hro hb hr
      cases e with
      | normal =>
        obtain ⟨t₁, hI₁, hlt⟩ := hq
        obtain ⟨e₂, a₂, w₂, hq₂, harr₂⟩ := ih (μ t₁) (hn ▸ hlt) t₁ a₁ w₁ rfl hI₁
        exact ⟨e₂, a₂, w₂, hq₂, .of_steps (StepsIn.trans harr (.one (fenced_calm hb hr rfl) stepR_inLoop)) harr₂⟩
      | exit id => exact ⟨_, a₁, w₁, hq, .pass (x := .inLoop c) rfl (fun _ _ => .inl (by simp)) harr⟩
      | goto l => exact ⟨_, a₁, w₁, hq, .pass (x := .inLoop c) rfl (fun _ _ => .inl (by simp)) harr⟩
      | ret => exact ⟨_, a₁, w₁, hq, .pass (x := .inLoop c) rfl (fun _ _ => .inl (by simp)) harr⟩
      | panic ch => exact ⟨_, a₁, w₁, hq, .pass (x := .inLoop c) rfl (fun _ _ => .inl (by simp)) harr⟩
      | outgrown => exact ⟨_, a₁, w₁, hq, .pass (x := .inLoop c) rfl (fun _ _ => .inl (by simp)) harr⟩
  obtain ⟨e, a', w', hq, harr⟩ := key _ t a w rfl h₀
  exact ⟨e, a', w', hq, .of_steps (.one (fenced_calm hb hr rfl) stepR_loop) harr⟩

section
variable {C : ACtx} {s : AS} {Q : Exit → AS → Prop}
theorem awp_mono {c : Code} {Q' : Exit → AS → Prop} (h : awp C c s Q) (hq : ∀ e s, Q e s → Q' e s) : awp C c s Q' :=
  fun a w hs => wpIn_mono (h a w hs) (fun e a' w' ⟨s', h1, h2⟩ => ⟨s', h1, hq e s' h2⟩)
theorem awp_skip (h : Q .normal s) : awp C .skip s Q := fun _ _ hs => wpIn_skip ⟨s, hs, h⟩
theorem awp_label {l : Nat} (h : Q .normal s) : awp C (.label l) s Q := fun _ _ hs => wpIn_label ⟨s, hs, h⟩
theorem awp_exit {id : Nat} (h : Q (.exit id) s) : awp C (.exit id) s Q := fun _ _ hs => wpIn_exit ⟨s, hs, h⟩
theorem awp_ret (h : Q .ret s) : awp C .ret s Q := fun _ _ hs => wpIn_ret ⟨s, hs, h⟩
/-- What comes next, if nothing leaves. -/
def thenA (next : AS → Prop) (Q : Exit → AS → Prop) : Exit → AS → Prop
  | .normal, s => next s
  | e, s => Q e s
theorem awp_seq {x y : Code} (h : awp C x s (thenA (fun s' => awp C y s' Q) Q)) : awp C (.seq x y) s Q := fun a w hs =>
  wpIn_seq (wpIn_mono (h a w hs) (fun e a' w' ⟨s', h1, h2⟩ => by
    cases e <;> first
      | exact h2 a' w' h1
      | exact ⟨s', h1, h2⟩))
def blockA (id : Nat) (Q : Exit → AS → Prop) : Exit → AS → Prop
  | .exit id', s => if id' = id then Q .normal s else Q (.exit id') s
  | e, s => Q e s
theorem awp_block {id : Nat} {c : Code} (h : awp C c s (blockA id Q)) : awp C (.block id c) s Q := fun a w hs =>
  wpIn_block (wpIn_mono (h a w hs) (fun e a' w' ⟨s', h1, h2⟩ => by
    cases e with
    | exit id' =>
      simp only [Exit.inBlock, blockA] at h2 ⊢
      split
      · rename_i hid; rw [if_pos hid] at h2; exact ⟨s', h1, h2⟩
      · rename_i hid; rw [if_neg hid] at h2; exact ⟨s', h1, h2⟩
    | _ => exact ⟨s', h1, h2⟩))
theorem awp_cond {x : Operand} {c d : Code} {b : Bool} (hv : s.ev x = .val (.bool b)) (ht : b = true → awp C c s Q) (hf : b = false → awp C d s Q) : awp C (.cond x c d) s Q := by
  intro a w hs
  have he : a.eval x = .bool b := by
    obtain ⟨c', hS, _⟩ := hs
    have := hS.ev x
    rw [hv] at this
    generalize a.eval x = u at this
    cases this
    rfl
  exact wpIn_cond_split he (fun e => ht e a w hs) (fun e => hf e a w hs)
theorem awp_weaken {c : Code} {s' : AS} (h : ∀ a w, SimE C s a w → SimE C s' a w) (k : awp C c s' Q) : awp C c s Q := fun a w hs => k a w (h a w hs)

/-- A loop: what holds at each round's head, and a number that each round lowers. -/
theorem awp_loop {c : Code} (I : AS → Prop) (μ : AS → Nat) (h0 : I s) (round : ∀ s, I s → awp C c s (thenA (fun s' => ∃ s'', (∀ a w, SimE C s' a w → SimE C s'' a w) ∧ I s'' ∧ μ s'' < μ s) Q)) : awp C (.loop c) s Q := by
  intro a w hs
  refine wp_loop_ex (I := fun (t : AS) a w => SimE C t a w ∧ I t) μ ⟨hs, h0⟩ (fun t a w ht => ?_)
  refine wpIn_mono (round t ht.2 a w ht.1) (fun e a' w' ⟨s', h1, h2⟩ => ?_)
  cases e with
  | normal =>
    obtain ⟨s'', k1, k2, k3⟩ := h2
    exact ⟨s'', ⟨k1 a' w' h1, k2⟩, k3⟩
  | _ => exact ⟨s', h1, h2⟩
end

/-- The operations of a region, in the text's order; the blocks that each reads, and writes. -/
def ARun (C : ACtx) (ops : Array Oper) (K : AS → List (List Nat × List Nat) → Prop) : Nat → List Oper → AS → List (List Nat × List Nat) → Prop
  | _, [], s, fps => K s fps
  | k, o :: rest, s, fps => ∃ it : It, it.k = k ∧ it.o = o ∧ ItOk C ops s it ∧ ARun C ops K (k + 1) rest (it.app s) (fps ++ [(it.rd.map (·.1), it.ups.map (·.1))])
def AS.bump (s : AS) (n : Nat) : AS := ⟨s.fr, s.hp, s.gc + n⟩

def It.fp (it : It) : List Nat × List Nat := (it.rd.map (·.1), it.ups.map (·.1))

theorem ARun.spec {C : ACtx} {ops : Array Oper} {K : AS → List (List Nat × List Nat) → Prop} : ∀ (l : List Oper) (k : Nat) (s : AS) (fps : List (List Nat × List Nat)), ARun C ops K k l s fps →
    ∃ its : List It, its.length = l.length ∧ Valid C ops s its ∧ (∀ j it, its[j]? = some it → it.k = k + j ∧ l[j]? = some it.o) ∧ K (final s its) (fps ++ its.map It.fp)
  | [], k, s, fps, h => ⟨[], rfl, trivial, by simp, by rw [List.map_nil, List.append_nil]; exact h⟩
  | o :: l, k, s, fps, h => by
    obtain ⟨it, h1, h2, h3, h4⟩ := h
    obtain ⟨its, g1, g2, g3, g4⟩ := ARun.spec l (k + 1) _ _ h4
    refine ⟨it :: its, by simp [g1], ⟨h3, g2⟩, fun j jt hj => ?_, ?_⟩
    · cases j with
      | zero =>
        simp only [List.getElem?_cons_zero, Option.some.injEq] at hj
        subst hj
        exact ⟨h1, by simp [h2]⟩
      | succ j =>
        have := g3 j jt (by simpa using hj)
        exact ⟨by omega, by simpa using this.2⟩
    · rw [List.append_assoc] at g4
      exact g4

theorem final_gc : ∀ (its : List It) (s : AS), (final s its).gc = s.gc
  | [], _ => rfl
  | it :: its, s => final_gc its (it.app s)

def regK (draw : Bool) (l : List Oper) (Q : Exit → AS → Prop) : AS → List (List Nat × List Nat) → Prop := fun s fps => (draw = true → regOk l fps = true) ∧ ∃ s' : AS, s.eqv s' ∧ Q .normal (s'.bump l.length)
theorem awp_region {C : ACtx} {s : AS} {Q : Exit → AS → Prop} {id : Nat} {l : List Oper} {draw : Bool} (hm : draw = true → C.P.follows .mixedOrders = true)
    (h : ARun C l.toArray (regK draw l Q) 0 l s []) : awp C (.region id l.toArray draw) s Q := by
  intro a w ⟨c, hS, hu⟩
  obtain ⟨its, h1, h2, h3, h4⟩ := ARun.spec l 0 s [] h
  rw [List.nil_append] at h4
  obtain ⟨h4a, sF, heF, h4b⟩ := h4
  have hQ : ∀ s' c a w, Sim C s' c a w → s'.eqv (final s its) → (∀ g, c.used g → g < s.gc ∨ ∃ k, k < l.length ∧ g = s.gc + k) → ∃ s'', SimE C s'' a w ∧ Q .normal s'' := by
    intro s' c' a' w' hS' he hu'
    refine ⟨_, ⟨c', hS'.congr (s' := sF.bump l.length) (he.trans heF).fr (he.trans heF).hp, fun g hg => ?_⟩, h4b⟩
    have := hu' g hg
    show g < sF.gc + l.length
    rw [← heF.gc, final_gc]
    rcases this with h | ⟨k, hk, e⟩ <;> omega
  cases draw with
  | false =>
    refine wpIn_region ?_
    rw [List.range_eq_range', show l.toArray.size = its.length by simp [h1]]
    exact reg_seq (Q := fun e a' w' => ∃ s', SimE C s' a' w' ∧ Q e s') (s0 := s) (F := final s its) (fun g => g < s.gc) l.length hQ (fun k => by omega) its 0 s c a w hS rfl h2 (AS.eqv.refl _) (fun j it hj => ⟨by simpa using (h3 j it hj).1, by rw [Nat.zero_add]; simpa using (h3 j it hj).2⟩) (by omega) (fun g hg => .inl (hu g hg))
  | true =>
    have hr := h4a rfl
    unfold regOk at hr
    rw [Bool.and_eq_true, Bool.and_eq_true] at hr
    obtain ⟨⟨hr1, hr2⟩, hr3⟩ := hr
    refine wpIn_region_any (hm rfl) ?_
    have hlt : ∀ (k : Nat) (o : Oper), l[k]? = some o → ∀ e ∈ o.after, Region.binds .any e = true → e.on < k := by
      intro k o ho e he hb
      have := List.all_eq_true.1 hr1 (o, k) (by rw [List.mem_zipIdx_iff_getElem?]; exact ho)
      have := List.all_eq_true.1 this e (by simpa using he)
      simpa [hb] using this
    have hget : ∀ j, j < l.length → (Array.replicate l.length false).getD j false = false := by
      intro j hj
      simp [Array.getD_eq_getD_getElem?, hj]
    have hS' : Sim C s c a { w with drawn := w.drawn + 1 } := hS.drew
    have := reg_any (l := l) (Q := fun e a' w' => ∃ s', SimE C s' a' w' ∧ Q e s') hlt (s0 := s) (F := final s its) (fun g => g < s.gc) hQ (fun k => by omega) its.length (Array.replicate l.length false) s c a { w with drawn := w.drawn + 1 } its rfl (by simp) hS' rfl h2 (AS.eqv.refl _) (fun g hg => .inl (hu g hg))
      (fun it hit => by
        obtain ⟨j, hj⟩ := List.getElem?_of_mem hit
        have h5 := h3 j it hj
        rw [h5.1, Nat.zero_add]
        simpa using h5.2)
      (fun it hit => by
        obtain ⟨j, hj⟩ := List.getElem?_of_mem hit
        have h5 := h3 j it hj
        have hjl : j < its.length := (List.getElem?_eq_some_iff.1 hj).1
        rw [Nat.zero_add] at h5
        exact ⟨hget _ (by omega), by omega⟩)
      (fun k hk _ => by
        refine ⟨its[k]'(by omega), List.getElem_mem _, ?_⟩
        have := (h3 k _ (List.getElem?_eq_getElem (by omega))).1
        omega)
      (by
        rw [List.pairwise_iff_getElem]
        intro i j hi hj hij
        have hi' := h3 i _ (List.getElem?_eq_getElem hi)
        have hj' := h3 j _ (List.getElem?_eq_getElem hj)
        rw [Nat.zero_add] at hi' hj'
        refine ⟨by omega, ?_⟩
        have hzi : (l.zip (its.map It.fp))[i]? = some (its[i].o, its[i].fp) := by
          rw [List.getElem?_zip_eq_some]
          exact ⟨hi'.2, by simp [hi]⟩
        have hzj : (l.zip (its.map It.fp))[j]? = some (its[j].o, its[j].fp) := by
          rw [List.getElem?_zip_eq_some]
          exact ⟨hj'.2, by simp [hj]⟩
        have hp := (pairsOk_spec l.toArray (ancAll l []) (l.zip (its.map It.fp)) 0 [] hr3 j _ _ hzj).2 i _ _ hzi hij
        rw [Nat.zero_add, Nat.zero_add] at hp
        unfold pairOk at hp
        rw [Bool.or_eq_true] at hp
        rcases hp with hp | hp
        · left
          rw [hi'.1, hj'.1]
          cases hg : (ancAll l [])[j]? with
          | none => rw [List.getD_eq_getElem?_getD, hg] at hp; simp at hp
          | some m =>
            rw [List.getD_eq_getElem?_getD, hg] at hp
            exact ancAll_spec l l [] (fun k o hk => by simpa using hk) (fun k m i hk => by simp at hk) j m i hg hp
        · right
          rw [Bool.and_eq_true, Bool.and_eq_true, Bool.and_eq_true] at hp
          obtain ⟨⟨⟨p1, p2⟩, p3⟩, p4⟩ := hp
          have f2 := disj_spec p2
          have f3 := disj_spec p3
          have f4 := disj_spec p4
          exact ⟨p1, fun p hp q hq => f2 _ (List.mem_map_of_mem hp) _ (List.mem_map_of_mem hq), fun p hp q hq => f3 _ (List.mem_map_of_mem hp) _ (List.mem_map_of_mem hq), fun p hp q hq => f4 _ (List.mem_map_of_mem hp) _ (List.mem_map_of_mem hq)⟩)
      (fun j o hj hjl => by
        have := hget j (List.getElem?_eq_some_iff.1 hj).1
        rw [this] at hjl
        cases hjl)
    rw [show l.toArray.size = its.length by simp [h1]]
    simpa [h1] using this

theorem ARun.eqv {C : ACtx} {ops : Array Oper} {draw : Bool} {l0 : List Oper} {Q : Exit → AS → Prop} : ∀ (l : List Oper) {k : Nat} {s s' : AS} {fps : List (List Nat × List Nat)}, ARun C ops (regK draw l0 Q) k l s fps → s.eqv s' → ARun C ops (regK draw l0 Q) k l s' fps
  | [], _, _, _, _, ⟨h1, sF, h2, h3⟩, e => ⟨h1, sF, e.symm.trans h2, h3⟩
  | o :: l, k, s, s', fps, ⟨it, h1, h2, h3, h4⟩, e => ⟨it, h1, h2, h3.eqv e, ARun.eqv l h4 (app_eqv e it)⟩

/-- Less is known: of the frame, of the call's own memory. -/
def FrLe (l : List (Nat × AV)) : List (Nat × AV) → Prop
  | [] => True
  | (t, v) :: r => lkA l t = v ∧ FrLe l r
def HpLe (l : List (Nat × Option Blk)) : List (Nat × Option Blk) → Prop
  | [] => True
  | (t, v) :: r => lkH l t = v ∧ HpLe l r
theorem FrLe.spec {l : List (Nat × AV)} : ∀ {l' : List (Nat × AV)}, FrLe l l' → ∀ t, lkA l' t = lkA l t ∨ lkA l' t = .dead
  | [], _, _ => .inr rfl
  | (k, v) :: r, h, t => by
    rw [lkA_cons]
    split
    · rename_i e
      subst e
      exact .inl h.1.symm
    · exact FrLe.spec h.2 t
theorem HpLe.spec {l : List (Nat × Option Blk)} : ∀ {l' : List (Nat × Option Blk)}, HpLe l l' → ∀ t, lkH l' t = lkH l t ∨ lkH l' t = none
  | [], _, _ => .inr rfl
  | (k, v) :: r, h, t => by
    rw [lkH_cons]
    split
    · rename_i e
      subst e
      exact .inl h.1.symm
    · exact HpLe.spec h.2 t

theorem SimE.le {C : ACtx} {s s' : AS} {a : Act} {w : World} (h : SimE C s a w) (h1 : FrLe s.fr s'.fr) (h2 : HpLe s.hp s'.hp) (h3 : s.gc ≤ s'.gc) : SimE C s' a w := by
  classical
  obtain ⟨c, hS, hu⟩ := h
  let c' : RC := ⟨fun b g => if lkH s'.hp b = none then none else c.own b g, c.used, c.st⟩
  have hm : Mono c c' w w := ⟨fun β hb => ⟨hb, rfl⟩, fun g hg => hg, fun b g o _ ho => by
    simp only [c'] at ho
    split at ho
    · cases ho
    · exact ho⟩
  refine ⟨c', ⟨hS.nd.step (fun _ hb => ⟨hb, rfl⟩), hS.sz, fun t => ?_, fun b blk hb => ?_, fun b g o ho => ?_, fun b g o b' g' o' β h h' => ?_, hS.st, hS.st0, hS.old, hS.mo.trans hm⟩, fun g hg => Nat.lt_of_lt_of_le (hu g hg) h3⟩
  · rcases h1.spec t with e | e
    · rw [e]; exact (hS.fr t).mono hm
    · rw [e]; exact .dead _
  · have e : lkH s'.hp b = lkH s.hp b := by
      rcases h2.spec b with e | e
      · exact e
      · rw [e] at hb; cases hb
    obtain ⟨o, q1, q2⟩ := hS.hp b blk (e ▸ hb)
    refine ⟨o, ?_, q2.mono hm (fun _ _ => rfl)⟩
    simp only [c']
    rw [if_neg (by rw [hb]; simp)]
    exact q1
  · simp only [c'] at ho
    split at ho
    · cases ho
    · rename_i hne
      have e : lkH s'.hp b = lkH s.hp b := by
        rcases h2.spec b with e | e
        · exact e
        · exact absurd e hne
      obtain ⟨q1, ⟨blk, q2, q3⟩, q4⟩ := hS.al b g o ho
      exact ⟨q1, ⟨blk, e.trans q2, q3⟩, q4⟩
  · simp only [c'] at h h'
    split at h
    · cases h
    · split at h'
      · cases h'
      · exact hS.inj b g o b' g' o' β h h'

/-- A loop, by an index. -/
theorem awp_loopT {C : ACtx} {s : AS} {Q : Exit → AS → Prop} {c : Code} {T : Type} (S : T → AS) (I : T → Prop) (μ : T → Nat) (t0 : T) (h0 : I t0) (hs : FrLe s.fr (S t0).fr ∧ HpLe s.hp (S t0).hp ∧ s.gc ≤ (S t0).gc)
    (round : ∀ t, I t → awp C c (S t) (thenA (fun s' => ∃ t', (FrLe s'.fr (S t').fr ∧ HpLe s'.hp (S t').hp ∧ s'.gc ≤ (S t').gc) ∧ I t' ∧ μ t' < μ t) Q)) : awp C (.loop c) s Q := by
  intro a w hsim
  refine wp_loop_ex (I := fun (t : T) a w => SimE C (S t) a w ∧ I t) μ (t := t0) ⟨hsim.le hs.1 hs.2.1 hs.2.2, h0⟩ (fun t a w ht => ?_)
  refine wpIn_mono (round t ht.2 a w ht.1) (fun e a' w' ⟨s', h1, h2⟩ => ?_)
  cases e with
  | normal =>
    obtain ⟨t', k1, k2, k3⟩ := h2
    exact ⟨t', ⟨h1.le k1.1 k1.2.1 k1.2.2, k2⟩, k3⟩
  | _ => exact ⟨s', h1, h2⟩
end Go.Proofs.Ytedfegoafallhaa
