/- A literal row of bytes that is marked as a text's (a conversion to its own type). -/
import Derived.Test.YtedfegoafallhaaD7
namespace Go.Proofs.Ytedfegoafallhaa
set_option linter.unusedVariables false
set_option linter.unusedSimpArgs false
open Go Go.RowKit
set_option maxRecDepth 100000

/-- A block of the call's own turns, and never turns again. -/
theorem Sim.seal {C : ACtx} {s : AS} {c : RC} {a : Act} {w w' : World} (hS : Sim C s c a w) (b g : Nat) (o : OB) (β : Nat) (ho : c.own b g = some o) (hl : o.loc = some β)
    (hos : w'.os = w.os) (hta : w'.tape = w.tape) (hou : w'.output = w.output) (hsz : w'.heap.size = w.heap.size) (hbl : ∀ γ, γ ≠ β → w'.heap[γ]? = w.heap[γ]?)
    (d : Option Nat) (v : AV) (u : Value) (hd : ∀ e, d = some e → e < C.n) (hv : d ≠ none → (∀ γ, c.st γ → c.st γ ∧ w'.heap[γ]? = w.heap[γ]?) → Rep ⟨fun b' g' => if b' = b then none else c.own b' g', c.used, fun γ => c.st γ ∨ γ = β⟩ w' v u) :
    Sim C (s.app d v [(b, none)]) ⟨fun b' g' => if b' = b then none else c.own b' g', c.used, fun γ => c.st γ ∨ γ = β⟩ (a.put d u) w' := by
  obtain ⟨_, _, hβ⟩ := hS.al b g o ho
  obtain ⟨z1, z2, z3⟩ := hβ β hl
  have hst : ∀ γ, c.st γ → γ ≠ β := fun γ hγ e => z2 (e ▸ hγ)
  have hm : Mono c ⟨fun b' g' => if b' = b then none else c.own b' g', c.used, fun γ => c.st γ ∨ γ = β⟩ w w' := ⟨fun γ hγ => ⟨.inl hγ, hbl γ (hst γ hγ)⟩, fun g hg => hg, fun b' g' o' _ ho' => by
    simp only at ho'
    split at ho'
    · cases ho'
    · exact ho'⟩
  refine ⟨(Act.put_nd a d u).symm ▸ hS.nd.step hm.st, (Act.put_size a d u).trans hS.sz, fr_put hS hm d v u hd (fun h => hv h (fun γ hγ => ⟨hγ, hbl γ (hst γ hγ)⟩)), fun b' blk hb => ?_, fun b' g' o' ho' => ?_, fun b1 g1 o1 b2 g2 o2 γ q1 q2 q3 q4 => ?_, fun γ hγ => ?_, fun γ hγ => .inl (hS.st0 γ hγ), hS.old.trans' hos hta hou (Nat.le_of_eq hsz.symm) (fun k hk hkl => hbl k (fun e => ?_)), hS.mo.trans hm⟩
  · simp only [AS.app, List.cons_append, List.nil_append, lkH_cons] at hb
    split at hb
    · cases hb
    · rename_i hne
      obtain ⟨o', q1, q2⟩ := hS.hp b' blk hb
      refine ⟨o', by simp only; rw [if_neg hne]; exact q1, q2.mono hm (fun γ hγ => hbl γ (fun e => ?_))⟩
      subst e
      exact hne (hS.inj b' _ o' b g o γ q1 ho hγ hl).1
  · simp only at ho'
    split at ho'
    · cases ho'
    · rename_i hne
      obtain ⟨q1, ⟨blk, q2, q3⟩, q4⟩ := hS.al b' g' o' ho'
      refine ⟨q1, ⟨blk, by simp only [AS.app, List.cons_append, List.nil_append, lkH_cons]; rw [if_neg hne]; exact q2, q3⟩, fun γ hγ => ?_⟩
      obtain ⟨r1, r2, r3⟩ := q4 γ hγ
      refine ⟨by omega, fun hs => ?_, r3⟩
      rcases hs with hs | hs
      · exact r2 hs
      · subst hs
        exact hne (hS.inj b' g' o' b g o γ ho' ho hγ hl).1
  · simp only at q1 q2
    split at q1
    · cases q1
    · split at q2
      · cases q2
      · exact hS.inj b1 g1 o1 b2 g2 o2 γ q1 q2 q3 q4
  · rcases hγ with hγ | hγ
    · obtain ⟨r1, r2⟩ := hS.st γ hγ
      exact ⟨by omega, r2⟩
    · subst hγ
      exact ⟨by omega, .inr z3⟩
  · subst e
    rcases z3 with h | h
    · have := hS.old.size; omega
    · exact hkl h

theorem modify_get {α : Type} (h : Array α) (i : Nat) (f : α → α) (j : Nat) : (h.modify i f)[j]? = if i = j then h[j]?.map f else h[j]? := by
  rw [Array.getElem?_modify]

section
variable {C : ACtx} {ops : Array Oper} {K : AS → List (List Nat × List Nat) → Prop} {k : Nat} {rest : List Oper} {fr : List (Nat × AV)} {hp : List (Nat × Option Blk)} {gc : Nat} {fps : List (List Nat × List Nat)}
  {d : Nat} {ty : TypeId} {pos : String} {after : Array Edge} {gd : Option (Nat × Bool)} {x y z : Operand} {v : AV}

theorem BuildS.lens {sz : Nat} {fr : List (Nat × AV)} {ps : List (Nat × Operand)} {els els' : List (List AV)} (h : BuildS sz fr ps els els') : els'.length = els.length ∧ ((∀ el, el ∈ els → el.length = sz) → ∀ el, el ∈ els' → el.length = sz) := by
  induction h with
  | nil els => exact ⟨rfl, fun h => h⟩
  | cons hc hl hs _ ih =>
    obtain ⟨s1, s2⟩ := hs.spec
    subst s2
    obtain ⟨i1, i2⟩ := ih
    refine ⟨by rw [i1]; simp, fun h => i2 (fun el hel => ?_)⟩
    rcases List.mem_or_eq_of_mem_set hel with h' | h'
    · exact h el h'
    · rw [h']; exact hl
/-- A literal row of the call's own. -/
theorem ARun.buildSliceO {t e n : Nat} {ti te : TI} {ps : Array (Nat × Operand)} {els : List (List AV)} (ht : C.T t = some ti) (hk : ti.k = .slice e) (hte : C.T e = some te) (hz1 : te.zero.all Value.oneCell' = true) (hzl : te.zero.length = te.size) (h0 : Nat.blt 0 te.size = true)
    (hsm : Nat.ble (n * te.size) 16777216 = true) (hb : BuildS te.size fr ps.toList (List.replicate n (te.zero.map zv)) els)
    (hd : Nat.blt d C.n = true) (hg : guardIs ops ⟨fr, hp, gc⟩ ⟨some d, .buildSlice t n ps, ty, pos, after, gd⟩ true)
    (nx : ARun C ops K (k + 1) rest ⟨(d, .own d (gc + k) 0 n) :: fr, (d, some ⟨gc + k, te.size, els⟩) :: hp, gc⟩ (fps ++ [([], [d])])) : ARun C ops K k (⟨some d, .buildSlice t n ps, ty, pos, after, gd⟩ :: rest) ⟨fr, hp, gc⟩ fps := by
  have hlen : els.length = n := by rw [hb.lens.1]; simp
  have hlz : ∀ el, el ∈ els → el.length = te.size := hb.lens.2 (fun el hel => by rw [(List.mem_replicate.1 hel).2]; simp [hzl])
  refine ARun.step (.own d (gc + k) 0 n) [] [(d, some ⟨gc + k, te.size, els⟩)] hg (by simp) (does_new (dst_lt hd) rfl hlz (fun s c a w hS hev => ?_)) nx
  have h0' := lt_of_blt h0
  have hsm' := Nat.le_of_ble_eq_true hsm
  have hun := run_underlying' (und_slice ht hk) w
  have hs := run_sizeOf hte w
  obtain ⟨z, hz, hzc⟩ := run_zeroValue hte w
  obtain ⟨cells', g1, g2, g3⟩ := hb.run (c := c) (w := w) (a := a) (fun p hp => hev p.2 (by simp only [Op.operands, List.mem_toArray]; exact List.mem_map_of_mem hp)) _ (zeros_in hzc hz1 hzl h0' n)
  have hle : n ≤ 16777216 := Nat.le_trans (Nat.le_mul_of_pos_right n h0') hsm'
  have e2 : (ps.map fun (i, x) => (i, a.eval x)).toList = ps.toList.map fun p => (p.1, a.eval p.2) := by simp
  have hnot : ¬ (2 ^ 24 < n * te.size) := by omega
  have hzs : z.cells.size = te.size := by rw [← hzl, ← hzc]; simp
  have hrun : (Instr.buildSlice t n (ps.map fun (i, x) => (i, a.eval x))).run C.P w = .ok (.slice (some ⟨w.heap.size, 0, none⟩) n n) (w.alloc (.cells cells' e)) := by
    unfold Instr.buildSlice
    simp only [Sem.run_bind, hun, Result.andThen_ok, hs, gt_iff_lt, hnot, if_false, e2]
    by_cases hn : n * te.size = 0
    · have hn0 : n = 0 := by
        rcases Nat.mul_eq_zero.1 hn with h | h
        · exact h
        · omega
      subst hn0
      have he : (Array.map (fun x => z.cells[x % z.cells.size]!) (Array.range (0 * te.size))) = #[] := by simp
      rw [he] at g1
      rw [if_pos hn]
      simp only [Sem.run_bind, Sem.run_pure, Result.andThen_ok]
      have he' : (Array.map (fun x => (#[] : Array Value)[x % (#[] : Array Value).size]!) (Array.range (0 * te.size))) = #[] := by
        apply Array.eq_empty_of_size_eq_zero
        simp
      rw [he', g1]
      simp [newRow]
    · rw [if_neg hn]
      simp only [Sem.run_bind, hz, Result.andThen_ok, Sem.run_pure, g1]
      simp [newRow]
  refine ⟨.slice (some ⟨w.heap.size, 0, none⟩) n n, cells', e, by simp [execOp, hrun], fun i el f x hi hx => g2.2.2 i el f x hi hx, .own _ _ _ _ _ _ _ (.inr rfl) (fun o ho => ?_)⟩
  simp [RC.upd] at ho
  subst ho
  refine ⟨rfl, Nat.le_refl _, by simp only [maxLen]; omega, (fun h => by cases h), h0', .inr ⟨_, rfl, by simp, ?_⟩⟩
  rw [g2.1, hlen]
  simp

/-- A literal row of bytes is marked, and stays. -/
theorem ARun.convLit {t e b g gen n sz : Nat} {ti te : TI} {els : List (List AV)} (hx : evA fr x = .own b g 0 n) (hbk : lkH hp b = some ⟨gen, sz, els⟩) (hgg : gen = g) (hn : els.length = n) (h0 : Nat.blt 0 n = true) (hcl : ∀ el x, el ∈ els → x ∈ el → Closed x) (ht : C.T t = some ti) (hk : ti.k = .slice e) (hte : C.T e = some te) (hke : te.k = .int .u8)
    (hd : Nat.blt d C.n = true) (hg : guardIs ops ⟨fr, hp, gc⟩ ⟨some d, .convert t t x, ty, pos, after, gd⟩ true)
    (nx : ARun C ops K (k + 1) rest ⟨(d, .sl sz false els) :: fr, (b, none) :: hp, gc⟩ (fps ++ [([b], [b])])) : ARun C ops K k (⟨some d, .convert t t x, ty, pos, after, gd⟩ :: rest) ⟨fr, hp, gc⟩ fps := by
  refine ARun.step (.sl sz false els) [(b, ⟨gen, sz, els⟩)] [(b, none)] hg (by simp [hbk]) ?_ nx
  intro s c a w hS hf hargs hrd
  have hev : Rep c w (evA fr x) (a.eval x) := by
    rw [← args_ev hargs x (by simp [Op.operands])]
    exact hS.ev x
  rw [hx] at hev
  have hbb := hrd (b, ⟨gen, sz, els⟩) (by simp)
  subst hgg
  obtain ⟨o, h1, hB⟩ := hS.hp b _ hbb
  simp only at h1
  have h0' := lt_of_blt h0
  generalize hue : a.eval x = u at hev
  cases hev with
  | own _ _ _ _ A m cap hu hp' =>
    obtain ⟨rfl, k2, k3, k4, k0, k5⟩ := hp' o h1
    obtain ⟨h2, h3, h4⟩ := hB.row k0
    simp only at h2 h3 h4
    rcases k5 with hcap | ⟨β, k5, k6, k7⟩
    · omega
    rw [k5] at h4
    obtain ⟨cur, el0, q1, q2, q3⟩ := h4
    obtain ⟨⟨mlo, mhi⟩, hmk, q1⟩ := q1
    rw [Nat.zero_mul] at k6
    subst k6
    have hsh : w.shape? β = some (el0, cur.size) := by
      unfold World.shape?
      rw [q1]
    have hrun : (convert t t (.slice (some ⟨β, 0, none⟩) m cap)).run C.P w = .ok (.slice (some ⟨β, 0, none⟩) m cap) (w.freeze ⟨β, cur.size, none⟩ 1) := by
      simp [convert, run_underlying' (und_slice ht hk) w, run_underlying' (und_int hte hke) w, markStringish, hsh]
    have hlt : β < w.heap.size := ((hS.al b _ o h1).2.2 β k5).1
    have hw : ∀ γ, (w.freeze ⟨β, cur.size, none⟩ 1).heap[γ]? = if β = γ then some (.cells cur el0 (if mlo == mhi then (cur.size, cur.size + 1) else (min mlo cur.size, max mhi (cur.size + 1)))) else w.heap[γ]? := by
      intro γ
      show (w.heap.modify β _)[γ]? = _
      rw [modify_get]
      split
      · rename_i e
        subst e
        rw [q1]
        rfl
      · rfl
    refine wp_value (by simp [execOp, hue, hrun]; rfl) ⟨_, hS.seal (w' := w.freeze ⟨β, cur.size, none⟩ 1) b gen o β h1 k5 rfl rfl rfl (by show (w.heap.modify β _).size = _; simp) (fun γ hγ => by rw [hw, if_neg (fun e => hγ e.symm)]) (some d) _ _ (dst_lt hd) (fun _ hm => ?_), fun g hg => .inl hg⟩
    have q1' : (w.freeze ⟨β, cur.size, none⟩ 1).heap[β]? = some (.cells cur el0 (if mlo == mhi then (cur.size, cur.size + 1) else (min mlo cur.size, max mhi (cur.size + 1)))) := by rw [hw, if_pos rfl]
    subst hn
    refine .sl sz false els _ cap β 0 (fun i f => (cur[i * sz + f]?).getD undef) k2 k3 (by simp) k4 h3 (fun _ => ⟨rfl, fun _ => .inr rfl⟩) (fun i el f x hi hx => ?_) (fun i el f x hi hx => ?_)
    · obtain ⟨z, r1, r2, r3⟩ := q3 i el f x hi hx
      rw [r1]
      refine ⟨?_, r2⟩
      rw [Nat.zero_add]
      simp [World.cell?, q1', r1]
    · obtain ⟨z, r1, r2, r3⟩ := q3 i el f x hi hx
      rw [r1]
      exact (r3.closed (hcl el x (List.mem_of_getElem? hi) (List.mem_of_getElem? hx)) _ (fun γ hγ => ⟨.inl hγ, (hm γ hγ).2⟩))
end
def isV : AV → Bool
  | .val _ => true
  | _ => false
def allV : List (List AV) → Bool
  | [] => true
  | el :: l => el.all isV && allV l
theorem clo_all : ∀ {els : List (List AV)}, allV els = true → ∀ el x, el ∈ els → x ∈ el → Closed x
  | [], _, el, x, h, _ => by cases h
  | e :: l, h, el, x, hel, hx => by
    rw [allV, Bool.and_eq_true] at h
    rcases List.mem_cons.1 hel with rfl | hel
    · have := List.all_eq_true.1 h.1 x hx
      unfold isV at this
      split at this
      · exact .val _
      · cases this
    · exact clo_all h.2 el x hel hx
end Go.Proofs.Ytedfegoafallhaa
