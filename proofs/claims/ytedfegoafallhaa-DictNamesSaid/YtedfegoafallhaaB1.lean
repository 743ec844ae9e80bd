/- Slices of slices, and of texts. -/
import Derived.Test.YtedfegoafallhaaA9
namespace Go.Proofs.Ytedfegoafallhaa
set_option linter.unusedVariables false
set_option linter.unusedSimpArgs false
open Go Go.RowKit

/-- A bound, or what stands for none. -/
inductive Bnd (fr : List (Nat × AV)) : Option Operand → Nat → Nat → Prop where
  | non (d : Nat) : Bnd fr none d d
  | som {x : Operand} {kk : IntKind} {i : Int} (d : Nat) (hx : evA fr x = .val (.int kk i)) (h0 : 0 ≤ i) : Bnd fr (some x) d i.toNat

theorem Bnd.val {fr : List (Nat × AV)} {c : RC} {w : World} {a : Act} {o : Option Operand} {d n : Nat} (h : Bnd fr o d n) (hev : ∀ x, o = some x → Rep c w (evA fr x) (a.eval x)) : (o = none ∧ n = d) ∨ ∃ x kk, o = some x ∧ a.eval x = .int kk n := by
  cases h with
  | non => exact .inl ⟨rfl, rfl⟩
  | @som x kk i d hx h0 =>
    right
    have := hev x rfl
    rw [hx] at this
    refine ⟨x, kk, rfl, ?_⟩
    rw [this.val_inv, Int.toNat_of_nonneg h0]

theorem run_sliceBound' (P : Program) (w : World) (kk : IntKind) (n y : Nat) (code : BoundsCode) (h : n ≤ y) : (Instr.sliceBound (.int kk (n : Int)) y code).run P w = .ok n w := by
  have h' : ((n : Int) ≤ (y : Int)) := by omega
  simp [Instr.sliceBound, asIntOf, h]

theorem run_sliceBounds' {fr : List (Nat × AV)} {c : RC} {P : Program} {w : World} {a : Act} {lo hi : Option Operand} {isSlice : Bool} {len cap l h : Nat} (hl : Bnd fr lo 0 l) (hh : Bnd fr hi len h) (hel : ∀ x, lo = some x → Rep c w (evA fr x) (a.eval x)) (heh : ∀ x, hi = some x → Rep c w (evA fr x) (a.eval x)) (h1 : l ≤ h) (h2 : h ≤ cap) :
    (Instr.sliceBounds isSlice len cap (lo.map a.eval) (hi.map a.eval) none).run P w = .ok (l, h, cap) w := by
  unfold Instr.sliceBounds
  rcases hl.val hel with ⟨rfl, rfl⟩ | ⟨x, kx, rfl, ex⟩ <;> rcases hh.val heh with ⟨rfl, rfl⟩ | ⟨y, ky, rfl, ey⟩
  · simp
  · simp [ey, run_sliceBound' P w _ _ _ _ h2]
  · simp [ex, run_sliceBound' P w _ _ _ _ h1]
  · simp [ex, ey, run_sliceBound' P w _ _ _ _ h2, run_sliceBound' P w _ _ _ _ h1]
theorem run_sliceBounds3 {fr : List (Nat × AV)} {c : RC} {P : Program} {w : World} {a : Act} {lo : Option Operand} {hi mx : Operand} {isSlice : Bool} {len cap l h m d1 d2 : Nat} (hl : Bnd fr lo 0 l) (hh : Bnd fr (some hi) d1 h) (hm : Bnd fr (some mx) d2 m) (hel : ∀ x, lo = some x → Rep c w (evA fr x) (a.eval x)) (heh : Rep c w (evA fr hi) (a.eval hi)) (hem : Rep c w (evA fr mx) (a.eval mx)) (h1 : l ≤ h) (h2 : h ≤ m) (h3 : m ≤ cap) :
    (Instr.sliceBounds isSlice len cap (lo.map a.eval) (some (a.eval hi)) (some (a.eval mx))).run P w = .ok (l, h, m) w := by
  unfold Instr.sliceBounds
  rcases hh.val (fun x hx => by cases hx; exact heh) with ⟨h, _⟩ | ⟨y, ky, hy, ey⟩
  · cases h
  cases hy
  rcases hm.val (fun x hx => by cases hx; exact hem) with ⟨h, _⟩ | ⟨z, kz, hz, ez⟩
  · cases h
  cases hz
  rcases hl.val hel with ⟨rfl, rfl⟩ | ⟨x, kx, rfl, ex⟩
  · simp [ey, ez, run_sliceBound' P w _ _ _ _ h2, run_sliceBound' P w _ _ _ _ h3]
  · simp [ex, ey, ez, run_sliceBound' P w _ _ _ _ h1, run_sliceBound' P w _ _ _ _ h2, run_sliceBound' P w _ _ _ _ h3]

theorem sl_cut {c : RC} {w : World} {sz l h m cap : Nat} {full full' : Bool} {els : List (List AV)} {A : Option Addr} (r : Rep c w (.sl sz full els) (.slice A els.length cap)) (h1 : l ≤ h) (h2 : h ≤ els.length) (h3 : h ≤ m) (h4 : m ≤ cap) (hf : full' = true → m = h) (s : Nat) (hs : els = [] ∨ sz = s) :
    Rep c w (.sl sz full' ((els.drop l).take (h - l))) (.slice (if m = l then A else A.map (·.add (l * s))) (h - l) (m - l)) := by
  have hlen : ((els.drop l).take (h - l)).length = h - l := by rw [List.length_take, List.length_drop]; omega
  generalize hcs : Value.slice A els.length cap = u at r
  cases r with
  | sl _ _ _ A' cap' β o us hn hm hff h0 hz hA hc hr =>
    simp only [Value.slice.injEq] at hcs
    obtain ⟨rfl, _, rfl⟩ := hcs
    suffices hh : Rep c w (.sl sz full' ((els.drop l).take (h - l))) (.slice (if m = l then A else A.map (·.add (l * s))) ((els.drop l).take (h - l)).length (m - l)) by rwa [hlen] at hh
    have hget : ∀ (i : Nat) (el : List AV), ((els.drop l).take (h - l))[i]? = some el → els[l + i]? = some el := by
      intro i el hi
      rw [List.getElem?_take] at hi
      split at hi
      · rw [List.getElem?_drop] at hi; exact hi
      · cases hi
    refine .sl sz full' _ _ (m - l) β (o + l * sz) (fun i f => us (l + i) f) (by rw [hlen]; omega) (by omega) (fun hf' => by rw [hlen, hf hf']) (fun hn' => ?_) (fun el hel => hz el ?_) (fun hne => ?_) (fun i el f x hi hx => ?_) (fun i el f x hi hx => hr (l + i) el f x (hget i el hi) hx)
    · split at hn'
      · omega
      · cases A with
        | none => have := h0 rfl; omega
        | some ad => cases hn'
    · obtain ⟨i, hi⟩ := List.getElem?_of_mem hel
      exact List.mem_of_getElem? (hget i el hi)
    · have hne' : els ≠ [] := by
        intro e
        subst e
        simp at hne
      obtain ⟨e1, e2⟩ := hA hne'
      have hpos : 0 < h - l := by rw [← hlen]; exact List.length_pos_iff.2 hne
      rw [if_neg (by omega), e1]
      simp only [Option.map_some, add_lit]
      rcases hs with hs | hs
      · exact absurd hs hne'
      · rw [hs] at e2 ⊢
        exact ⟨rfl, e2⟩
    · have := hc (l + i) el f x (hget i el hi) hx
      rw [Nat.add_mul] at this
      rw [show o + l * sz + i * sz + f = o + (l * sz + i * sz) + f by omega]
      exact this

section
variable {C : ACtx} {ops : Array Oper} {K : AS → List (List Nat × List Nat) → Prop} {k : Nat} {rest : List Oper} {fr : List (Nat × AV)} {hp : List (Nat × Option Blk)} {gc : Nat} {fps : List (List Nat × List Nat)}
  {d : Nat} {ty : TypeId} {pos : String} {after : Array Edge} {gd : Option (Nat × Bool)} {x y z : Operand} {v : AV}

theorem run_sliceAt {t e : Nat} {ti te : TI} (ht : C.T t = some ti) (hk : ti.k = .slice e) (hte : C.T e = some te) (w : World) (A : Option Addr) (len cap l h m : Nat) (lo hi mx : Option Value) (hb : (Instr.sliceBounds true len cap lo hi mx).run C.P w = .ok (l, h, m) w) :
    (Instr.sliceAt t (.slice A len cap) lo hi mx).run C.P w = .ok (.slice (if m = l then A else A.map (·.add (l * te.size))) (h - l) (m - l)) w := by
  have hun := run_underlying' (und_slice ht hk) w
  have hs := run_sizeOf hte w
  simp [Instr.sliceAt, Instr.slice, hun, hb, hs]

theorem mem_slice_ops {t : TypeId} {lo hi mx : Option Operand} : (∀ z, lo = some z → z ∈ (Op.slice t x lo hi mx).operands) ∧ (∀ z, hi = some z → z ∈ (Op.slice t x lo hi mx).operands) ∧ (∀ z, mx = some z → z ∈ (Op.slice t x lo hi mx).operands) := by
  refine ⟨fun z h => ?_, fun z h => ?_, fun z h => ?_⟩ <;> subst h <;> simp [Op.operands]

/-- 's[l:h]' of a slice that never turns. -/
theorem ARun.slice {t e sz l h : Nat} {full : Bool} {els : List (List AV)} {ti te : TI} {lo hi : Option Operand} (hx : evA fr x = .sl sz full els) (hl : Bnd fr lo 0 l) (hh : Bnd fr hi els.length h) (h1 : l ≤ h) (h2 : h ≤ els.length) (ht : C.T t = some ti) (hk : ti.k = .slice e) (hte : C.T e = some te) (hs : els = [] ∨ sz = te.size)
    (hd : Nat.blt d C.n = true) (hg : guardIs ops ⟨fr, hp, gc⟩ ⟨some d, .slice t x lo hi none, ty, pos, after, gd⟩ true)
    (nx : ARun C ops K (k + 1) rest ⟨(d, .sl sz (full && h == els.length) ((els.drop l).take (h - l))) :: fr, hp, gc⟩ (fps ++ [([], [])])) : ARun C ops K k (⟨some d, .slice t x lo hi none, ty, pos, after, gd⟩ :: rest) ⟨fr, hp, gc⟩ fps :=
  ARun.quiet hd hg [] (by simp) (fun s c a w hS hev _ => by
    have h1' := hev x (by simp [Op.operands])
    rw [hx] at h1'
    obtain ⟨A, cap, hu⟩ : ∃ A cap, a.eval x = .slice A els.length cap := by
      generalize a.eval x = u at h1'
      cases h1'
      exact ⟨_, _, rfl⟩
    rw [hu] at h1'
    have hcap : els.length ≤ cap ∧ (full = true → cap = els.length) := by
      generalize hcs : Value.slice A els.length cap = u at h1'
      cases h1'
      simp only [Value.slice.injEq] at hcs
      obtain ⟨rfl, _, rfl⟩ := hcs
      exact ⟨by assumption, by assumption⟩
    have hb := run_sliceBounds' (P := C.P) (isSlice := true) (len := els.length) (cap := cap) hl hh (fun z hz => hev z (mem_slice_ops.1 z hz)) (fun z hz => hev z (mem_slice_ops.2.1 z hz)) h1 (by omega)
    have hr := run_sliceAt ht hk hte w A els.length cap l h cap _ _ _ hb
    refine ⟨.slice (if cap = l then A else A.map (·.add (l * te.size))) (h - l) (cap - l), by simp [execOp, hu, hr], sl_cut h1' h1 h2 (by omega) (Nat.le_refl _) (fun hf => ?_) te.size hs⟩
    rw [Bool.and_eq_true, beq_iff_eq] at hf
    rw [hcap.2 hf.1, hf.2]) nx
/-- 's[l:h:m]'. -/
theorem ARun.slice3 {t e sz l h m : Nat} {full : Bool} {els : List (List AV)} {ti te : TI} {lo : Option Operand} {hi mx : Operand} (hx : evA fr x = .sl sz full els) (hl : Bnd fr lo 0 l) (hh : Bnd fr (some hi) 0 h) (hm : Bnd fr (some mx) 0 m) (h1 : l ≤ h) (h2 : h ≤ els.length) (h3 : h ≤ m) (h4 : m ≤ els.length) (ht : C.T t = some ti) (hk : ti.k = .slice e) (hte : C.T e = some te) (hs : els = [] ∨ sz = te.size)
    (hd : Nat.blt d C.n = true) (hg : guardIs ops ⟨fr, hp, gc⟩ ⟨some d, .slice t x lo (some hi) (some mx), ty, pos, after, gd⟩ true)
    (nx : ARun C ops K (k + 1) rest ⟨(d, .sl sz (m == h) ((els.drop l).take (h - l))) :: fr, hp, gc⟩ (fps ++ [([], [])])) : ARun C ops K k (⟨some d, .slice t x lo (some hi) (some mx), ty, pos, after, gd⟩ :: rest) ⟨fr, hp, gc⟩ fps :=
  ARun.quiet hd hg [] (by simp) (fun s c a w hS hev _ => by
    have h1' := hev x (by simp [Op.operands])
    rw [hx] at h1'
    obtain ⟨A, cap, hu⟩ : ∃ A cap, a.eval x = .slice A els.length cap := by
      generalize a.eval x = u at h1'
      cases h1'
      exact ⟨_, _, rfl⟩
    rw [hu] at h1'
    have hcap : els.length ≤ cap := by
      generalize hcs : Value.slice A els.length cap = u at h1'
      cases h1'
      simp only [Value.slice.injEq] at hcs
      obtain ⟨rfl, _, rfl⟩ := hcs
      assumption
    have hb := run_sliceBounds3 (P := C.P) (isSlice := true) (len := els.length) (cap := cap) hl hh hm (fun z hz => hev z (mem_slice_ops.1 z hz)) (hev hi (mem_slice_ops.2.1 hi rfl)) (hev mx (mem_slice_ops.2.2 mx rfl)) h1 h3 (by omega)
    have hr := run_sliceAt ht hk hte w A els.length cap l h m _ _ _ hb
    refine ⟨.slice (if m = l then A else A.map (·.add (l * te.size))) (h - l) (m - l), by simp [execOp, hu, hr], sl_cut h1' h1 h2 h3 (by omega) (fun hf => by simpa using hf) te.size hs⟩) nx
/-- 's[l:h]' of a slice of the call's own. -/
theorem ARun.slice_own {t e b g j n l h : Nat} {blk : Blk} {ti te : TI} {lo hi : Option Operand} (hx : evA fr x = .own b g j n) (hbk : lkH hp b = some blk) (hgg : blk.gen = g) (hl : Bnd fr lo 0 l) (hh : Bnd fr hi n h) (h1 : l ≤ h) (h2 : h ≤ n) (ht : C.T t = some ti) (hk : ti.k = .slice e) (hte : C.T e = some te) (hs : blk.sz = te.size)
    (hd : Nat.blt d C.n = true) (hg : guardIs ops ⟨fr, hp, gc⟩ ⟨some d, .slice t x lo hi none, ty, pos, after, gd⟩ true)
    (nx : ARun C ops K (k + 1) rest ⟨(d, .own b g (j + l) (h - l)) :: fr, hp, gc⟩ (fps ++ [([b], [])])) : ARun C ops K k (⟨some d, .slice t x lo hi none, ty, pos, after, gd⟩ :: rest) ⟨fr, hp, gc⟩ fps :=
  ARun.quiet hd hg [(b, blk)] (by simp [hbk]) (fun s c a w hS hev hrd => by
    have h1' := hev x (by simp [Op.operands])
    rw [hx] at h1'
    generalize hu : a.eval x = u at h1'
    obtain ⟨o, ho, hB⟩ := hS.hp b blk (hrd (b, blk) (by simp))
    have hosz := hB.sz
    rw [hgg] at ho
    cases h1' with
    | own _ _ _ _ A m cap hu' hh' =>
      obtain ⟨rfl, k2, k3, k4, k0, k5⟩ := hh' o ho
      have hb := run_sliceBounds' (P := C.P) (isSlice := true) (len := m) (cap := cap) hl hh (fun z hz => hev z (mem_slice_ops.1 z hz)) (fun z hz => hev z (mem_slice_ops.2.1 z hz)) h1 (by omega)
      have hr := run_sliceAt ht hk hte w A m cap l h cap _ _ _ hb
      refine ⟨.slice (if cap = l then A else A.map (·.add (l * te.size))) (h - l) (cap - l), by simp [execOp, hu, hr], .own b g _ _ _ _ _ hu' (fun q hq => ?_)⟩
      rw [ho] at hq
      obtain rfl := Option.some.inj hq
      refine ⟨rfl, by omega, by omega, fun hn' => ?_, k0, ?_⟩
      · split at hn'
        · omega
        · cases A with
          | none => have := k4 rfl; omega
          | some ad => cases hn'
      · by_cases hc : cap = l
        · left; omega
        · rcases k5 with k5 | ⟨β, k5, k6, k7⟩
          · omega
          · right
            refine ⟨β, k5, ?_, ?_⟩
            · rw [if_neg hc, k6]
              simp only [Option.map_some, add_lit]
              rw [← hs, ← hosz, Nat.add_mul]
            · rw [show j + l + (cap - l) = j + cap by omega]; exact k7) nx
end
end Go.Proofs.Ytedfegoafallhaa
