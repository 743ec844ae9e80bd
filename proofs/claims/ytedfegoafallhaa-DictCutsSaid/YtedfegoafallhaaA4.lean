/- Operations: what each does, over abstract states. -/
import Derived.Test.YtedfegoafallhaaA3
namespace Go.Proofs.Ytedfegoafallhaa
set_option linter.unusedVariables false
set_option linter.unusedSimpArgs false
open Go Go.RowKit

def AK.agg : AK → Bool
  | .struct _ => true
  | .array _ _ => true
  | .odd => true
  | _ => false

section
variable {C : ACtx}
theorem ti_get {t : Nat} {ti : TI} (h : C.T t = some ti) : ∃ u i z, C.P.underlying t = some u ∧ C.P.info? t = some i ∧ i.zero = some z ∧ ti = ⟨akOf C.P u, i.size, i.bytes, z.cells.toList⟩ := by
  have h' := C.ok t ti h
  unfold tiOf at h'
  split at h'
  · rename_i u i hu hi
    split at h'
    · rename_i z hz
      exact ⟨u, i, z, hu, hi, hz, (Option.some.inj h').symm⟩
    · cases h'
  · cases h'
theorem run_underlying' {t : Nat} {u : TypeDesc} (h : C.P.underlying t = some u) (w : World) : (underlying t).run C.P w = .ok u w := run_underlying h w
theorem run_isAgg {t : Nat} {ti : TI} (h : C.T t = some ti) (w : World) : (isAgg t).run C.P w = .ok ti.k.agg w := by
  obtain ⟨u, i, z, hu, hi, hz, rfl⟩ := ti_get h
  unfold isAgg
  rw [Sem.run_bind, run_underlying' hu]
  cases u <;> first
    | rfl
    | (simp only [akOf]; split <;> rfl)
theorem run_sizeOf {t : Nat} {ti : TI} (h : C.T t = some ti) (w : World) : (sizeOf t).run C.P w = .ok ti.size w := by
  obtain ⟨u, i, z, hu, hi, hz, rfl⟩ := ti_get h
  simp [sizeOf, typeInfo, hi]
theorem run_zeroValue {t : Nat} {ti : TI} (h : C.T t = some ti) (w : World) : ∃ z, (zeroValue t).run C.P w = .ok z w ∧ z.cells.toList = ti.zero := by
  obtain ⟨u, i, z, hu, hi, hz, rfl⟩ := ti_get h
  exact ⟨z, by simp [zeroValue, typeInfo, hi, hz], rfl⟩
theorem und_slice {t e : Nat} {ti : TI} (h : C.T t = some ti) (hk : ti.k = .slice e) : C.P.underlying t = some (.slice e) := by
  obtain ⟨u, i, z, hu, hi, hz, rfl⟩ := ti_get h
  cases u <;> simp only [akOf, AK.slice.injEq, reduceCtorEq] at hk <;> try (split at hk <;> cases hk)
  subst hk
  exact hu
theorem und_array {t n e : Nat} {ti : TI} (h : C.T t = some ti) (hk : ti.k = .array n e) : C.P.underlying t = some (.array n e) := by
  obtain ⟨u, i, z, hu, hi, hz, rfl⟩ := ti_get h
  cases u <;> simp only [akOf, AK.array.injEq, reduceCtorEq] at hk <;> try (split at hk <;> cases hk)
  obtain ⟨rfl, rfl⟩ := hk
  exact hu
theorem und_pointer {t e : Nat} {ti : TI} (h : C.T t = some ti) (hk : ti.k = .pointer e) : C.P.underlying t = some (.pointer e) := by
  obtain ⟨u, i, z, hu, hi, hz, rfl⟩ := ti_get h
  cases u <;> simp only [akOf, AK.pointer.injEq, reduceCtorEq] at hk <;> try (split at hk <;> cases hk)
  subst hk
  exact hu
theorem und_str {t : Nat} {ti : TI} (h : C.T t = some ti) (hk : ti.k = .str) : C.P.underlying t = some .string := by
  obtain ⟨u, i, z, hu, hi, hz, rfl⟩ := ti_get h
  cases u <;> simp only [akOf, reduceCtorEq] at hk <;> try (split at hk <;> cases hk)
  exact hu
theorem und_int {t : Nat} {ti : TI} {k : IntKind} (h : C.T t = some ti) (hk : ti.k = .int k) : C.P.underlying t = some (.int k) := by
  obtain ⟨u, i, z, hu, hi, hz, rfl⟩ := ti_get h
  cases u <;> simp only [akOf, AK.int.injEq, reduceCtorEq] at hk <;> try (split at hk <;> cases hk)
  subst hk
  exact hu
theorem und_bool {t : Nat} {ti : TI} (h : C.T t = some ti) (hk : ti.k = .bool) : C.P.underlying t = some .bool := by
  obtain ⟨u, i, z, hu, hi, hz, rfl⟩ := ti_get h
  cases u <;> simp only [akOf, reduceCtorEq] at hk <;> try (split at hk <;> cases hk)
  exact hu
theorem und_struct {t : Nat} {ti : TI} {fs : List (Nat × Nat)} (h : C.T t = some ti) (hk : ti.k = .struct fs) : ∃ fields, C.P.underlying t = some (.struct fields) ∧ fs = fields.toList.map (fun f => (f.offset, szOf C.P f.type)) ∧ ∀ f ∈ fields, (C.P.info? f.type).isSome = true := by
  obtain ⟨u, i, z, hu, hi, hz, rfl⟩ := ti_get h
  cases u <;> simp only [akOf, reduceCtorEq] at hk
  split at hk
  · rename_i fields hall
    simp only [AK.struct.injEq] at hk
    exact ⟨_, hu, hk.symm, fun f hf => Array.all_eq_true'.1 hall f hf⟩
  · cases hk
end

theorem ev_eq (fr : List (Nat × AV)) (hp : List (Nat × Option Blk)) (gc : Nat) (x : Operand) : AS.ev ⟨fr, hp, gc⟩ x = evA fr x := rfl

theorem ARun.step {C : ACtx} {ops : Array Oper} {K : AS → List (List Nat × List Nat) → Prop} {k : Nat} {rest : List Oper} {fr : List (Nat × AV)} {hp : List (Nat × Option Blk)} {gc : Nat} {fps : List (List Nat × List Nat)} {o : Oper}
    (v : AV) (rd : List (Nat × Blk)) (ups : List (Nat × Option Blk)) (hg : guardIs ops ⟨fr, hp, gc⟩ o true) (hrd : ∀ p, p ∈ rd → lkH hp p.1 = some p.2)
    (hD : Does C gc k o (o.op.operands.toList.map (evA fr)) rd v ups) (h : ARun C ops K (k + 1) rest ⟨putFr fr o.dst v, ups ++ hp, gc⟩ (fps ++ [(rd.map (·.1), ups.map (·.1))])) :
    ARun C ops K k (o :: rest) ⟨fr, hp, gc⟩ fps :=
  ⟨⟨k, o, true, o.op.operands.toList.map (evA fr), rd, v, ups⟩, rfl, rfl, ⟨hg, by
    rw [if_pos rfl]
    exact ⟨List.map_congr_left (fun x _ => ev_eq fr hp gc x), hrd, hD⟩⟩, h⟩
theorem ARun.off {C : ACtx} {ops : Array Oper} {K : AS → List (List Nat × List Nat) → Prop} {k : Nat} {rest : List Oper} {fr : List (Nat × AV)} {hp : List (Nat × Option Blk)} {gc : Nat} {fps : List (List Nat × List Nat)}
    {d : Option Nat} {op : Op} {ty : TypeId} {pos : String} {after : Array Edge} {gd : Option (Nat × Bool)}
    (hg : guardIs ops ⟨fr, hp, gc⟩ ⟨d, op, ty, pos, after, gd⟩ false) (h : ARun C ops K (k + 1) rest ⟨putFr fr d (.val undef), hp, gc⟩ (fps ++ [([], [])])) :
    ARun C ops K k (⟨d, op, ty, pos, after, gd⟩ :: rest) ⟨fr, hp, gc⟩ fps :=
  ⟨⟨k, ⟨d, op, ty, pos, after, gd⟩, false, [], [], .val undef, []⟩, rfl, rfl, ⟨hg, by
    rw [if_neg (by simp)]
    exact ⟨rfl, rfl, rfl⟩⟩, h⟩

theorem wp_value {P : Program} {o : Oper} {a : Act} {w w' : World} {u : Value} {next : Act → World → Prop} {Q : Exit → Act → World → Prop} (hr : (execOp a.eval o).run P w = .ok (.value u) w') (h : next (a.put o.dst u) w') : o.wp P a w next Q := by
  unfold Oper.wp
  rw [hr]
  exact h
theorem wp_skip' {P : Program} {o : Oper} {a : Act} {w w' : World} {next : Act → World → Prop} {Q : Exit → Act → World → Prop} (hr : (execOp a.eval o).run P w = .ok .skip w') (h : next (a.put o.dst undef) w') : o.wp P a w next Q := by
  unfold Oper.wp
  rw [hr]
  exact h

/-- An operation that only reckons, or reads. -/
theorem does_quiet {C : ACtx} {G i : Nat} {o : Oper} {fr : List (Nat × AV)} {rd : List (Nat × Blk)} {v : AV} (hd : ∀ e, o.dst = some e → e < C.n)
    (h : ∀ (s : AS) (c : RC) (a : Act) (w : World), Sim C s c a w → (∀ x ∈ o.op.operands, Rep c w (evA fr x) (a.eval x)) → (∀ p, p ∈ rd → lkH s.hp p.1 = some p.2) → ∃ u, (execOp a.eval o).run C.P w = .ok (.value u) w ∧ Rep c w v u) :
    Does C G i o (o.op.operands.toList.map (evA fr)) rd v [] := by
  intro s c a w hS _ hargs hrd
  have hev : ∀ x ∈ o.op.operands, Rep c w (evA fr x) (a.eval x) := by
    intro x hx
    have he : ∀ (l : List Operand), l.map s.ev = l.map (evA fr) → ∀ x ∈ l, s.ev x = evA fr x := by
      intro l
      induction l with
      | nil => intro _ x hx; cases hx
      | cons y l ih =>
        intro h x hx
        simp only [List.map_cons, List.cons.injEq] at h
        rcases List.mem_cons.1 hx with rfl | hx
        · exact h.1
        · exact ih h.2 x hx
    rw [← he _ hargs x (by simpa using hx)]
    exact hS.ev x
  obtain ⟨u, h1, h2⟩ := h s c a w hS hev hrd
  exact wp_value h1 ⟨c, hS.put o.dst v u hd (fun _ => h2), fun g hg => .inl hg⟩

theorem args_ev {s : AS} {fr : List (Nat × AV)} {l : List Operand} (h : l.map s.ev = l.map (evA fr)) : ∀ x ∈ l, s.ev x = evA fr x := by
  induction l with
  | nil => intro x hx; cases hx
  | cons y l ih =>
    intro x hx
    simp only [List.map_cons, List.cons.injEq] at h
    rcases List.mem_cons.1 hx with rfl | hx
    · exact h.1
    · exact ih h.2 x hx

theorem Rep.val_inv {c : RC} {w : World} {v u : Value} (h : Rep c w (.val v) u) : u = v := by cases h; rfl

section
variable {C : ACtx} {ops : Array Oper} {K : AS → List (List Nat × List Nat) → Prop} {k : Nat} {rest : List Oper} {fr : List (Nat × AV)} {hp : List (Nat × Option Blk)} {gc : Nat} {fps : List (List Nat × List Nat)}
  {d : Nat} {ty : TypeId} {pos : String} {after : Array Edge} {gd : Option (Nat × Bool)} {x y z : Operand} {v : AV}

theorem ARun.quiet {op : Op} (hd : Nat.blt d C.n = true) (hg : guardIs ops ⟨fr, hp, gc⟩ ⟨some d, op, ty, pos, after, gd⟩ true) (rd : List (Nat × Blk)) (hrd : ∀ p, p ∈ rd → lkH hp p.1 = some p.2)
    (h : ∀ (s : AS) (c : RC) (a : Act) (w : World), Sim C s c a w → (∀ x ∈ op.operands, Rep c w (evA fr x) (a.eval x)) → (∀ p, p ∈ rd → lkH s.hp p.1 = some p.2) → ∃ u, (execOp a.eval ⟨some d, op, ty, pos, after, gd⟩).run C.P w = .ok (.value u) w ∧ Rep c w v u)
    (n : ARun C ops K (k + 1) rest ⟨(d, v) :: fr, hp, gc⟩ (fps ++ [(rd.map (·.1), [])])) : ARun C ops K k (⟨some d, op, ty, pos, after, gd⟩ :: rest) ⟨fr, hp, gc⟩ fps :=
  ARun.step v rd [] hg hrd (does_quiet (fun e he => by
    simp only [Option.some.injEq] at he
    subst he
    simpa [Nat.blt_eq] using hd) h) n

theorem ARun.move (hx : evA fr x = v) (hd : Nat.blt d C.n = true) (hg : guardIs ops ⟨fr, hp, gc⟩ ⟨some d, .move x, ty, pos, after, gd⟩ true)
    (n : ARun C ops K (k + 1) rest ⟨(d, v) :: fr, hp, gc⟩ (fps ++ [([], [])])) : ARun C ops K k (⟨some d, .move x, ty, pos, after, gd⟩ :: rest) ⟨fr, hp, gc⟩ fps :=
  ARun.quiet hd hg [] (by simp) (fun s c a w hS hev _ => ⟨a.eval x, by simp [execOp], by rw [← hx]; exact hev x (by simp [Op.operands])⟩) n
theorem ARun.assign (hx : evA fr x = v) (hd : Nat.blt d C.n = true) (hg : guardIs ops ⟨fr, hp, gc⟩ ⟨some d, .assign x, ty, pos, after, gd⟩ true)
    (n : ARun C ops K (k + 1) rest ⟨(d, v) :: fr, hp, gc⟩ (fps ++ [([], [])])) : ARun C ops K k (⟨some d, .assign x, ty, pos, after, gd⟩ :: rest) ⟨fr, hp, gc⟩ fps :=
  ARun.quiet hd hg [] (by simp) (fun s c a w hS hev _ => ⟨a.eval x, by simp [execOp], by rw [← hx]; exact hev x (by simp [Op.operands])⟩) n
theorem ARun.pick {b : Bool} (hx : evA fr x = .val (.bool b)) (hv : (bif b then evA fr y else evA fr z) = v) (hd : Nat.blt d C.n = true) (hg : guardIs ops ⟨fr, hp, gc⟩ ⟨some d, .pick x y z, ty, pos, after, gd⟩ true)
    (n : ARun C ops K (k + 1) rest ⟨(d, v) :: fr, hp, gc⟩ (fps ++ [([], [])])) : ARun C ops K k (⟨some d, .pick x y z, ty, pos, after, gd⟩ :: rest) ⟨fr, hp, gc⟩ fps :=
  ARun.quiet hd hg [] (by simp) (fun s c a w hS hev _ => by
    have h1 := hev x (by simp [Op.operands])
    rw [hx] at h1
    have h1 := h1.val_inv
    refine ⟨if b then a.eval y else a.eval z, by simp [execOp, h1, asBool], ?_⟩
    rw [← hv]
    cases b
    · exact hev z (by simp [Op.operands])
    · exact hev y (by simp [Op.operands])) n
theorem ARun.extract {i : Nat} {es : List AV} (hx : evA fr x = .tup es) (hv : es[i]? = some v) (hd : Nat.blt d C.n = true) (hg : guardIs ops ⟨fr, hp, gc⟩ ⟨some d, .extract x i, ty, pos, after, gd⟩ true)
    (n : ARun C ops K (k + 1) rest ⟨(d, v) :: fr, hp, gc⟩ (fps ++ [([], [])])) : ARun C ops K k (⟨some d, .extract x i, ty, pos, after, gd⟩ :: rest) ⟨fr, hp, gc⟩ fps :=
  ARun.quiet hd hg [] (by simp) (fun s c a w hS hev _ => by
    have h1 := hev x (by simp [Op.operands])
    rw [hx] at h1
    generalize hu : a.eval x = u at h1
    cases h1
    rename_i us hl hr
    have hi : i < us.length := by rw [hl]; exact (List.getElem?_eq_some_iff.1 hv).1
    refine ⟨us[i], by simp [execOp, Instr.extract, hu, List.getElem?_eq_getElem hi], hr i v us[i] hv (List.getElem?_eq_getElem hi)⟩) n


/-- An operation of two values as they are. -/
def BinR (P : Program) (op : BinOp) (xt : TypeId) (p q r : Value) : Prop := ∀ (x y : Operand) (w : World), (do eqGuard op xt x y p q; binOp op xt p q : Sem Value).run P w = .ok r w
theorem ARun.bin {op : BinOp} {xt yt : TypeId} {p q r : Value} (hx : evA fr x = .val p) (hy : evA fr y = .val q) (hr : BinR C.P op xt p q r)
    (hd : Nat.blt d C.n = true) (hg : guardIs ops ⟨fr, hp, gc⟩ ⟨some d, .binOp op xt x y yt, ty, pos, after, gd⟩ true)
    (n : ARun C ops K (k + 1) rest ⟨(d, .val r) :: fr, hp, gc⟩ (fps ++ [([], [])])) : ARun C ops K k (⟨some d, .binOp op xt x y yt, ty, pos, after, gd⟩ :: rest) ⟨fr, hp, gc⟩ fps :=
  ARun.quiet hd hg [] (by simp) (fun s c a w hS hev _ => by
    have h1 := hev x (by simp [Op.operands])
    have h2 := hev y (by simp [Op.operands])
    rw [hx] at h1
    rw [hy] at h2
    have h1 := h1.val_inv
    have h2 := h2.val_inv
    refine ⟨r, ?_, .val r⟩
    have := hr x y w
    rw [← h1, ← h2] at this
    rw [show execOp a.eval ⟨some d, .binOp op xt x y yt, ty, pos, after, gd⟩ = (do let v ← (do eqGuard op xt x y (a.eval x) (a.eval y); binOp op xt (a.eval x) (a.eval y) : Sem Value); pure (.value v)) from rfl, Sem.run_bind, this]
    rfl) n
theorem ARun.un {op : UnOp} {xt : TypeId} {p r : Value} (hx : evA fr x = .val p) (hr : ∀ w, (Op.unary op p).run C.P w = .ok r w)
    (hd : Nat.blt d C.n = true) (hg : guardIs ops ⟨fr, hp, gc⟩ ⟨some d, .unOp op xt x, ty, pos, after, gd⟩ true)
    (n : ARun C ops K (k + 1) rest ⟨(d, .val r) :: fr, hp, gc⟩ (fps ++ [([], [])])) : ARun C ops K k (⟨some d, .unOp op xt x, ty, pos, after, gd⟩ :: rest) ⟨fr, hp, gc⟩ fps :=
  ARun.quiet hd hg [] (by simp) (fun s c a w hS hev _ => by
    have h1 := hev x (by simp [Op.operands])
    rw [hx] at h1
    have h1 := h1.val_inv
    refine ⟨r, ?_, .val r⟩
    simp [execOp, h1, hr w]) n

/-- The cells of a value that may be stored. -/
def cellsA : AV → Option (List AV)
  | .agg es => some es
  | .val v => bif v.oneCell' then some [.val v] else none
  | .tup _ => none
  | .dead => none
  | x => some [x]
theorem cells_rep {c : RC} {w : World} {v : AV} {u : Value} {cs : List AV} (h : Rep c w v u) (hc : cellsA v = some cs) : u.cells.size = cs.length ∧ (∀ (i : Nat) (x : AV), cs[i]? = some x → ∃ z, u.cells[i]? = some z ∧ z.oneCell' = true ∧ Rep c w x z) ∧ (∀ z ∈ u.cells.toList, z.oneCell' = true) := by
  have one : ∀ (v : AV) (u : Value), Rep c w v u → u.oneCell' = true → u.cells = #[u] → cs = [v] → u.cells.size = cs.length ∧ (∀ (i : Nat) (x : AV), cs[i]? = some x → ∃ z, u.cells[i]? = some z ∧ z.oneCell' = true ∧ Rep c w x z) ∧ (∀ z ∈ u.cells.toList, z.oneCell' = true) := by
    intro v u h h1 h2 h3
    subst h3
    rw [h2]
    refine ⟨rfl, fun i x hx => ?_, fun z hz => ?_⟩
    · cases i with
      | zero =>
        simp only [List.getElem?_cons_zero, Option.some.injEq] at hx
        subst hx
        exact ⟨u, rfl, h1, h⟩
      | succ i => simp at hx
    · simp at hz
      subst hz
      exact h1
  cases h with
  | val v =>
    simp only [cellsA] at hc
    cases hv : u.oneCell' with
    | false => rw [hv] at hc; cases hc
    | true =>
      rw [hv] at hc
      exact one _ _ (.val u) hv (by cases u <;> first | rfl | cases hv) (Option.some.inj hc).symm
  | ptr b g i f β o hu hp => exact one _ _ (.ptr b g i f β o hu hp) rfl rfl (Option.some.inj hc).symm
  | rp es β o us h1 h2 h3 => exact one _ _ (.rp es β o us h1 h2 h3) rfl rfl (Option.some.inj hc).symm
  | sl sz full els A cap β o us a1 a2 a3 a4 a5 a6 a7 a8 => exact one _ _ (.sl sz full els A cap β o us a1 a2 a3 a4 a5 a6 a7 a8) rfl rfl (Option.some.inj hc).symm
  | own b g lo n A m cap hu hp => exact one _ _ (.own b g lo n A m cap hu hp) rfl rfl (Option.some.inj hc).symm
  | agg es us hl h1 hr =>
    obtain rfl := Option.some.inj hc
    refine ⟨by simpa [Value.cells] using hl, fun i x hx => ?_, fun z hz => h1 z (by simpa [Value.cells] using hz)⟩
    have hi : i < us.length := by rw [hl]; exact (List.getElem?_eq_some_iff.1 hx).1
    exact ⟨us[i], by simp [Value.cells, hi], h1 _ (List.getElem_mem _), hr i x us[i] hx (List.getElem?_eq_getElem hi)⟩
  | tup es us hl hr => cases hc
  | clo f first cap us vs h1 h2 h3 h4 => exact one _ _ (.clo f first cap us vs h1 h2 h3 h4) rfl rfl (Option.some.inj hc).symm
  | it b g β hu hp => exact one _ _ (.it b g β hu hp) rfl rfl (Option.some.inj hc).symm
  | mo b g β hu hp => exact one _ _ (.mo b g β hu hp) rfl rfl (Option.some.inj hc).symm
  | mp ks vs β clock es a1 a2 a3 a4 a5 => exact one _ _ (.mp ks vs β clock es a1 a2 a3 a4 a5) rfl rfl (Option.some.inj hc).symm
  | bany b => exact one _ _ (.bany b) rfl rfl (Option.some.inj hc).symm
  | dead v => cases hc

theorem one_el {sz : Nat} {cs : List AV} {u : Array Value} {c : RC} {w : World} (h : ∀ (i : Nat) (x : AV), cs[i]? = some x → ∃ z, u[i]? = some z ∧ z.oneCell' = true ∧ Rep c w x z) :
    ∀ (i : Nat) (el : List AV) (f : Nat) (x : AV), [cs][i]? = some el → el[f]? = some x → ∃ z, u[i * sz + f]? = some z ∧ z.oneCell' = true ∧ Rep c w x z := by
  intro i el f x hi hx
  cases i with
  | zero =>
    simp only [List.getElem?_cons_zero, Option.some.injEq] at hi
    subst hi
    rw [Nat.zero_mul, Nat.zero_add]
    exact h f x hx
  | succ i => simp at hi

/-- A new block of the call's own. -/
theorem Sim.newBlk {s : AS} {c : RC} {a : Act} {w : World} (hS : Sim C s c a w) (b : Nat) (blk : Blk) (cs : Array Value) (e : TypeId) (hf : ¬ c.used blk.gen) (hz : ∀ el, el ∈ blk.els → el.length = blk.sz)
    (hr : ∀ (i : Nat) (el : List AV) (f : Nat) (x : AV), blk.els[i]? = some el → el[f]? = some x → ∃ z, cs[i * blk.sz + f]? = some z ∧ z.oneCell' = true ∧ Rep c w x z)
    (dst : Option Nat) (v : AV) (u : Value) (hd : ∀ e, dst = some e → e < C.n) (hv : dst ≠ none → Rep (c.upd b blk.gen ⟨some w.heap.size, blk.sz, cs.size⟩) (w.alloc (.cells cs e)) v u) :
    Sim C (s.app dst v [(b, some blk)]) (c.upd b blk.gen ⟨some w.heap.size, blk.sz, cs.size⟩) (a.put dst u) (w.alloc (.cells cs e)) := by
  refine hS.upd (w' := w.alloc (.cells cs e)) b blk ⟨some w.heap.size, blk.sz, cs.size⟩ (.inl hf) rfl rfl rfl (by simp) (fun β hβ _ => Below.heap_alloc w _ β hβ) (fun β hβ => ?_) (fun hm => .inl ⟨rfl, hz, cs, e, .plain (heap_alloc_new w _), rfl, fun i el f x hi hx => ?_⟩) dst v u hd (fun h _ => hv h)
  · simp only [Option.some.injEq] at hβ
    subst hβ
    exact .inl ⟨Nat.le_refl _, by simp⟩
  · obtain ⟨z, h1, h2, h3⟩ := hr i el f x hi hx
    exact ⟨z, h1, h2, h3.mono hm⟩

theorem does_new {G i : Nat} {o : Oper} {fr : List (Nat × AV)} {v : AV} {b : Nat} {blk : Blk} (hd : ∀ e, o.dst = some e → e < C.n) (hbg : blk.gen = G + i) (hz : ∀ el, el ∈ blk.els → el.length = blk.sz)
    (h : ∀ (s : AS) (c : RC) (a : Act) (w : World), Sim C s c a w → (∀ x ∈ o.op.operands, Rep c w (evA fr x) (a.eval x)) → ∃ u cs e, (execOp a.eval o).run C.P w = .ok (.value u) (w.alloc (.cells cs e)) ∧
      (∀ (i : Nat) (el : List AV) (f : Nat) (x : AV), blk.els[i]? = some el → el[f]? = some x → ∃ z, cs[i * blk.sz + f]? = some z ∧ z.oneCell' = true ∧ Rep c w x z) ∧
      Rep (c.upd b blk.gen ⟨some w.heap.size, blk.sz, cs.size⟩) (w.alloc (.cells cs e)) v u) :
    Does C G i o (o.op.operands.toList.map (evA fr)) [] v [(b, some blk)] := by
  intro s c a w hS hf hargs _
  have hev : ∀ x ∈ o.op.operands, Rep c w (evA fr x) (a.eval x) := by
    intro x hx
    rw [← args_ev hargs x (by simpa using hx)]
    exact hS.ev x
  obtain ⟨u, cs, e, h1, h2, h3⟩ := h s c a w hS hev
  refine wp_value h1 ⟨_, hS.newBlk b blk cs e (by rw [hbg]; exact hf) hz h2 o.dst v u hd (fun _ => h3), fun g hg => ?_⟩
  rcases hg with h | h
  · exact .inl h
  · exact .inr (h.trans hbg)

theorem lt_of_blt {d n : Nat} (h : Nat.blt d n = true) : d < n := by simpa [Nat.blt_eq] using h
theorem dst_lt {d : Nat} (h : Nat.blt d C.n = true) : ∀ e, (some d : Option Nat) = some e → e < C.n := by
  intro e he
  obtain rfl := Option.some.inj he
  exact lt_of_blt h

theorem rep_ptr_new (c : RC) (w : World) (B b g sz n i f : Nat) (h0 : 0 < sz) : Rep (c.upd b g ⟨some B, sz, n⟩) w (.ptr b g i f) (.pointer (some ⟨B, i * sz + f, none⟩)) := by
  refine .ptr b g i f _ _ (.inr rfl) (fun o ho => ?_)
  simp [RC.upd] at ho
  subst ho
  exact ⟨rfl, rfl, h0⟩

theorem ARun.box {t : TypeId} {cs : List AV} (hx : cellsA (evA fr x) = some cs) (h0 : Nat.blt 0 cs.length = true) (hd : Nat.blt d C.n = true) (hg : guardIs ops ⟨fr, hp, gc⟩ ⟨some d, .box t x, ty, pos, after, gd⟩ true)
    (n : ARun C ops K (k + 1) rest ⟨(d, .ptr d (gc + k) 0 0) :: fr, (d, some ⟨gc + k, cs.length, [cs]⟩) :: hp, gc⟩ (fps ++ [([], [d])])) : ARun C ops K k (⟨some d, .box t x, ty, pos, after, gd⟩ :: rest) ⟨fr, hp, gc⟩ fps :=
  ARun.step (.ptr d (gc + k) 0 0) [] [(d, some ⟨gc + k, cs.length, [cs]⟩)] hg (by simp) (does_new (dst_lt hd) rfl (by simp) (fun s c a w hS hev => by
    have h1 := hev x (by simp [Op.operands])
    obtain ⟨h2, h3, h4⟩ := cells_rep h1 hx
    refine ⟨.pointer (some ⟨w.heap.size, 0, none⟩), (a.eval x).cells, t, by simp [execOp, Instr.box, newVar, newRow], one_el h3, ?_⟩
    have := rep_ptr_new c (w.alloc (.cells (a.eval x).cells t)) w.heap.size d (gc + k) cs.length (a.eval x).cells.size 0 0 (lt_of_blt h0)
    simpa using this)) n
theorem zv_map_get {l : List Value} {i : Nat} {x : AV} (h : (l.map zv)[i]? = some x) : ∃ u, l[i]? = some u ∧ x = zv u := by
  rw [List.getElem?_map] at h
  cases hi : l[i]? with
  | none => rw [hi] at h; cases h
  | some u =>
    rw [hi] at h
    exact ⟨u, rfl, (Option.some.inj h).symm⟩
theorem ARun.alloc {t : TypeId} {ti : TI} (ht : C.T t = some ti) (hz1 : ti.zero.all Value.oneCell' = true) (h0 : Nat.blt 0 (ti.zero.map zv).length = true) (hd : Nat.blt d C.n = true) (hg : guardIs ops ⟨fr, hp, gc⟩ ⟨some d, .alloc t, ty, pos, after, gd⟩ true)
    (n : ARun C ops K (k + 1) rest ⟨(d, .ptr d (gc + k) 0 0) :: fr, (d, some ⟨gc + k, (ti.zero.map zv).length, [ti.zero.map zv]⟩) :: hp, gc⟩ (fps ++ [([], [d])])) : ARun C ops K k (⟨some d, .alloc t, ty, pos, after, gd⟩ :: rest) ⟨fr, hp, gc⟩ fps :=
  ARun.step (.ptr d (gc + k) 0 0) [] [(d, some ⟨gc + k, (ti.zero.map zv).length, [ti.zero.map zv]⟩)] hg (by simp) (does_new (dst_lt hd) rfl (by simp) (fun s c a w hS hev => by
    obtain ⟨z, h1, h2⟩ := run_zeroValue ht w
    refine ⟨.pointer (some ⟨w.heap.size, 0, none⟩), z.cells, t, by simp [execOp, Instr.alloc, newVar, newRow, h1], one_el (fun i x hx => ?_), ?_⟩
    · rw [← h2] at hx
      obtain ⟨u, hu, rfl⟩ := zv_map_get hx
      exact ⟨u, by simpa using hu, List.all_eq_true.1 hz1 u (h2 ▸ List.mem_of_getElem? hu), zv_rep c w u⟩
    · have := rep_ptr_new c (w.alloc (.cells z.cells t)) w.heap.size d (gc + k) (ti.zero.map zv).length z.cells.size 0 0 (lt_of_blt h0)
      simpa using this)) n
end
end Go.Proofs.Ytedfegoafallhaa
