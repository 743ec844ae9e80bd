/- Operations that make memory: structs and rows by their parts, make, append, slices of slices. -/
import Derived.Test.YtedfegoafallhaaA7
namespace Go.Proofs.Ytedfegoafallhaa
set_option linter.unusedVariables false
set_option linter.unusedSimpArgs false
open Go Go.RowKit

theorem foldl_set (off : Nat) : ∀ (l : List (Value × Nat)) (cs : Array Value), (l.foldl (fun cs (p : Value × Nat) => cs.setIfInBounds (off + p.2) p.1) cs).size = cs.size
  | [], _ => rfl
  | p :: l, cs => by rw [List.foldl_cons, foldl_set off l]; simp
theorem foldl_get (off : Nat) : ∀ (vs : List Value) (k : Nat) (cs : Array Value) (i : Nat), off + k + vs.length ≤ cs.size →
    ((vs.zipIdx k).foldl (fun cs (p : Value × Nat) => cs.setIfInBounds (off + p.2) p.1) cs)[i]? = if off + k ≤ i ∧ i < off + k + vs.length then vs[i - (off + k)]? else cs[i]?
  | [], k, cs, i, _ => by
    rw [if_neg (by simp only [List.length_nil]; omega)]
    rfl
  | v :: vs, k, cs, i, h => by
    rw [List.zipIdx_cons, List.foldl_cons, foldl_get off vs (k + 1) _ i (by simp only [List.length_cons] at h; simp; omega)]
    simp only [List.length_cons] at h ⊢
    by_cases h1 : i = off + k
    · subst h1
      rw [if_neg (by omega), if_pos (by omega)]
      simp only [Nat.sub_self, List.getElem?_cons_zero]
      rw [Array.getElem?_setIfInBounds_self_of_lt (by omega)]
    · by_cases h2 : off + k ≤ i ∧ i < off + k + (vs.length + 1)
      · rw [if_pos (by omega), if_pos h2, show i - (off + k) = (i - (off + (k + 1))) + 1 by omega]
        rfl
      · rw [if_neg (by omega), if_neg h2, Array.getElem?_setIfInBounds_ne (by omega)]

/-- The cells of a struct or a row, by its parts. -/
inductive BuildL (place : Nat → Option (Nat × Nat)) (fr : List (Nat × AV)) : List (Nat × Operand) → List AV → List AV → Prop where
  | nil (es : List AV) : BuildL place fr [] es es
  | cons {i : Nat} {x : Operand} {ps : List (Nat × Operand)} {off sz : Nat} {cs es es' es'' : List AV} (hp : place i = some (off, sz)) (hc : cellsA (evA fr x) = some cs) (hl : cs.length = sz) (hs : SetAts es off cs es') (t : BuildL place fr ps es' es'') : BuildL place fr ((i, x) :: ps) es es''

theorem BuildL.run {place : Nat → Option (Nat × Nat)} {fr : List (Nat × AV)} {c : RC} {w : World} {a : Act} {ps : List (Nat × Operand)} {es es' : List AV} (h : BuildL place fr ps es es') :
    (∀ p ∈ ps, Rep c w (evA fr p.2) (a.eval p.2)) → ∀ (cells : Array Value), cells.size = es.length → (∀ (i : Nat) (x : AV), es[i]? = some x → ∃ u, cells[i]? = some u ∧ u.oneCell' = true ∧ Rep c w x u) →
    ∃ cells', Instr.fill place cells (ps.map fun p => (p.1, a.eval p.2)) = some cells' ∧ cells'.size = es'.length ∧ ∀ (i : Nat) (x : AV), es'[i]? = some x → ∃ u, cells'[i]? = some u ∧ u.oneCell' = true ∧ Rep c w x u := by
  induction h with
  | nil es => exact fun _ cells h1 h2 => ⟨cells, rfl, h1, h2⟩
  | @cons i x ps off sz cs es es1 es2 hp hc hl hs _ ih =>
    intro hev cells h1 h2
    obtain ⟨c1, c2, c3⟩ := cells_rep (hev (i, x) (by simp)) hc
    simp only at c1 c2 c3
    obtain ⟨s1, s2, s3, s4⟩ := hs.spec
    have hsz : (a.eval x).cells.size = sz := by rw [c1, hl]
    have hl' : (a.eval x).cells.toList.length = cs.length := by simpa using c1
    have hget := foldl_get off (a.eval x).cells.toList 0 cells
    obtain ⟨cells', g1, g2, g3⟩ := ih (fun p hp => hev p (by simp [hp])) ((a.eval x).cells.toList.zipIdx.foldl (fun cs (p : Value × Nat) => cs.setIfInBounds (off + p.2) p.1) cells) (by rw [foldl_set, h1, s1]) (fun j y hy => by
      rw [hget j (by omega)]
      by_cases hr : off + 0 ≤ j ∧ j < off + 0 + (a.eval x).cells.toList.length
      · rw [if_pos hr]
        have := s3 (j - off) (by omega)
        rw [show off + (j - off) = j by omega, hy] at this
        obtain ⟨u, r1, r2, r3⟩ := c2 (j - off) y this.symm
        exact ⟨u, by simpa using r1, r2, r3⟩
      · rw [if_neg hr]
        rw [s4 j (by omega)] at hy
        exact h2 j y hy)
    refine ⟨cells', ?_, g2, g3⟩
    rw [List.map_cons, Instr.fill, hp]
    simp only
    rw [if_neg]
    · have e : (Array.foldl (fun cs (x : Value × Nat) => match x with | (c, j) => cs.setIfInBounds (off + j) c) cells (a.eval x).cells.zipIdx) = (a.eval x).cells.toList.zipIdx.foldl (fun cs (p : Value × Nat) => cs.setIfInBounds (off + p.2) p.1) cells := by
        rw [← Array.foldl_toList, Array.toList_zipIdx]
      rw [e]
      exact g1
    · rw [hsz, h1]
      simp only [ne_eq, not_true_eq_false, decide_false, Bool.or_eq_true, decide_eq_true_eq, false_or, Bool.false_eq_true, gt_iff_lt, Nat.not_lt]
      omega

section
variable {C : ACtx} {ops : Array Oper} {K : AS → List (List Nat × List Nat) → Prop} {k : Nat} {rest : List Oper} {fr : List (Nat × AV)} {hp : List (Nat × Option Blk)} {gc : Nat} {fps : List (List Nat × List Nat)}
  {d : Nat} {ty : TypeId} {pos : String} {after : Array Edge} {gd : Option (Nat × Bool)} {x y z : Operand} {v : AV}

theorem zeros_rep {c : RC} {w : World} {z : Array Value} {l : List Value} (h : z.toList = l) (h1 : l.all Value.oneCell' = true) : z.size = (l.map zv).length ∧ ∀ (i : Nat) (x : AV), (l.map zv)[i]? = some x → ∃ u, z[i]? = some u ∧ u.oneCell' = true ∧ Rep c w x u := by
  subst h
  refine ⟨by simp, fun i x hx => ?_⟩
  obtain ⟨u, hu, rfl⟩ := zv_map_get hx
  exact ⟨u, by simpa using hu, List.all_eq_true.1 h1 u (List.mem_of_getElem? hu), zv_rep c w u⟩

theorem agg_rep {c : RC} {w : World} {es : List AV} {cells : Array Value} (h1 : cells.size = es.length) (h2 : ∀ (i : Nat) (x : AV), es[i]? = some x → ∃ u, cells[i]? = some u ∧ u.oneCell' = true ∧ Rep c w x u) : Rep c w (.agg es) (.agg cells) := by
  have : cells = cells.toList.toArray := by simp
  rw [this]
  refine .agg es cells.toList (by simpa using h1) (fun u hu => ?_) (fun i x u hx hu => ?_)
  · obtain ⟨i, hi⟩ := List.getElem?_of_mem hu
    have hil : i < es.length := by have := (List.getElem?_eq_some_iff.1 hi).1; simp at this; omega
    obtain ⟨u', r1, r2, _⟩ := h2 i es[i] (List.getElem?_eq_getElem hil)
    have : u' = u := by
      rw [Array.getElem?_toList, r1] at hi
      exact Option.some.inj hi
    exact this ▸ r2
  · obtain ⟨u', r1, r2, r3⟩ := h2 i x hx
    have : u' = u := by
      rw [Array.getElem?_toList, r1] at hu
      exact Option.some.inj hu
    exact this ▸ r3

theorem ARun.build {t : Nat} {ti : TI} {fs : List (Nat × Nat)} {ps : Array (Nat × Operand)} {es : List AV} (ht : C.T t = some ti) (hk : ti.k = .struct fs) (hz1 : ti.zero.all Value.oneCell' = true) (hb : BuildL (fun i => fs[i]?) fr ps.toList (ti.zero.map zv) es)
    (hd : Nat.blt d C.n = true) (hg : guardIs ops ⟨fr, hp, gc⟩ ⟨some d, .build t ps, ty, pos, after, gd⟩ true)
    (nx : ARun C ops K (k + 1) rest ⟨(d, .agg es) :: fr, hp, gc⟩ (fps ++ [([], [])])) : ARun C ops K k (⟨some d, .build t ps, ty, pos, after, gd⟩ :: rest) ⟨fr, hp, gc⟩ fps :=
  ARun.quiet hd hg [] (by simp) (fun s c a w hS hev _ => by
    obtain ⟨fields, h1, h2, hsz⟩ := und_struct ht hk
    obtain ⟨z, hz, hzc⟩ := run_zeroValue ht w
    obtain ⟨q1, q2⟩ := zeros_rep (c := c) (w := w) hzc hz1
    obtain ⟨cells', g1, g2, g3⟩ := hb.run (c := c) (w := w) (a := a) (fun p hp => hev p.2 (by simp only [Op.operands, List.mem_toArray]; exact List.mem_map_of_mem hp)) z.cells q1 q2
    refine ⟨.agg cells', ?_, agg_rep g2 g3⟩
    have hpl : ∀ (l : List Field), (∀ f ∈ l, (C.P.info? f.type).isSome = true) → (l.mapM (fun f => do pure (f.offset, ← sizeOf f.type) : Field → Sem (Nat × Nat))).run C.P w = .ok (l.map fun f => (f.offset, szOf C.P f.type)) w := by
      intro l
      induction l with
      | nil => intro _; rfl
      | cons f l ih =>
        intro h
        have hf := h f (by simp)
        cases hi : C.P.info? f.type with
        | none => rw [hi] at hf; cases hf
        | some i =>
          have := ih (fun f hf => h f (by simp [hf]))
          have hone : (do pure (f.offset, ← sizeOf f.type) : Sem (Nat × Nat)).run C.P w = .ok (f.offset, szOf C.P f.type) w := by simp [sizeOf, typeInfo, hi, szOf]
          rw [List.mapM_cons, Sem.run_bind, hone, Result.andThen_ok, Sem.run_bind, this]
          rfl
    have := hpl fields.toList (fun f hf => hsz f (by simpa using hf))
    rw [← h2] at this
    have hrun : (Instr.build t (ps.map fun (i, x) => (i, a.eval x))).run C.P w = .ok (.agg cells') w := by
      have hun := run_underlying' h1 w
      have e1 : (fields.mapM (fun f => do pure (f.offset, ← sizeOf f.type) : Field → Sem (Nat × Nat))).run C.P w = .ok fs.toArray w := by
        rw [Array.mapM_eq_mapM_toList]
        simp only [Sem.run_map, this, Result.andThen_ok]
      have e2 : (ps.map fun (i, x) => (i, a.eval x)).toList = ps.toList.map fun p => (p.1, a.eval p.2) := by simp
      have e3 : (fun (i : Nat) => fs.toArray[i]?) = (fun (i : Nat) => fs[i]?) := by funext i; simp
      unfold Instr.build
      simp only [Sem.run_bind, hz, hun, Result.andThen_ok, e1, e2]
      rw [show (fun (x : Nat) => fs.toArray[x]?) = (fun (i : Nat) => fs[i]?) from e3, g1]
      rfl
    simp [execOp, hrun]) nx

/-- An array, by its elements. -/
theorem ARun.buildArr {t e nn : Nat} {ti te : TI} {ps : Array (Nat × Operand)} {es : List AV} (ht : C.T t = some ti) (hk : ti.k = .array nn e) (hte : C.T e = some te) (hz1 : ti.zero.all Value.oneCell' = true) (hb : BuildL (fun i => some (i * te.size, te.size)) fr ps.toList (ti.zero.map zv) es)
    (hd : Nat.blt d C.n = true) (hg : guardIs ops ⟨fr, hp, gc⟩ ⟨some d, .build t ps, ty, pos, after, gd⟩ true)
    (nx : ARun C ops K (k + 1) rest ⟨(d, .agg es) :: fr, hp, gc⟩ (fps ++ [([], [])])) : ARun C ops K k (⟨some d, .build t ps, ty, pos, after, gd⟩ :: rest) ⟨fr, hp, gc⟩ fps :=
  ARun.quiet hd hg [] (by simp) (fun s c a w hS hev _ => by
    have hun := run_underlying' (und_array ht hk) w
    have hsz := run_sizeOf hte w
    obtain ⟨z, hz, hzc⟩ := run_zeroValue ht w
    obtain ⟨q1, q2⟩ := zeros_rep (c := c) (w := w) hzc hz1
    obtain ⟨cells', g1, g2, g3⟩ := hb.run (c := c) (w := w) (a := a) (fun p hp => hev p.2 (by simp only [Op.operands, List.mem_toArray]; exact List.mem_map_of_mem hp)) z.cells q1 q2
    refine ⟨.agg cells', ?_, agg_rep g2 g3⟩
    have hrun : (Instr.build t (ps.map fun (i, x) => (i, a.eval x))).run C.P w = .ok (.agg cells') w := by
      have e2 : (ps.map fun (i, x) => (i, a.eval x)).toList = ps.toList.map fun p => (p.1, a.eval p.2) := by simp
      unfold Instr.build
      simp only [Sem.run_bind, hz, hun, Result.andThen_ok, hsz, e2]
      rw [g1]
      rfl
    simp [execOp, hrun]) nx

/-- The cells of elements, one behind the other. -/
theorem els_flat {sz : Nat} {els : List (List AV)} (hz : ∀ el, el ∈ els → el.length = sz) (us : Nat → Nat → Value) : ∃ vs : List Value, vs.length = els.length * sz ∧ (∀ (i : Nat) (el : List AV) (f : Nat) (x : AV), els[i]? = some el → el[f]? = some x → vs[i * sz + f]? = some (us i f)) ∧ (∀ (j : Nat) (u : Value), vs[j]? = some u → ∃ i f el x, els[i]? = some el ∧ el[f]? = some x ∧ j = i * sz + f ∧ u = us i f) := by
  refine ⟨(List.range (els.length * sz)).map (fun j => us (j / sz) (j % sz)), by simp, fun i el f x hi hx => ?_, fun j u hj => ?_⟩
  · have h1 := (List.getElem?_eq_some_iff.1 hi).1
    have h2 := (List.getElem?_eq_some_iff.1 hx).1
    rw [hz el (List.mem_of_getElem? hi)] at h2
    have hlt : i * sz + f < els.length * sz := by
      have : (i + 1) * sz ≤ els.length * sz := Nat.mul_le_mul_right _ h1
      rw [Nat.add_mul] at this
      omega
    have e1 : (i * sz + f) / sz = i := by
      rw [Nat.mul_comm, Nat.mul_add_div (by omega), Nat.div_eq_of_lt h2, Nat.add_zero]
    have e2 : (i * sz + f) % sz = f := by
      rw [Nat.mul_comm, Nat.mul_add_mod, Nat.mod_eq_of_lt h2]
    simp [hlt, e1, e2]
  · have hlt : j < els.length * sz := by
      have := (List.getElem?_eq_some_iff.1 hj).1
      simpa using this
    have hs : 0 < sz := by
      rcases Nat.eq_zero_or_pos sz with h | h
      · rw [h] at hlt; omega
      · exact h
    have hi : j / sz < els.length := by
      rw [Nat.div_lt_iff_lt_mul hs]
      exact hlt
    have hf : j % sz < sz := Nat.mod_lt _ hs
    have hel := List.getElem?_eq_getElem hi
    have hx : (els[j / sz])[j % sz]? = some ((els[j / sz])[j % sz]'(by rw [hz _ (List.getElem_mem _)]; exact hf)) := List.getElem?_eq_getElem _
    refine ⟨j / sz, j % sz, _, _, hel, hx, (by rw [Nat.mul_comm]; exact (Nat.div_add_mod j sz).symm), ?_⟩
    simp [hlt] at hj
    exact hj.symm

/-- What is appended: a slice that reads so. -/
structure News (c : RC) (w : World) (sz : Nat) (els : List (List AV)) (u : Value) (A : Option Addr) (cap : Nat) (vs : List Value) : Prop where
  val : u = .slice A els.length cap
  len : vs.length = els.length * sz
  one : ∀ u, u ∈ vs → u.oneCell' = true
  lie : els ≠ [] → ∃ ad, A = some ad ∧ ∀ j v, vs[j]? = some v → w.cell? (ad.add j) = some v
  hsz : ∀ el, el ∈ els → el.length = sz
  rep : ∀ (i : Nat) (el : List AV) (f : Nat) (x : AV), els[i]? = some el → el[f]? = some x → ∃ u, vs[i * sz + f]? = some u ∧ u.oneCell' = true ∧ Rep c w x u
theorem News.of {c : RC} {w : World} {sz sz' : Nat} {full : Bool} {els : List (List AV)} {u : Value} (h : Rep c w (.sl sz' full els) u) (hs : els = [] ∨ sz' = sz) : ∃ A cap vs, News c w sz els u A cap vs ∧ (full = true → cap = els.length) ∧ els.length ≤ cap ∧ cap ≤ maxLen ∧ (A = none → cap = 0) := by
  cases h with
  | sl _ _ _ A cap β o us hn hm hf h0 hz hA hc hr =>
    have hz' : ∀ el, el ∈ els → el.length = sz := by
      intro el hel
      rcases hs with h | h
      · subst h; cases hel
      · rw [← h]; exact hz el hel
    obtain ⟨vs, v1, v2, v3⟩ := els_flat hz' us
    refine ⟨A, cap, vs, ⟨rfl, v1, fun u hu => ?_, fun hne => ?_, hz', fun i el f x hi hx => ⟨us i f, v2 i el f x hi hx, (hc i el f x hi hx).2, hr i el f x hi hx⟩⟩, hf, hn, hm, h0⟩
    · obtain ⟨j, hj⟩ := List.getElem?_of_mem hu
      obtain ⟨i, f, el, x, e1, e2, _, e4⟩ := v3 j u hj
      rw [e4]
      exact (hc i el f x e1 e2).2
    · refine ⟨_, (hA hne).1, fun j v hj => ?_⟩
      obtain ⟨i, f, el, x, e1, e2, e3, e4⟩ := v3 j v hj
      rw [add_lit, e3, e4, ← Nat.add_assoc]
      rcases hs with h | h
      · exact absurd h hne
      · rw [← h]
        exact (hc i el f x e1 e2).1

theorem run_append_zero {t e : Nat} {ti te : TI} (ht : C.T t = some ti) (hk : ti.k = .slice e) (hte : C.T e = some te) (w : World) (ty : TypeId) (A A' : Option Addr) (n cap c : Nat) (h : n ≤ cap) :
    (Builtin.append_ #[t, t] ty #[.slice A n cap, .slice A' 0 c]).run C.P w = .ok (.slice A n cap) w := by
  have hu := run_underlying' (und_slice ht hk) w
  have hs := run_sizeOf hte w
  cases A <;> cases A' <;> simp [Builtin.append_, hu, hs, Builtin.lenOf, Builtin.firstCells, h, loadCells, loadCellsFrom, storeCells]

/-- The elements of a grown row. -/
theorem grown_rep {c : RC} {w : World} {sz : Nat} {els els2 : List (List AV)} {olds news : List Value} (rest : List Value) (hl : olds.length = els.length * sz)
    (h1 : ∀ (i : Nat) (el : List AV) (f : Nat) (x : AV), els[i]? = some el → el[f]? = some x → ∃ u, olds[i * sz + f]? = some u ∧ u.oneCell' = true ∧ Rep c w x u)
    (h2 : ∀ (i : Nat) (el : List AV) (f : Nat) (x : AV), els2[i]? = some el → el[f]? = some x → ∃ u, news[i * sz + f]? = some u ∧ u.oneCell' = true ∧ Rep c w x u) :
    ∀ (i : Nat) (el : List AV) (f : Nat) (x : AV), (els ++ els2)[i]? = some el → el[f]? = some x → ∃ u, (olds ++ news ++ rest)[i * sz + f]? = some u ∧ u.oneCell' = true ∧ Rep c w x u := by
  intro i el f x hi hx
  rcases Nat.lt_or_ge i els.length with h | h
  · rw [List.getElem?_append_left h] at hi
    obtain ⟨u, r1, r2, r3⟩ := h1 i el f x hi hx
    refine ⟨u, ?_, r2, r3⟩
    have := (List.getElem?_eq_some_iff.1 r1).1
    rw [List.append_assoc, List.getElem?_append_left this]
    exact r1
  · rw [List.getElem?_append_right h] at hi
    obtain ⟨u, r1, r2, r3⟩ := h2 _ el f x hi hx
    refine ⟨u, ?_, r2, r3⟩
    have := (List.getElem?_eq_some_iff.1 r1).1
    have e : i * sz + f = olds.length + ((i - els.length) * sz + f) := by
      rw [hl, Nat.sub_mul]
      have := Nat.mul_le_mul_right sz h
      omega
    rw [e, List.append_assoc, List.getElem?_append_right (by omega), Nat.add_sub_cancel_left, List.getElem?_append_left this]
    exact r1

/-- 'append' onto a slice that has no room (or onto nothing): all lies anew, and is the call's own. -/
theorem ARun.append_full {t e sz sz2 : Nat} {ti te : TI} {els els2 : List (List AV)} {full2 : Bool} (hx : evA fr x = .sl sz true els) (hy : evA fr y = .sl sz2 full2 els2) (ht : C.T t = some ti) (hk : ti.k = .slice e) (hte : C.T e = some te)
    (h1 : els = [] ∨ sz = te.size) (h2 : els2 = [] ∨ sz2 = te.size) (hne : els = [] ∨ els2 ≠ []) (hpos : Nat.blt 0 te.size = true) (hzl : te.zero.length = te.size) (hb : (els.length + els2.length) * te.bytes ≤ 140737488355328) (hm : els.length + els2.length ≤ maxLen)
    (hd : Nat.blt d C.n = true) (hg : guardIs ops ⟨fr, hp, gc⟩ ⟨some d, .call ⟨.builtin .append, #[x, y], #[t, t]⟩, ty, pos, after, gd⟩ true)
    (nx : ARun C ops K (k + 1) rest ⟨(d, .own d (gc + k) 0 (els ++ els2).length) :: fr, (d, some ⟨gc + k, te.size, els ++ els2⟩) :: hp, gc⟩ (fps ++ [([], [d])])) :
    ARun C ops K k (⟨some d, .call ⟨.builtin .append, #[x, y], #[t, t]⟩, ty, pos, after, gd⟩ :: rest) ⟨fr, hp, gc⟩ fps := by
  refine ARun.step (.own d (gc + k) 0 (els ++ els2).length) [] [(d, some ⟨gc + k, te.size, els ++ els2⟩)] hg (by simp) ?_ nx
  intro s c a w hS hf hargs _
  have hev : ∀ z ∈ #[x, y], Rep c w (evA fr z) (a.eval z) := by
    intro z hz
    have hz' : z ∈ (Op.call ⟨.builtin .append, #[x, y], #[t, t]⟩).operands.toList := by simpa [Op.operands, Call.operands] using hz
    rw [← args_ev hargs z hz']
    exact hS.ev z
  have hrx := hev x (by simp)
  have hry := hev y (by simp)
  rw [hx] at hrx
  rw [hy] at hry
  obtain ⟨A, cap, olds, N1, hfull, hcap, hcm, hA0⟩ := News.of (sz := te.size) hrx h1
  obtain ⟨A2, cap2, news, N2, _, _, _, _⟩ := News.of (sz := te.size) hry h2
  have hcap' := hfull rfl
  subst hcap'
  have hd' := dst_lt hd
  have hin := und_slice ht hk
  obtain ⟨u0, i0, z0, hue, hie, hze, htee⟩ := ti_get hte
  have hrunop : ∀ v' w', (Builtin.append_ #[t, t] ty #[a.eval x, a.eval y]).run C.P w = .ok v' w' → (execOp a.eval ⟨some d, .call ⟨.builtin .append, #[x, y], #[t, t]⟩, ty, pos, after, gd⟩).run C.P w = .ok (.value v') w' := by
    intro v' w' h
    simp [execOp, resolve, invoke, builtin, h]
  rw [N1.val, N2.val] at hrunop
  have hused : ∀ (o : OB) (g : Nat), (c.upd d (gc + k) o).used g → c.used g ∨ g = gc + k := fun o g h => h
  by_cases he2 : els2 = []
  · -- nothing is appended, onto nothing
    have he1 : els = [] := by rcases hne with h | h; exact h; exact absurd he2 h
    subst he1
    subst he2
    have hr := run_append_zero ht hk hte w ty A A2 0 0 cap2 (Nat.le_refl _)
    refine wp_value (hrunop _ _ hr) ⟨_, hS.upd d ⟨gc + k, te.size, [] ++ []⟩ ⟨none, te.size, 0⟩ (.inl hf) rfl rfl rfl (Nat.le_refl _) (fun _ _ _ => rfl) (fun β h => by cases h) (fun _ => .inl ⟨rfl, by simp, rfl⟩) (some d) _ _ hd' (fun _ _ => .own _ _ _ _ _ _ _ (.inr rfl) (fun o ho => ⟨rfl, Nat.le_refl _, Nat.zero_le _, hA0, (by simp [RC.upd] at ho; subst ho; exact lt_of_blt hpos), .inl rfl⟩)), hused _⟩
  · obtain ⟨ad2, hA2, hl2⟩ := N2.lie he2
    have hpos2 : 0 < els2.length := List.length_pos_iff.2 he2
    have hbb : (els.length + els2.length) * i0.bytes ≤ 140737488355328 := by rw [htee] at hb; exact hb
    have hsz0 : te.size = i0.size := by rw [htee]
    have hzsz : ∀ cp, cp ≥ els.length + els2.length → True := fun _ _ => trivial
    -- it grows
    have grow : ∃ v' w', (Builtin.append_ #[t, t] ty #[.slice A els.length els.length, .slice A2 els2.length cap2]).run C.P w = .ok v' w' ∧ ∃ rest gcap, v' = .slice (some ⟨w.heap.size, 0, none⟩) (els.length + els2.length) gcap ∧ els.length + els2.length ≤ gcap ∧ gcap ≤ maxLen ∧
        w' = w.drew.alloc (.cells (olds.toArray ++ news.toArray ++ Builtin.zeroCells z0.cells (gcap - (els.length + els2.length))) e) ∧ rest = Builtin.zeroCells z0.cells (gcap - (els.length + els2.length)) := by
      cases A with
      | none =>
        have hn0 : els.length = 0 := hA0 rfl
        have he : els = [] := List.eq_nil_of_length_eq_zero hn0
        subst he
        have ho : olds = [] := List.eq_nil_of_length_eq_zero (by rw [N1.len]; simp)
        subst ho
        subst hA2
        have hr := run_append_nil (P := C.P) w t ty e i0 z0 hin hie hze ad2 els2.length cap2 news (by rw [N2.len, hsz0]) hl2 hpos2 (by simp only [maxLen, List.length_nil] at hm; omega) (by simp only [List.length_nil, Nat.zero_add] at hbb; omega)
        refine ⟨_, _, hr, _, _, by simp, by simpa using grownCap_ge w els2.length 0 e, grownCap_le_maxLen w els2.length 0 e (by simpa using hm), by simp, rfl⟩
      | some ad =>
        subst hA2
        have hlie : ∀ j v, olds[j]? = some v → w.cell? (ad.add j) = some v := by
          intro j v hj
          have hne1 : els ≠ [] := by
            intro h
            have hl0 := N1.len
            rw [h] at hl0
            have : olds = [] := List.eq_nil_of_length_eq_zero (by simpa using hl0)
            rw [this] at hj
            simp at hj
          obtain ⟨ad', h3, h4⟩ := N1.lie hne1
          obtain rfl := Option.some.inj h3
          exact h4 j v hj
        have hr := run_append_grow (P := C.P) w t ty e i0 z0 hin hie hze ad els.length els.length olds (by rw [N1.len, hsz0]) hlie ad2 els2.length cap2 news (by rw [N2.len, hsz0]) hl2 (by omega) (by simp only [maxLen] at hm; omega) (growslice_fits (by omega) hbb)
        exact ⟨_, _, hr, _, _, rfl, grownCap_ge w _ _ e, grownCap_le_maxLen w _ _ e hm, rfl, rfl⟩
    obtain ⟨v', w', hr, rest', gcap, rfl, hg1, hg2, rfl, _⟩ := grow
    have hzc : z0.cells.size = te.size := by
      rw [← hzl, htee]
      simp
    have hroom : (olds.toArray ++ news.toArray ++ Builtin.zeroCells z0.cells (gcap - (els.length + els2.length))).size = gcap * te.size := by
      simp only [Array.size_append, List.size_toArray, size_zeroCells, hzc, N1.len, N2.len, ← Nat.add_mul]
      congr 1
      omega
    have hS' := hS.drew
    have hfin := hS'.newBlk d ⟨gc + k, te.size, els ++ els2⟩ (olds.toArray ++ news.toArray ++ Builtin.zeroCells z0.cells (gcap - (els.length + els2.length))) e hf (fun el hel => by
        rcases List.mem_append.1 hel with h | h
        · exact N1.hsz el h
        · exact N2.hsz el h) (fun i el f x hi hx => by
        obtain ⟨u, r1, r2, r3⟩ := grown_rep (Builtin.zeroCells z0.cells (gcap - (els.length + els2.length))).toList N1.len N1.rep N2.rep i el f x hi hx
        refine ⟨u, ?_, r2, r3.drew⟩
        rw [← r1]
        simp only
        rw [← Array.getElem?_toList]
        simp) (some d) (.own d (gc + k) 0 (els ++ els2).length) (.slice (some ⟨w.heap.size, 0, none⟩) (els.length + els2.length) gcap) hd' (fun _ => ?_)
    · exact wp_value (hrunop _ _ hr) ⟨_, hfin, hused _⟩
    · refine .own _ _ _ _ _ _ _ (.inr rfl) (fun o ho => ?_)
      simp [RC.upd] at ho
      subst ho
      refine ⟨by simp, by simpa using hg1, hg2, (fun h => by cases h), lt_of_blt hpos, .inr ⟨w.heap.size, rfl, by simp, ?_⟩⟩
      rw [Nat.zero_add]
      simpa using Nat.le_of_eq hroom.symm

theorem run_append_room' {P : Program} (w : World) (t ty e e' : TypeId) (i : TypeInfo) (ht : P.underlying t = some (.slice e)) (hi : P.info? e = some i)
    (g sLen sCap : Nat) (cur : Array Value) (hg : RowAt w g cur e')
    (a : Addr) (m c : Nat) (news : List Value) (hl : news.length = m * i.size) (hnews : ∀ j u, news[j]? = some u → w.cell? (a.add j) = some u) (h1 : ∀ u ∈ news, u.oneCell' = true)
    (hroom : sLen + m ≤ sCap) (hfit : sLen * i.size + news.length ≤ cur.size) :
    (Builtin.append_ #[t, t] ty #[.slice (some ⟨g, 0, none⟩) sLen sCap, .slice (some a) m c]).run P w =
      .ok (.slice (some ⟨g, 0, none⟩) (sLen + m) sCap) (w.setRow g (cur.toList.take (sLen * i.size) ++ news ++ cur.toList.drop (sLen * i.size + news.length)).toArray) := by
  have hf := run_firstCells_some (P := P) w i.size m a m c news hl hnews
  have hst := RowAt.store P (sLen * i.size) news 0 hg (by simpa using hfit) h1
  simp only [Nat.add_zero] at hst
  simp [Builtin.append_, run_underlying ht, sizeOf, typeInfo, hi, Builtin.lenOf, hroom, hf, Addr.add_lit, hst]

/-- 'append' onto a slice of the call's own, whole: it is the call's own, under a new stamp. -/
theorem ARun.append_own {t e b g n gen sz sz2 : Nat} {ti te : TI} {els els2 : List (List AV)} {full2 : Bool} (hx : evA fr x = .own b g 0 n) (hbk : lkH hp b = some ⟨gen, sz, els⟩) (hgg : gen = g) (hn : els.length = n) (hy : evA fr y = .sl sz2 full2 els2) (ht : C.T t = some ti) (hk : ti.k = .slice e) (hte : C.T e = some te)
    (h1 : sz = te.size) (h2 : els2 = [] ∨ sz2 = te.size) (hpos : Nat.blt 0 te.size = true) (hzl : te.zero.length = te.size) (hb : (els.length + els2.length) * te.bytes ≤ 140737488355328) (hm : els.length + els2.length ≤ maxLen)
    (hd : Nat.blt d C.n = true) (hg : guardIs ops ⟨fr, hp, gc⟩ ⟨some d, .call ⟨.builtin .append, #[x, y], #[t, t]⟩, ty, pos, after, gd⟩ true)
    (nx : ARun C ops K (k + 1) rest ⟨(d, .own b (gc + k) 0 (els ++ els2).length) :: fr, (b, some ⟨gc + k, sz, els ++ els2⟩) :: hp, gc⟩ (fps ++ [([b], [b])])) :
    ARun C ops K k (⟨some d, .call ⟨.builtin .append, #[x, y], #[t, t]⟩, ty, pos, after, gd⟩ :: rest) ⟨fr, hp, gc⟩ fps := by
  refine ARun.step (.own b (gc + k) 0 (els ++ els2).length) [(b, ⟨gen, sz, els⟩)] [(b, some ⟨gc + k, sz, els ++ els2⟩)] hg (by simp [hbk]) ?_ nx
  subst hgg
  subst hn
  intro s c a w hS hf hargs hrd
  have hev : ∀ z ∈ #[x, y], Rep c w (evA fr z) (a.eval z) := by
    intro z hz
    have hz' : z ∈ (Op.call ⟨.builtin .append, #[x, y], #[t, t]⟩).operands.toList := by simpa [Op.operands, Call.operands] using hz
    rw [← args_ev hargs z hz']
    exact hS.ev z
  have hrx := hev x (by simp)
  have hry := hev y (by simp)
  rw [hx] at hrx
  rw [hy] at hry
  obtain ⟨o, ho, hB⟩ := hS.hp b _ (hrd (b, ⟨gen, sz, els⟩) (by simp))
  have h0' := lt_of_blt hpos
  obtain ⟨hosz, hoz, holoc⟩ := hB.row (by rw [hB.sz]; simp only; omega)
  simp only at ho hosz hoz holoc
  obtain ⟨A2, cap2, news, N2, _, _, _, _⟩ := News.of (sz := te.size) hry h2
  have hd' := dst_lt hd
  have hin := und_slice ht hk
  obtain ⟨u0, i0, z0, hue, hie, hze, htee⟩ := ti_get hte
  have hsz0 : te.size = i0.size := by rw [htee]
  have hbb : (els.length + els2.length) * i0.bytes ≤ 140737488355328 := by rw [htee] at hb; exact hb
  have hzc : z0.cells.size = te.size := by
    rw [← hzl, htee]
    simp
  have hrunop : ∀ v' w', (Builtin.append_ #[t, t] ty #[a.eval x, a.eval y]).run C.P w = .ok v' w' → (execOp a.eval ⟨some d, .call ⟨.builtin .append, #[x, y], #[t, t]⟩, ty, pos, after, gd⟩).run C.P w = .ok (.value v') w' := by
    intro v' w' h
    simp [execOp, resolve, invoke, builtin, h]
  generalize hux : a.eval x = ux at hrx
  have hused : ∀ (o : OB) (g : Nat), (c.upd b (gc + k) o).used g → c.used g ∨ g = gc + k := fun o g h => h
  have hzz : ∀ el, el ∈ els ++ els2 → el.length = sz := by
    intro el hel
    rcases List.mem_append.1 hel with h | h
    · exact hoz el h
    · rw [h1]; exact N2.hsz el h
  cases hrx with
  | own _ _ _ _ A m cap hu hp' =>
    obtain ⟨rfl, k2, k3, k4, k0, k5⟩ := hp' o ho
    rw [hux, N2.val] at hrunop
    by_cases he2 : els2 = []
    · subst he2
      have hr := run_append_zero ht hk hte w ty A A2 els.length cap cap2 k2
      refine wp_value (hrunop _ _ hr) ⟨_, hS.upd b ⟨gc + k, sz, els ++ []⟩ o (.inl hf) rfl rfl rfl (Nat.le_refl _) (fun _ _ _ => rfl) (fun β hβ => .inr ⟨gen, o, ho, hβ⟩) (fun hmono => ?_) (some d) _ _ hd' (fun _ _ => .own _ _ _ _ _ _ _ (.inr rfl) (fun o' ho' => ?_)), hused _⟩
      · have : BlkRep c w ⟨gc + k, sz, els ++ []⟩ o := by
          rw [List.append_nil]
          exact .inl ⟨hosz, hoz, holoc⟩
        exact this.mono hmono (fun _ _ => rfl)
      · simp [RC.upd] at ho'
        subst ho'
        rw [List.append_nil]
        exact ⟨rfl, k2, k3, k4, k0, k5⟩
    · obtain ⟨ad2, hA2, hl2⟩ := N2.lie he2
      subst hA2
      have hpos2 : 0 < els2.length := List.length_pos_iff.2 he2
      -- the old cells
      have hold : ∃ olds : List Value, olds.length = els.length * sz ∧ (∀ (i : Nat) (el : List AV) (f : Nat) (x : AV), els[i]? = some el → el[f]? = some x → ∃ u, olds[i * sz + f]? = some u ∧ u.oneCell' = true ∧ Rep c w x u) ∧
          ∀ ad, A = some ad → ∀ j v, olds[j]? = some v → w.cell? (ad.add j) = some v := by
        rcases k5 with k5 | ⟨β, k5, k6, k7⟩
        · subst k5
          have he : els = [] := List.eq_nil_of_length_eq_zero (by omega)
          subst he
          exact ⟨[], by simp, fun i el f x hi => by simp at hi, fun ad _ j v hv => by simp at hv⟩
        · rw [k5] at holoc
          obtain ⟨cur, e', q1, q2, q3⟩ := holoc
          rw [Nat.zero_mul] at k6
          have hfit : els.length * sz ≤ cur.size := by
            have k8 := Nat.mul_le_mul_right sz k2
            rw [hosz, Nat.zero_add] at k7
            omega
          refine ⟨cur.toList.take (els.length * sz), (by have e : cur.toList.length = cur.size := Array.length_toList; rw [List.length_take, e]; omega), fun i el f x hi hx => ?_, fun ad had j v hv => ?_⟩
          · obtain ⟨u, r1, r2, r3⟩ := q3 i el f x hi hx
            refine ⟨u, ?_, r2, r3⟩
            have h1' := (List.getElem?_eq_some_iff.1 hi).1
            have h2' := (List.getElem?_eq_some_iff.1 hx).1
            rw [hoz el (List.mem_of_getElem? hi)] at h2'
            have : (i + 1) * sz ≤ els.length * sz := Nat.mul_le_mul_right _ h1'
            rw [Nat.add_mul] at this
            rw [List.getElem?_take, if_pos (by omega)]
            simpa using r1
          · rw [k6] at had
            obtain rfl := Option.some.inj had
            rw [add_lit, cell_row q1, Nat.zero_add]
            rw [List.getElem?_take] at hv
            split at hv
            · simpa using hv
            · cases hv
      obtain ⟨olds, o1, o2, o3⟩ := hold
      by_cases hfit : els.length + els2.length ≤ cap
      · -- there is room
        rcases k5 with k5 | ⟨β, k5, k6, k7⟩
        · omega
        rw [k5] at holoc
        obtain ⟨cur, e', q1, q2, q3⟩ := holoc
        rw [Nat.zero_mul] at k6
        subst k6
        have hcs : cap * sz ≤ cur.size := by rw [hosz, Nat.zero_add] at k7; omega
        have hfit' : els.length * i0.size + news.length ≤ cur.size := by
          rw [N2.len, ← hsz0, ← h1, ← Nat.add_mul]
          exact Nat.le_trans (Nat.mul_le_mul_right _ hfit) hcs
        have hr := run_append_room' w t ty e e' i0 hin hie β els.length cap cur q1 ad2 els2.length cap2 news (by rw [N2.len, hsz0]) hl2 N2.one hfit hfit'
        refine wp_value (hrunop _ _ hr) ⟨_, hS.upd (w' := w.setRow β _) b ⟨gc + k, sz, els ++ els2⟩ o (.inl hf) rfl rfl rfl (by simp) (fun β' _ hne => setRow_other w β β' _ (fun e => hne (by rw [k5, e]))) (fun β' hβ => .inr ⟨gen, o, ho, hβ⟩) (fun hmono => .inl ⟨hosz, hzz, ?_⟩) (some d) _ _ hd' (fun _ _ => .own _ _ _ _ _ _ _ (.inr rfl) (fun o' ho' => ?_)), hused _⟩
        · rw [k5]
          simp only
          refine row_intro (e := e') q1 q2 ?_ (fun i el f x hi hx => ?_)
          · simp only [List.size_toArray, List.length_append, List.length_take, List.length_drop]
            have e1 : cur.toList.length = cur.size := Array.length_toList
            rw [e1, ← q2]
            omega
          · have e1 : cur.toList.length = cur.size := Array.length_toList
            have hget : ∀ j, (cur.toList.take (els.length * i0.size) ++ news ++ cur.toList.drop (els.length * i0.size + news.length)).toArray[j]? = if j < els.length * i0.size then cur.toList[j]? else if j < els.length * i0.size + news.length then news[j - els.length * i0.size]? else cur.toList[j]? := by
              intro j
              rw [List.getElem?_toArray, list_over _ _ _ (by rw [e1]; exact hfit') j]
            rw [hget]
            have hs : els.length * i0.size = els.length * sz := by rw [← hsz0, h1]
            rcases Nat.lt_or_ge i els.length with h | h
            · rw [List.getElem?_append_left h] at hi
              obtain ⟨u, r1, r2, r3⟩ := q3 i el f x hi hx
              have h2' := (List.getElem?_eq_some_iff.1 hx).1
              rw [hoz el (List.mem_of_getElem? hi)] at h2'
              have : (i + 1) * sz ≤ els.length * sz := Nat.mul_le_mul_right _ h
              rw [Nat.add_mul] at this
              rw [if_pos (by omega)]
              exact ⟨u, by simpa using r1, r2, r3.mono hmono⟩
            · rw [List.getElem?_append_right h] at hi
              obtain ⟨u, r1, r2, r3⟩ := N2.rep _ el f x hi hx
              rw [← h1] at r1
              have hlt := (List.getElem?_eq_some_iff.1 r1).1
              have hge : els.length * sz ≤ i * sz := Nat.mul_le_mul_right _ h
              have e2 : i * sz + f - els.length * sz = (i - els.length) * sz + f := by rw [Nat.sub_mul]; omega
              rw [if_neg (by omega), if_pos (by omega), show i * sz + f - els.length * i0.size = (i - els.length) * sz + f by omega]
              exact ⟨u, r1, r2, r3.mono hmono⟩
        · simp [RC.upd] at ho'
          subst ho'
          refine ⟨by simp, by simpa using hfit, k3, (fun h => by cases h), k0, .inr ⟨β, k5, by simp, k7⟩⟩
      · -- it grows
        have grow : ∃ v' w', (Builtin.append_ #[t, t] ty #[.slice A els.length cap, .slice (some ad2) els2.length cap2]).run C.P w = .ok v' w' ∧ ∃ gcap, v' = .slice (some ⟨w.heap.size, 0, none⟩) (els.length + els2.length) gcap ∧ els.length + els2.length ≤ gcap ∧ gcap ≤ maxLen ∧
            w' = w.drew.alloc (.cells (olds.toArray ++ news.toArray ++ Builtin.zeroCells z0.cells (gcap - (els.length + els2.length))) e) := by
          cases A with
          | none =>
            have hc0 := k4 rfl
            subst hc0
            have he : els = [] := List.eq_nil_of_length_eq_zero (by omega)
            subst he
            have ho' : olds = [] := List.eq_nil_of_length_eq_zero (by rw [o1]; simp)
            subst ho'
            have hr := run_append_nil (P := C.P) w t ty e i0 z0 hin hie hze ad2 els2.length cap2 news (by rw [N2.len, hsz0]) hl2 hpos2 (by simp only [maxLen, List.length_nil] at hm; omega) (by simp only [List.length_nil, Nat.zero_add] at hbb; omega)
            refine ⟨_, _, hr, _, by simp, by simpa using grownCap_ge w els2.length 0 e, grownCap_le_maxLen w els2.length 0 e (by simpa using hm), by simp⟩
          | some ad =>
            have hr := run_append_grow (P := C.P) w t ty e i0 z0 hin hie hze ad els.length cap olds (by rw [o1, h1, hsz0]) (o3 ad rfl) ad2 els2.length cap2 news (by rw [N2.len, hsz0]) hl2 (by omega) (by simp only [maxLen] at hm; omega) (growslice_fits (by omega) hbb)
            exact ⟨_, _, hr, _, rfl, grownCap_ge w _ _ e, grownCap_le_maxLen w _ _ e hm, rfl⟩
        obtain ⟨v', w', hr, gcap, rfl, hg1, hg2, rfl⟩ := grow
        have hroom : (olds.toArray ++ news.toArray ++ Builtin.zeroCells z0.cells (gcap - (els.length + els2.length))).size = gcap * sz := by
          simp only [Array.size_append, List.size_toArray, size_zeroCells, hzc, o1, N2.len, ← h1, ← Nat.add_mul]
          congr 1
          omega
        have hfin := hS.drew.newBlk b ⟨gc + k, sz, els ++ els2⟩ (olds.toArray ++ news.toArray ++ Builtin.zeroCells z0.cells (gcap - (els.length + els2.length))) e hf hzz (fun i el f x hi hx => by
            obtain ⟨u, r1, r2, r3⟩ := grown_rep (c := c) (w := w) (sz := sz) (Builtin.zeroCells z0.cells (gcap - (els.length + els2.length))).toList o1 o2 (by rw [h1]; exact N2.rep) i el f x hi hx
            refine ⟨u, ?_, r2, r3.drew⟩
            rw [← r1]
            simp only
            rw [← Array.getElem?_toList]
            simp) (some d) (.own b (gc + k) 0 (els ++ els2).length) (.slice (some ⟨w.heap.size, 0, none⟩) (els.length + els2.length) gcap) hd' (fun _ => ?_)
        · exact wp_value (hrunop _ _ hr) ⟨_, hfin, hused _⟩
        · refine .own _ _ _ _ _ _ _ (.inr rfl) (fun o ho => ?_)
          simp [RC.upd] at ho
          subst ho
          refine ⟨by simp, by simpa using hg1, hg2, (fun h => by cases h), (by simp only; omega), .inr ⟨w.heap.size, rfl, by simp, ?_⟩⟩
          rw [Nat.zero_add]
          simpa using Nat.le_of_eq hroom.symm
end
end Go.Proofs.Ytedfegoafallhaa
