/- Operations on memory: fields, elements, loads, stores. -/
import Derived.Test.YtedfegoafallhaaA4
namespace Go.Proofs.Ytedfegoafallhaa
set_option linter.unusedVariables false
set_option linter.unusedSimpArgs false
open Go Go.RowKit

theorem add_lit (β o n : Nat) : (⟨β, o, none⟩ : Addr).add n = ⟨β, o + n, none⟩ := by
  unfold Addr.add
  split
  · rename_i h; subst h; rfl
  · rfl

section
variable {C : ACtx}
theorem run_loadAgg {t : Nat} {ti : TI} (ht : C.T t = some ti) (ha : ti.k.agg = true) (w : World) (β o : Nat) (us : List Value) (hl : us.length = ti.size) (hc : ∀ f u, us[f]? = some u → w.cell? ⟨β, o + f, none⟩ = some u) :
    (Instr.loadAt t (.pointer (some ⟨β, o, none⟩))).run C.P w = .ok (.agg us.toArray) w := by
  have h1 := run_loadCells_list (P := C.P) (w := w) ⟨β, o, none⟩ us (fun j v hv => by rw [add_lit]; exact hc j v hv)
  rw [hl] at h1
  simp [Instr.loadAt, Instr.sureAddr, loadVar, run_isAgg ht, ha, run_sizeOf ht, h1]
theorem run_loadOne {t : Nat} {ti : TI} (ht : C.T t = some ti) (ha : ti.k.agg = false) (w : World) (a : Addr) (u : Value) (hc : w.cell? a = some u) :
    (Instr.loadAt t (.pointer (some a))).run C.P w = .ok u w := by
  simp [Instr.loadAt, Instr.sureAddr, loadVar, run_isAgg ht, ha, hc]

/-- Where cells of a block lie. -/
theorem blk_cells {s : AS} {c : RC} {a : Act} {w : World} (hS : Sim C s c a w) {b g i f : Nat} {blk : Blk} {u : Value} (hb : lkH s.hp b = some blk) (hg : blk.gen = g) (hr : Rep c w (.ptr b g i f) u) {el : List AV} (he : blk.els[i]? = some el) :
    ∃ β cur e, u = .pointer (some ⟨β, i * blk.sz + f, none⟩) ∧ RowAt w β cur e ∧ c.own b g = some ⟨some β, blk.sz, cur.size⟩ ∧ el.length = blk.sz ∧
      ∀ j x, el[j]? = some x → ∃ u, cur[i * blk.sz + j]? = some u ∧ u.oneCell' = true ∧ Rep c w x u := by
  obtain ⟨o, h1, hB⟩ := hS.hp b blk hb
  subst hg
  cases hr with
  | ptr _ _ _ _ β o' hu hp =>
    obtain ⟨k1, k2, k0⟩ := hp o h1
    obtain ⟨h2, h3, h4⟩ := hB.row k0
    rw [k1] at h4
    obtain ⟨cur, e, q1, q2, q3⟩ := h4
    obtain ⟨loc, sz, room⟩ := o
    simp only at h2 k1 q2
    subst h2
    subst k1
    subst q2
    subst k2
    refine ⟨β, cur, e, rfl, q1, h1, h3 el (List.mem_of_getElem? he), fun j x hx => q3 i el j x he hx⟩
theorem cell_row {w : World} {β o : Nat} {cur : Array Value} {e : TypeId} (h : RowAt w β cur e) : w.cell? ⟨β, o, none⟩ = cur[o]? := h.cell o
end

theorem list_over {α : Type} (l v : List α) (p : Nat) (h : p + v.length ≤ l.length) (j : Nat) : (l.take p ++ v ++ l.drop (p + v.length))[j]? = if j < p then l[j]? else if j < p + v.length then v[j - p]? else l[j]? := by
  by_cases h1 : j < p
  · rw [if_pos h1, List.append_assoc, List.getElem?_append_left (by rw [List.length_take]; omega), List.getElem?_take, if_pos h1]
  · rw [if_neg h1]
    by_cases h2 : j < p + v.length
    · rw [if_pos h2, List.getElem?_append_left (by rw [List.length_append, List.length_take]; omega), List.getElem?_append_right (by rw [List.length_take]; omega), List.length_take, Nat.min_eq_left (by omega)]
    · rw [if_neg h2, List.getElem?_append_right (by rw [List.length_append, List.length_take]; omega), List.getElem?_drop, List.length_append, List.length_take, Nat.min_eq_left (by omega)]
      congr 1
      omega

/-- A part of a row of cells. -/
def loadCs (el : List AV) (f n : Nat) : Option (List AV) := bif Nat.ble (f + n) el.length then some ((el.drop f).take n) else none
theorem loadCs_spec {el : List AV} {f n : Nat} {cs : List AV} (h : loadCs el f n = some cs) : cs.length = n ∧ ∀ j x, cs[j]? = some x → el[f + j]? = some x := by
  unfold loadCs at h
  cases hb : Nat.ble (f + n) el.length with
  | false => rw [hb] at h; cases h
  | true =>
    rw [hb] at h
    obtain rfl := Option.some.inj h
    have hle := Nat.le_of_ble_eq_true hb
    refine ⟨by rw [List.length_take, List.length_drop]; omega, fun j x hx => ?_⟩
    rw [List.getElem?_take] at hx
    split at hx
    · rw [List.getElem?_drop] at hx
      exact hx
    · cases hx
theorem loadCs_all {el : List AV} {n : Nat} (h : el.length = n) : loadCs el 0 n = some el := by
  subst h
  unfold loadCs
  rw [Nat.zero_add, Nat.ble_eq_true_of_le (Nat.le_refl _)]
  simp

/-- Cells written over others. -/
inductive SetAts : List AV → Nat → List AV → List AV → Prop where
  | done (l : List AV) : SetAts l 0 [] l
  | here {x y : AV} {l cs l' : List AV} (h : SetAts l 0 cs l') : SetAts (x :: l) 0 (y :: cs) (y :: l')
  | skip {x : AV} {l cs l' : List AV} {n : Nat} (h : SetAts l n cs l') : SetAts (x :: l) (n + 1) cs (x :: l')
theorem SetAts.spec {l cs l' : List AV} {n : Nat} (h : SetAts l n cs l') : l'.length = l.length ∧ n + cs.length ≤ l.length ∧ (∀ j, j < cs.length → l'[n + j]? = cs[j]?) ∧ (∀ j, (j < n ∨ n + cs.length ≤ j) → l'[j]? = l[j]?) := by
  induction h with
  | done l => exact ⟨rfl, by simp, fun j hj => by simp at hj, fun j _ => rfl⟩
  | @here x y l cs l' _ ih =>
    obtain ⟨h1, h2, h3, h4⟩ := ih
    refine ⟨by simp [h1], by simp only [List.length_cons]; omega, fun j hj => ?_, fun j hj => ?_⟩
    · rw [Nat.zero_add]
      cases j with
      | zero => rfl
      | succ j =>
        have := h3 j (by simpa using hj)
        rw [Nat.zero_add] at this
        simpa using this
    · cases j with
      | zero => simp only [List.length_cons] at hj; omega
      | succ j =>
        have := h4 j (by simp only [List.length_cons] at hj; omega)
        simpa using this
  | @skip x l cs l' n _ ih =>
    obtain ⟨h1, h2, h3, h4⟩ := ih
    refine ⟨by simp [h1], by simp only [List.length_cons]; omega, fun j hj => ?_, fun j hj => ?_⟩
    · have := h3 j hj
      rw [show n + 1 + j = (n + j) + 1 by omega]
      simpa using this
    · cases j with
      | zero => rfl
      | succ j =>
        have := h4 j (by omega)
        simpa using this
theorem SetAts.all {l cs : List AV} (h : cs.length = l.length) : SetAts l 0 cs cs := by
  induction cs generalizing l with
  | nil =>
    have : l = [] := List.eq_nil_of_length_eq_zero h.symm
    subst this
    exact .done []
  | cons y cs ih =>
    cases l with
    | nil => cases h
    | cons x l => exact .here (ih (by simpa using h))

section
variable {C : ACtx} {ops : Array Oper} {K : AS → List (List Nat × List Nat) → Prop} {k : Nat} {rest : List Oper} {fr : List (Nat × AV)} {hp : List (Nat × Option Blk)} {gc : Nat} {fps : List (List Nat × List Nat)}
  {d : Nat} {ty : TypeId} {pos : String} {after : Array Edge} {gd : Option (Nat × Bool)} {x y z : Operand} {v : AV}

theorem run_fieldAt {t : Nat} {ti : TI} {fs : List (Nat × Nat)} {n off sz : Nat} (ht : C.T t = some ti) (hk : ti.k = .struct fs) (hf : fs[n]? = some (off, sz)) (h0 : Nat.blt 0 sz = true) (w : World) (a : Addr) :
    (Instr.fieldAt t (.pointer (some a)) n).run C.P w = .ok (.pointer (some (a.add off))) w := by
  obtain ⟨fields, h1, h2, _⟩ := und_struct ht hk
  rw [h2, List.getElem?_map] at hf
  cases hn : fields.toList[n]? with
  | none => rw [hn] at hf; cases hf
  | some fl =>
    rw [hn] at hf
    simp only [Option.map_some, Option.some.injEq, Prod.mk.injEq] at hf
    obtain ⟨rfl, rfl⟩ := hf
    have hn' : fields[n]? = some fl := by simpa using hn
    have hsz : ∃ i, C.P.info? fl.type = some i ∧ i.size ≠ 0 := by
      unfold szOf at h0
      cases hi : C.P.info? fl.type with
      | none => rw [hi] at h0; cases h0
      | some i =>
        rw [hi] at h0
        refine ⟨i, rfl, ?_⟩
        have := lt_of_blt h0
        simp at this
        omega
    obtain ⟨i, hi, hi0⟩ := hsz
    simp [Instr.fieldAt, run_underlying' h1, hn', Instr.sureAddr, fieldPlace, sizeOf, typeInfo, hi, hi0]

theorem ARun.fieldAddr {t n : Nat} {ti : TI} {fs : List (Nat × Nat)} {off sz b g i f : Nat} (hx : evA fr x = .ptr b g i f) (ht : C.T t = some ti) (hk : ti.k = .struct fs) (hf : fs[n]? = some (off, sz)) (h0 : Nat.blt 0 sz = true)
    (hd : Nat.blt d C.n = true) (hg : guardIs ops ⟨fr, hp, gc⟩ ⟨some d, .fieldAddr t x n, ty, pos, after, gd⟩ true)
    (nx : ARun C ops K (k + 1) rest ⟨(d, .ptr b g i (f + off)) :: fr, hp, gc⟩ (fps ++ [([], [])])) : ARun C ops K k (⟨some d, .fieldAddr t x n, ty, pos, after, gd⟩ :: rest) ⟨fr, hp, gc⟩ fps :=
  ARun.quiet hd hg [] (by simp) (fun s c a w hS hev _ => by
    have h1 := hev x (by simp [Op.operands])
    rw [hx] at h1
    generalize hu : a.eval x = u at h1
    cases h1 with
    | ptr _ _ _ _ β o hu' hp' =>
      refine ⟨.pointer (some ⟨β, o + off, none⟩), ?_, .ptr b g i (f + off) _ _ hu' (fun q hq => ?_)⟩
      · have := run_fieldAt ht hk hf h0 w ⟨β, o, none⟩
        rw [add_lit] at this
        simp [execOp, hu, this]
      · obtain ⟨e1, e2, e3⟩ := hp' q hq
        exact ⟨e1, by omega, e3⟩) nx
theorem ARun.fieldAddr_rp {t n : Nat} {ti : TI} {fs : List (Nat × Nat)} {off sz : Nat} {es : List AV} (hx : evA fr x = .rp es) (ht : C.T t = some ti) (hk : ti.k = .struct fs) (hf : fs[n]? = some (off, sz)) (h0 : Nat.blt 0 sz = true)
    (hd : Nat.blt d C.n = true) (hg : guardIs ops ⟨fr, hp, gc⟩ ⟨some d, .fieldAddr t x n, ty, pos, after, gd⟩ true)
    (nx : ARun C ops K (k + 1) rest ⟨(d, .rp (es.drop off)) :: fr, hp, gc⟩ (fps ++ [([], [])])) : ARun C ops K k (⟨some d, .fieldAddr t x n, ty, pos, after, gd⟩ :: rest) ⟨fr, hp, gc⟩ fps :=
  ARun.quiet hd hg [] (by simp) (fun s c a w hS hev _ => by
    have h1 := hev x (by simp [Op.operands])
    rw [hx] at h1
    generalize hu : a.eval x = u at h1
    cases h1 with
    | rp _ β o us hs hc hr =>
      have := run_fieldAt ht hk hf h0 w ⟨β, o, none⟩
      rw [add_lit] at this
      refine ⟨.pointer (some ⟨β, o + off, none⟩), by simp [execOp, hu, this], .rp _ β (o + off) (fun f => us (off + f)) (fun h => hs (by intro e; subst e; simp at h)) (fun f x hx => ?_) (fun f x hx => ?_)⟩
      · rw [List.getElem?_drop] at hx
        have := hc (off + f) x hx
        rwa [Nat.add_assoc]
      · rw [List.getElem?_drop] at hx
        exact hr (off + f) x hx) nx

/-- A load of a struct or an array. -/
theorem ARun.loadAgg {t : Nat} {ti : TI} {b g i f : Nat} {blk : Blk} {el cs : List AV} (hx : evA fr x = .ptr b g i f) (hb : lkH hp b = some blk) (hgg : blk.gen = g) (he : blk.els[i]? = some el) (ht : C.T t = some ti) (ha : ti.k.agg = true) (hc : loadCs el f ti.size = some cs)
    (hd : Nat.blt d C.n = true) (hg : guardIs ops ⟨fr, hp, gc⟩ ⟨some d, .load t x, ty, pos, after, gd⟩ true)
    (nx : ARun C ops K (k + 1) rest ⟨(d, .agg cs) :: fr, hp, gc⟩ (fps ++ [([b], [])])) : ARun C ops K k (⟨some d, .load t x, ty, pos, after, gd⟩ :: rest) ⟨fr, hp, gc⟩ fps :=
  ARun.quiet hd hg [(b, blk)] (by simp [hb]) (fun s c a w hS hev hrd => by
    have h1 := hev x (by simp [Op.operands])
    rw [hx] at h1
    obtain ⟨β, cur, e, q1, q2, q3, q4, q5⟩ := blk_cells hS (hrd (b, blk) (by simp)) hgg h1 he
    obtain ⟨l1, l2⟩ := loadCs_spec hc
    obtain ⟨us, m1, m2⟩ := pick_list (fun j x u => w.cell? ⟨β, i * blk.sz + f + j, none⟩ = some u ∧ u.oneCell' = true ∧ Rep c w x u) cs 0 (fun j x hx => by
      obtain ⟨u, r1, r2, r3⟩ := q5 (f + j) x (l2 j x hx)
      refine ⟨u, ?_, r2, r3⟩
      rw [Nat.zero_add, cell_row q2, Nat.add_assoc]
      exact r1)
    have hget : ∀ (j : Nat) (u : Value), us[j]? = some u → ∃ x, cs[j]? = some x := fun j u hu => ⟨cs[j]'(by have := (List.getElem?_eq_some_iff.1 hu).1; omega), List.getElem?_eq_getElem _⟩
    refine ⟨.agg us.toArray, ?_, .agg cs us m1 (fun u hu => ?_) (fun j x u hx hu => ?_)⟩
    · have := run_loadAgg ht ha w β (i * blk.sz + f) us (m1.trans l1) (fun j u hu => by
        obtain ⟨x, hx⟩ := hget j u hu
        have := (m2 j x u hx hu).1
        rwa [Nat.zero_add] at this)
      simp [execOp, q1, this]
    · obtain ⟨j, hj⟩ := List.getElem?_of_mem hu
      obtain ⟨x, hx⟩ := hget j u hj
      exact (m2 j x u hx hj).2.1
    · exact (m2 j x u hx hu).2.2) nx
theorem ARun.loadOne {t : Nat} {ti : TI} {b g i f : Nat} {blk : Blk} {el : List AV} (hx : evA fr x = .ptr b g i f) (hb : lkH hp b = some blk) (hgg : blk.gen = g) (he : blk.els[i]? = some el) (ht : C.T t = some ti) (ha : ti.k.agg = false) (hc : el[f]? = some v)
    (hd : Nat.blt d C.n = true) (hg : guardIs ops ⟨fr, hp, gc⟩ ⟨some d, .load t x, ty, pos, after, gd⟩ true)
    (nx : ARun C ops K (k + 1) rest ⟨(d, v) :: fr, hp, gc⟩ (fps ++ [([b], [])])) : ARun C ops K k (⟨some d, .load t x, ty, pos, after, gd⟩ :: rest) ⟨fr, hp, gc⟩ fps :=
  ARun.quiet hd hg [(b, blk)] (by simp [hb]) (fun s c a w hS hev hrd => by
    have h1 := hev x (by simp [Op.operands])
    rw [hx] at h1
    obtain ⟨β, cur, e, q1, q2, q3, q4, q5⟩ := blk_cells hS (hrd (b, blk) (by simp)) hgg h1 he
    obtain ⟨u, r1, r2, r3⟩ := q5 f v hc
    refine ⟨u, ?_, r3⟩
    have := run_loadOne ht ha w ⟨β, i * blk.sz + f, none⟩ u ((cell_row q2).trans r1)
    simp [execOp, q1, this]) nx
theorem ARun.loadAgg_rp {t : Nat} {ti : TI} {es cs : List AV} (hx : evA fr x = .rp es) (ht : C.T t = some ti) (ha : ti.k.agg = true) (hc : loadCs es 0 ti.size = some cs)
    (hd : Nat.blt d C.n = true) (hg : guardIs ops ⟨fr, hp, gc⟩ ⟨some d, .load t x, ty, pos, after, gd⟩ true)
    (nx : ARun C ops K (k + 1) rest ⟨(d, .agg cs) :: fr, hp, gc⟩ (fps ++ [([], [])])) : ARun C ops K k (⟨some d, .load t x, ty, pos, after, gd⟩ :: rest) ⟨fr, hp, gc⟩ fps :=
  ARun.quiet hd hg [] (by simp) (fun s c a w hS hev hrd => by
    have h1 := hev x (by simp [Op.operands])
    rw [hx] at h1
    generalize hu : a.eval x = u at h1
    cases h1 with
    | rp _ β o us hs hcc hr =>
      obtain ⟨l1, l2⟩ := loadCs_spec hc
      refine ⟨.agg ((List.range cs.length).map us).toArray, ?_, .agg cs _ (by simp) (fun u hu => ?_) (fun j x u hx hu => ?_)⟩
      · have := run_loadAgg ht ha w β o ((List.range cs.length).map us) (by simp [l1]) (fun j u hu => by
          rw [List.getElem?_map] at hu
          cases hj : (List.range cs.length)[j]? with
          | none => rw [hj] at hu; cases hu
          | some j' =>
            rw [hj] at hu
            have hjl : j < cs.length := by simpa using (List.getElem?_eq_some_iff.1 hj).1
            obtain rfl : j = j' := by simpa [List.getElem?_range, hjl] using hj
            have hx := List.getElem?_eq_getElem hjl
            have := hcc j _ (by have := l2 j _ hx; rwa [Nat.zero_add] at this)
            simp only [Option.map_some, Option.some.injEq] at hu
            rw [← hu]
            exact this.1)
        simp [execOp, hu, this]
      · obtain ⟨j, hj, rfl⟩ := List.mem_map.1 hu
        have hx := List.getElem?_eq_getElem (List.mem_range.1 hj)
        exact (hcc j _ (by have := l2 j _ hx; rwa [Nat.zero_add] at this)).2
      · have hjl : j < cs.length := (List.getElem?_eq_some_iff.1 hx).1
        have : u = us j := by simpa [List.getElem?_map, List.getElem?_range, hjl] using hu.symm
        subst this
        exact hr j x (by have := l2 j _ hx; rwa [Nat.zero_add] at this)) nx
theorem ARun.loadOne_rp {t : Nat} {ti : TI} {es : List AV} (hx : evA fr x = .rp es) (ht : C.T t = some ti) (ha : ti.k.agg = false) (hc : es[0]? = some v)
    (hd : Nat.blt d C.n = true) (hg : guardIs ops ⟨fr, hp, gc⟩ ⟨some d, .load t x, ty, pos, after, gd⟩ true)
    (nx : ARun C ops K (k + 1) rest ⟨(d, v) :: fr, hp, gc⟩ (fps ++ [([], [])])) : ARun C ops K k (⟨some d, .load t x, ty, pos, after, gd⟩ :: rest) ⟨fr, hp, gc⟩ fps :=
  ARun.quiet hd hg [] (by simp) (fun s c a w hS hev hrd => by
    have h1 := hev x (by simp [Op.operands])
    rw [hx] at h1
    generalize hu : a.eval x = u at h1
    cases h1 with
    | rp _ β o us hs hcc hr =>
      have h2 := (hcc 0 v hc).1
      rw [Nat.add_zero] at h2
      have := run_loadOne ht ha w ⟨β, o, none⟩ (us 0) h2
      exact ⟨us 0, by simp [execOp, hu, this], hr 0 v hc⟩) nx

/-- A store: of a struct, an array, or one cell. -/
theorem ARun.store {t : Nat} {ti : TI} {b g i f : Nat} {gen sz : Nat} {els : List (List AV)} {el el' cs : List AV} (hx : evA fr x = .ptr b g i f) (hb : lkH hp b = some ⟨gen, sz, els⟩) (hgg : gen = g) (he : els[i]? = some el)
    (ht : C.T t = some ti) (hc : cellsA (evA fr y) = some cs) (hl : cs.length = ti.size) (h0 : Nat.blt 0 ti.size = true) (hs : SetAts el f cs el')
    (hg : guardIs ops ⟨fr, hp, gc⟩ ⟨none, .store t x y, ty, pos, after, gd⟩ true)
    (nx : ARun C ops K (k + 1) rest ⟨fr, (b, some ⟨gen, sz, els.set i el'⟩) :: hp, gc⟩ (fps ++ [([b], [b])])) : ARun C ops K k (⟨none, .store t x y, ty, pos, after, gd⟩ :: rest) ⟨fr, hp, gc⟩ fps := by
  refine ARun.step .dead [(b, ⟨gen, sz, els⟩)] [(b, some ⟨gen, sz, els.set i el'⟩)] hg (by simp [hb]) ?_ nx
  intro s c a w hS hf hargs hrd
  have hev : ∀ z ∈ [x, y], Rep c w (evA fr z) (a.eval z) := by
    intro z hz
    have hz' : z ∈ (Op.store t x y).operands.toList := by simpa [Op.operands] using hz
    rw [← args_ev hargs z hz']
    exact hS.ev z
  have h1 := hev x (by simp)
  have h2 := hev y (by simp)
  rw [hx] at h1
  have hbb := hrd (b, ⟨gen, sz, els⟩) (by simp)
  obtain ⟨β, cur, e, q1, q2, q3, q4, q5⟩ := blk_cells hS hbb hgg h1 he
  simp only at q1 q3 q4 q5
  obtain ⟨c1, c2, c3⟩ := cells_rep h2 hc
  obtain ⟨s1, s2, s3, s4⟩ := hs.spec
  obtain ⟨o, hob, hB⟩ := hS.hp b _ hbb
  simp only at hob
  rw [hgg] at hob
  rw [q3] at hob
  obtain rfl := Option.some.inj hob
  have hp0 := lt_of_blt h0
  obtain ⟨hob1, hob2, hob3⟩ := hB.row (by simp only; omega)
  simp only at hob1 hob2 hob3
  obtain ⟨cur', e', hcur, hroom, hrep⟩ := hob3
  obtain ⟨rfl, rfl⟩ := q2.inj hcur
  have hfit : i * sz + f + 0 + cs.length ≤ cur.size := by
    rw [Nat.add_zero]
    have hpos := lt_of_blt h0
    obtain ⟨u, hu, _⟩ := q5 (sz - 1) (el[sz - 1]'(by omega)) (List.getElem?_eq_getElem _)
    have := (Array.getElem?_eq_some_iff.1 hu).1
    omega
  have hst := RowAt.store C.P (i * sz + f) (a.eval y).cells.toList 0 q2 (by simpa [c1] using hfit) c3
  simp only [Nat.add_zero] at hst
  have hrun : (execOp a.eval ⟨none, .store t x y, ty, pos, after, gd⟩).run C.P w = .ok .skip (w.setRow β (cur.toList.take (i * sz + f) ++ (a.eval y).cells.toList ++ cur.toList.drop (i * sz + f + (a.eval y).cells.toList.length)).toArray) := by
    simp [execOp, Instr.storeAt, Instr.sureAddr, q1, storeVar, run_sizeOf ht, c1, hl, hst]
  refine wp_skip' hrun ⟨_, hS.upd (w' := w.setRow β _) b ⟨gen, sz, els.set i el'⟩ ⟨some β, sz, cur.size⟩ (.inr (by rw [hgg]; exact q3)) rfl rfl rfl (by simp) (fun β' _ hne => ?_) (fun β' hβ => ?_) (fun hm => .inl ⟨rfl, fun el2 hel2 => ?_, row_intro (R := fun cur _ => ∀ (i2 : Nat) (el2 : List AV) (f2 : Nat) (x2 : AV), (els.set i el')[i2]? = some el2 → el2[f2]? = some x2 → ∃ u, cur[i2 * sz + f2]? = some u ∧ u.oneCell' = true ∧ Rep _ _ x2 u) q2 rfl ?_ ?_⟩) none .dead undef (by simp) (by simp), fun g' hg' => ?_⟩
  · refine setRow_other w β β' _ (fun e => hne (by rw [e]))
  · exact .inr ⟨g, _, q3, hβ⟩
  · rcases List.mem_or_eq_of_mem_set hel2 with h | h
    · exact hob2 el2 h
    · rw [h, s1]; exact q4
  · have hc1 : (a.eval y).cells.toList.length = cs.length := by simpa using c1
    simp only [List.size_toArray, List.length_append, List.length_take, List.length_drop, Array.length_toList, hc1]
    omega
  · intro i2 el2 f2 x2 hi2 hx2
    have hc1 : (a.eval y).cells.toList.length = cs.length := by simpa using c1
    have hnew : ∀ j, (cur.toList.take (i * sz + f) ++ (a.eval y).cells.toList ++ cur.toList.drop (i * sz + f + (a.eval y).cells.toList.length)).toArray[j]? =
        if j < i * sz + f then cur[j]? else if j < i * sz + f + cs.length then (a.eval y).cells[j - (i * sz + f)]? else cur[j]? := by
      intro j
      rw [List.getElem?_toArray, list_over _ _ _ (by rw [hc1, Array.length_toList]; omega) j, hc1]
      simp
    rw [hnew]
    simp only at hi2 ⊢
    rw [List.getElem?_set] at hi2
    have hf2 : f2 < sz := by
      have hx2' := (List.getElem?_eq_some_iff.1 hx2).1
      have : el2.length = sz := by
        split at hi2
        · split at hi2
          · obtain rfl := Option.some.inj hi2; rw [s1]; exact q4
          · cases hi2
        · exact hob2 el2 (List.mem_of_getElem? hi2)
      omega
    by_cases hii : i = i2
    · subst hii
      rw [if_pos rfl, if_pos (List.getElem?_eq_some_iff.1 he).1] at hi2
      obtain rfl := Option.some.inj hi2
      by_cases hr1 : f2 < f
      · rw [s4 f2 (.inl hr1)] at hx2
        rw [if_pos (by omega)]
        obtain ⟨u, r1, r2, r3⟩ := q5 f2 x2 hx2
        exact ⟨u, r1, r2, r3.mono hm⟩
      · by_cases hr2 : f2 < f + cs.length
        · rw [if_neg (by omega), if_pos (by omega)]
          have := s3 (f2 - f) (by omega)
          rw [show f + (f2 - f) = f2 by omega, hx2] at this
          obtain ⟨u, r1, r2, r3⟩ := c2 (f2 - f) x2 this.symm
          exact ⟨u, by rw [show i * sz + f2 - (i * sz + f) = f2 - f by omega]; exact r1, r2, r3.mono hm⟩
        · rw [s4 f2 (.inr (by omega))] at hx2
          rw [if_neg (by omega), if_neg (by omega)]
          obtain ⟨u, r1, r2, r3⟩ := q5 f2 x2 hx2
          exact ⟨u, r1, r2, r3.mono hm⟩
    · rw [if_neg hii] at hi2
      obtain ⟨u, r1, r2, r3⟩ := hrep i2 el2 f2 x2 hi2 hx2
      have hfl : f + cs.length ≤ sz := by omega
      refine ⟨u, ?_, r2, r3.mono hm⟩
      have hne : i2 * sz + f2 < i * sz + f ∨ i * sz + f + cs.length ≤ i2 * sz + f2 := by
        rcases Nat.lt_or_gt_of_ne hii with h | h
        · right
          have : (i + 1) * sz ≤ i2 * sz := Nat.mul_le_mul_right _ h
          rw [Nat.add_mul] at this
          omega
        · left
          have : (i2 + 1) * sz ≤ i * sz := Nat.mul_le_mul_right _ h
          rw [Nat.add_mul] at this
          omega
      rcases hne with h | h
      · rw [if_pos h]; exact r1
      · rw [if_neg (by omega), if_neg (by omega)]; exact r1
  · rcases hg' with h | h
    · exact .inl h
    · left
      simp only at h
      rw [h]
      exact (hS.al b g _ q3).1 |> (fun z => hgg ▸ z)
end
end Go.Proofs.Ytedfegoafallhaa
