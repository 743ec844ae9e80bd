/- Rows by their elements, make, slices of slices. -/
import Derived.Test.YtedfegoafallhaaA8
namespace Go.Proofs.Ytedfegoafallhaa
set_option linter.unusedVariables false
set_option linter.unusedSimpArgs false
open Go Go.RowKit

inductive SetEl {α : Type} : List α → Nat → α → List α → Prop where
  | here {x y : α} {l : List α} : SetEl (x :: l) 0 y (y :: l)
  | there {x y : α} {l l' : List α} {n : Nat} (h : SetEl l n y l') : SetEl (x :: l) (n + 1) y (x :: l')
theorem SetEl.spec {α : Type} {l l' : List α} {n : Nat} {y : α} (h : SetEl l n y l') : n < l.length ∧ l' = l.set n y := by
  induction h with
  | here => simp
  | there _ ih =>
    refine ⟨by simp [ih.1], ?_⟩
    rw [ih.2]
    rfl

inductive BuildS (sz : Nat) (fr : List (Nat × AV)) : List (Nat × Operand) → List (List AV) → List (List AV) → Prop where
  | nil (els : List (List AV)) : BuildS sz fr [] els els
  | cons {i : Nat} {x : Operand} {ps : List (Nat × Operand)} {cs : List AV} {els els' els'' : List (List AV)} (hc : cellsA (evA fr x) = some cs) (hl : cs.length = sz) (hs : SetEl els i cs els') (t : BuildS sz fr ps els' els'') : BuildS sz fr ((i, x) :: ps) els els''

def ElsIn (c : RC) (w : World) (sz : Nat) (els : List (List AV)) (cells : Array Value) : Prop :=
  cells.size = els.length * sz ∧ (∀ el, el ∈ els → el.length = sz) ∧ ∀ (i : Nat) (el : List AV) (f : Nat) (x : AV), els[i]? = some el → el[f]? = some x → ∃ u, cells[i * sz + f]? = some u ∧ u.oneCell' = true ∧ Rep c w x u

theorem BuildS.run {sz : Nat} {fr : List (Nat × AV)} {c : RC} {w : World} {a : Act} {ps : List (Nat × Operand)} {els els' : List (List AV)} (h : BuildS sz fr ps els els') :
    (∀ p ∈ ps, Rep c w (evA fr p.2) (a.eval p.2)) → ∀ (cells : Array Value), ElsIn c w sz els cells →
    ∃ cells', Instr.fill (fun i => some (i * sz, sz)) cells (ps.map fun p => (p.1, a.eval p.2)) = some cells' ∧ ElsIn c w sz els' cells' ∧ els'.length = els.length := by
  induction h with
  | nil els => exact fun _ cells h => ⟨cells, rfl, h, rfl⟩
  | @cons i x ps cs els els1 els2 hc hl hs _ ih =>
    intro hev cells ⟨h1, h2, h3⟩
    obtain ⟨c1, c2, c3⟩ := cells_rep (hev (i, x) (by simp)) hc
    simp only at c1 c2 c3
    obtain ⟨s1, s2⟩ := hs.spec
    subst s2
    have hsz : (a.eval x).cells.size = sz := by rw [c1, hl]
    have hl' : (a.eval x).cells.toList.length = sz := by simpa using hsz
    have hfit : i * sz + 0 + (a.eval x).cells.toList.length ≤ cells.size := by
      have : (i + 1) * sz ≤ els.length * sz := Nat.mul_le_mul_right _ s1
      rw [Nat.add_mul] at this
      omega
    have hget := foldl_get (i * sz) (a.eval x).cells.toList 0 cells
    obtain ⟨cells', g1, g2, g3⟩ := ih (fun p hp => hev p (by simp [hp])) ((a.eval x).cells.toList.zipIdx.foldl (fun cs (p : Value × Nat) => cs.setIfInBounds (i * sz + p.2) p.1) cells) (by
      refine ⟨by rw [foldl_set, h1, List.length_set], fun el hel => ?_, fun j el f y hj hy => ?_⟩
      · rcases List.mem_or_eq_of_mem_set hel with h | h
        · exact h2 el h
        · rw [h]; exact hl
      · have hf : f < sz := by
          have h5 := (List.getElem?_eq_some_iff.1 hy).1
          rw [List.getElem?_set] at hj
          split at hj
          · rename_i hij
            try rw [if_pos s1] at hj
            obtain rfl := Option.some.inj hj
            omega
          · rw [h2 el (List.mem_of_getElem? hj)] at h5; exact h5
        rw [hget _ (by omega)]
        rw [List.getElem?_set] at hj
        by_cases hij : i = j
        · subst hij
          rw [if_pos rfl, if_pos s1] at hj
          obtain rfl := Option.some.inj hj
          rw [if_pos (by omega), show i * sz + f - (i * sz + 0) = f by omega]
          obtain ⟨u, r1, r2, r3⟩ := c2 f y hy
          exact ⟨u, by simpa using r1, r2, r3⟩
        · rw [if_neg hij] at hj
          rw [if_neg]
          · exact h3 j el f y hj hy
          · intro ⟨q1, q2⟩
            rcases Nat.lt_or_gt_of_ne hij with h | h
            · have : (i + 1) * sz ≤ j * sz := Nat.mul_le_mul_right _ h
              rw [Nat.add_mul] at this
              omega
            · have : (j + 1) * sz ≤ i * sz := Nat.mul_le_mul_right _ h
              rw [Nat.add_mul] at this
              omega)
    refine ⟨cells', ?_, g2, by rw [g3, List.length_set]⟩
    rw [List.map_cons, Instr.fill]
    simp only
    rw [if_neg]
    · have e : (Array.foldl (fun cs (x : Value × Nat) => match x with | (c, j) => cs.setIfInBounds (i * sz + j) c) cells (a.eval x).cells.zipIdx) = (a.eval x).cells.toList.zipIdx.foldl (fun cs (p : Value × Nat) => cs.setIfInBounds (i * sz + p.2) p.1) cells := by
        rw [← Array.foldl_toList, Array.toList_zipIdx]
      rw [e]
      exact g1
    · rw [hsz]
      simp only [ne_eq, not_true_eq_false, decide_false, Bool.or_eq_true, decide_eq_true_eq, false_or, Bool.false_eq_true, gt_iff_lt, Nat.not_lt]
      omega

theorem zeros_in {c : RC} {w : World} {z : Array Value} {l : List Value} {sz : Nat} (h : z.toList = l) (h1 : l.all Value.oneCell' = true) (hl : l.length = sz) (h0 : 0 < sz) (n : Nat) :
    ElsIn c w sz (List.replicate n (l.map zv)) ((Array.range (n * sz)).map (z[· % z.size]!)) := by
  have hzs : z.size = sz := by rw [← hl, ← h]; simp
  refine ⟨by simp, fun el hel => by rw [(List.mem_replicate.1 hel).2]; simp [hl], fun i el f x hi hx => ?_⟩
  have hi' := (List.getElem?_eq_some_iff.1 hi).1
  rw [List.length_replicate] at hi'
  have : el = l.map zv := by
    rw [List.getElem?_replicate] at hi
    rw [if_pos hi'] at hi
    exact (Option.some.inj hi).symm
  subst this
  obtain ⟨u, hu, rfl⟩ := zv_map_get hx
  have hf : f < sz := by rw [← hl]; exact (List.getElem?_eq_some_iff.1 hu).1
  refine ⟨u, ?_, List.all_eq_true.1 h1 u (List.mem_of_getElem? hu), zv_rep c w u⟩
  have hlt : i * sz + f < n * sz := by
    have : (i + 1) * sz ≤ n * sz := Nat.mul_le_mul_right _ hi'
    rw [Nat.add_mul] at this
    omega
  have e2 : (i * sz + f) % sz = f := by rw [Nat.mul_comm, Nat.mul_add_mod, Nat.mod_eq_of_lt hf]
  rw [Array.getElem?_map, Array.getElem?_range, if_pos hlt, Option.map_some, hzs, e2]
  congr 1
  subst h
  have hfz : f < z.size := by omega
  rw [getElem!_pos z f hfz]
  rw [Array.getElem?_toList, Array.getElem?_eq_getElem hfz] at hu
  exact Option.some.inj hu

section
variable {C : ACtx} {ops : Array Oper} {K : AS → List (List Nat × List Nat) → Prop} {k : Nat} {rest : List Oper} {fr : List (Nat × AV)} {hp : List (Nat × Option Blk)} {gc : Nat} {fps : List (List Nat × List Nat)}
  {d : Nat} {ty : TypeId} {pos : String} {after : Array Edge} {gd : Option (Nat × Bool)} {x y z : Operand} {v : AV}

/-- An operation that makes memory that never turns. -/
theorem ARun.newSt {op : Op} (hd : Nat.blt d C.n = true) (hg : guardIs ops ⟨fr, hp, gc⟩ ⟨some d, op, ty, pos, after, gd⟩ true)
    (h : ∀ (c : RC) (a : Act) (w : World), (∀ x ∈ op.operands, Rep c w (evA fr x) (a.eval x)) → ∃ u o, (execOp a.eval ⟨some d, op, ty, pos, after, gd⟩).run C.P w = .ok (.value u) (w.alloc o) ∧ (Mono c ⟨c.own, c.used, fun β => c.st β ∨ β = w.heap.size⟩ w (w.alloc o) → Rep ⟨c.own, c.used, fun β => c.st β ∨ β = w.heap.size⟩ (w.alloc o) v u))
    (n : ARun C ops K (k + 1) rest ⟨(d, v) :: fr, hp, gc⟩ (fps ++ [([], [])])) : ARun C ops K k (⟨some d, op, ty, pos, after, gd⟩ :: rest) ⟨fr, hp, gc⟩ fps := by
  refine ARun.step v [] [] hg (by simp) ?_ n
  intro s c a w hS hf hargs _
  obtain ⟨u, o, h1, h2⟩ := h c a w (fun z hz => by
    rw [← args_ev hargs z (by simpa using hz)]
    exact hS.ev z)
  refine wp_value h1 ⟨_, hS.grow (w' := w.alloc o) (fun β => c.st β ∨ β = w.heap.size) ((Below.refl _ _).alloc (Nat.le_refl _) o) (fun β hb => .inl hb) (fun β hb => ?_) (some d) v u (dst_lt hd) (fun _ hm => h2 hm), fun g hg => .inl hg⟩
  rcases hb with h | h
  · exact .inl h
  · exact .inr (by subst h; simp)

theorem sl_new {c : RC} {w : World} {sz : Nat} {els : List (List AV)} {cells : Array Value} {e : TypeId} (h : ElsIn c w sz els cells) (hm : els.length ≤ maxLen) (hmono : Mono c ⟨c.own, c.used, fun β => c.st β ∨ β = w.heap.size⟩ w (w.alloc (.cells cells e))) :
    Rep ⟨c.own, c.used, fun β => c.st β ∨ β = w.heap.size⟩ (w.alloc (.cells cells e)) (.sl sz true els) (.slice (some ⟨w.heap.size, 0, none⟩) els.length els.length) := by
  obtain ⟨h1, h2, h3⟩ := h
  refine .sl sz true els _ els.length w.heap.size 0 (fun i f => (cells[i * sz + f]?).getD undef) (Nat.le_refl _) hm (fun _ => rfl) (fun h => by cases h) h2 (fun _ => ⟨rfl, fun _ => .inr rfl⟩) (fun i el f x hi hx => ?_) (fun i el f x hi hx => ?_)
  · obtain ⟨u, r1, r2, r3⟩ := h3 i el f x hi hx
    rw [r1]
    refine ⟨?_, r2⟩
    rw [Nat.zero_add, cell_row (.plain (heap_alloc_new w _))]
    exact r1
  · obtain ⟨u, r1, r2, r3⟩ := h3 i el f x hi hx
    rw [r1]
    exact r3.mono hmono

theorem ARun.buildSlice {t e n : Nat} {ti te : TI} {ps : Array (Nat × Operand)} {els : List (List AV)} (ht : C.T t = some ti) (hk : ti.k = .slice e) (hte : C.T e = some te) (hz1 : te.zero.all Value.oneCell' = true) (hzl : te.zero.length = te.size) (h0 : Nat.blt 0 te.size = true)
    (hsm : Nat.ble (n * te.size) 16777216 = true) (hb : BuildS te.size fr ps.toList (List.replicate n (te.zero.map zv)) els)
    (hd : Nat.blt d C.n = true) (hg : guardIs ops ⟨fr, hp, gc⟩ ⟨some d, .buildSlice t n ps, ty, pos, after, gd⟩ true)
    (nx : ARun C ops K (k + 1) rest ⟨(d, .sl te.size true els) :: fr, hp, gc⟩ (fps ++ [([], [])])) : ARun C ops K k (⟨some d, .buildSlice t n ps, ty, pos, after, gd⟩ :: rest) ⟨fr, hp, gc⟩ fps :=
  ARun.newSt hd hg (fun c a w hev => by
    have h0' := lt_of_blt h0
    have hsm' := Nat.le_of_ble_eq_true hsm
    have hun := run_underlying' (und_slice ht hk) w
    have hs := run_sizeOf hte w
    obtain ⟨z, hz, hzc⟩ := run_zeroValue hte w
    obtain ⟨cells', g1, g2, g3⟩ := hb.run (c := c) (w := w) (a := a) (fun p hp => hev p.2 (by simp only [Op.operands, List.mem_toArray]; exact List.mem_map_of_mem hp)) _ (zeros_in hzc hz1 hzl h0' n)
    have hlen : els.length = n := by rw [g3]; simp
    have hle : n ≤ 16777216 := Nat.le_trans (Nat.le_mul_of_pos_right n h0') hsm'
    refine ⟨.slice (some ⟨w.heap.size, 0, none⟩) els.length els.length, .cells cells' e, ?_, fun hm => sl_new g2 (by rw [hlen]; simp only [maxLen]; omega) hm⟩
    have e2 : (ps.map fun (i, x) => (i, a.eval x)).toList = ps.toList.map fun p => (p.1, a.eval p.2) := by simp
    have hnot : ¬ (2 ^ 24 < n * te.size) := by omega
    have hzs : z.cells.size = te.size := by rw [← hzl, ← hzc]; simp
    have hrun : (Instr.buildSlice t n (ps.map fun (i, x) => (i, a.eval x))).run C.P w = .ok (.slice (some ⟨w.heap.size, 0, none⟩) n n) (w.alloc (.cells cells' e)) := by
      unfold Instr.buildSlice
      simp only [Sem.run_bind, hun, Result.andThen_ok, hs, gt_iff_lt, hnot, if_false, e2]
      by_cases hn : n * te.size = 0
      · have hn0 : n = 0 := by
          rcases Nat.mul_eq_zero.1 hn with h | h
          · exact h
          · omega
        subst hn0
        have he : (Array.map (fun x => z.cells[x % z.cells.size]!) (Array.range (0 * te.size))) = #[] := by simp
        rw [he] at g1
        rw [if_pos hn]
        simp only [Sem.run_bind, Sem.run_pure, Result.andThen_ok]
        have he' : (Array.map (fun x => (#[] : Array Value)[x % (#[] : Array Value).size]!) (Array.range (0 * te.size))) = #[] := by
          apply Array.eq_empty_of_size_eq_zero
          simp
        rw [he', g1]
        simp [newRow]
      · rw [if_neg hn]
        simp only [Sem.run_bind, hz, Result.andThen_ok, Sem.run_pure, g1]
        simp [newRow]
    rw [hlen]
    simp [execOp, hrun]) nx

theorem ARun.makeSlice {t e : Nat} {ti te : TI} {kx ky : IntKind} {n m : Int} (hx : evA fr x = .val (.int kx n)) (hy : evA fr y = .val (.int ky m)) (h1 : 0 ≤ n) (h2 : n ≤ m) (ht : C.T t = some ti) (hk : ti.k = .slice e) (hte : C.T e = some te) (hz1 : te.zero.all Value.oneCell' = true) (hzl : te.zero.length = te.size) (h0 : Nat.blt 0 te.size = true)
    (hb : (te.bytes : Int) * m ≤ 281474976710656) (hm : m ≤ 9223372036854775807) (hd : Nat.blt d C.n = true) (hg : guardIs ops ⟨fr, hp, gc⟩ ⟨some d, .makeSlice t x y, ty, pos, after, gd⟩ true)
    (nx : ARun C ops K (k + 1) rest ⟨(d, .own d (gc + k) 0 n.toNat) :: fr, (d, some ⟨gc + k, te.size, List.replicate n.toNat (te.zero.map zv)⟩) :: hp, gc⟩ (fps ++ [([], [d])])) : ARun C ops K k (⟨some d, .makeSlice t x y, ty, pos, after, gd⟩ :: rest) ⟨fr, hp, gc⟩ fps :=
  ARun.step (.own d (gc + k) 0 n.toNat) [] [(d, some ⟨gc + k, te.size, List.replicate n.toNat (te.zero.map zv)⟩)] hg (by simp) (does_new (dst_lt hd) rfl (fun el hel => by rw [(List.mem_replicate.1 hel).2]; simp [hzl]) (fun s c a w hS hev => by
    have h1' := hev x (by simp [Op.operands])
    have h2' := hev y (by simp [Op.operands])
    rw [hx] at h1'
    rw [hy] at h2'
    have h1' := h1'.val_inv
    have h2' := h2'.val_inv
    have h0' := lt_of_blt h0
    have hun := run_underlying' (und_slice ht hk) w
    have hs := run_sizeOf hte w
    obtain ⟨z, hz, hzc⟩ := run_zeroValue hte w
    obtain ⟨u0, i0, z0, hue, hie, hze, htee⟩ := ti_get hte
    have hbb : (i0.bytes : Int) * m ≤ 281474976710656 := by rw [htee] at hb; exact hb
    obtain ⟨q1, q2, q3⟩ := zeros_in (c := c) (w := w) hzc hz1 hzl h0' m.toNat
    have wn : IntKind.i64.wrap n = n := IntWalk.i64_in _ (by omega)
    have wm : IntKind.i64.wrap m = m := IntWalk.i64_in _ (by omega)
    refine ⟨.slice (some ⟨w.heap.size, 0, none⟩) n.toNat m.toNat, (Array.range (m.toNat * te.size)).map (z.cells[· % z.cells.size]!), e, ?_, fun i el f x hi hx => ?_, .own _ _ _ _ _ _ _ (.inr rfl) (fun o ho => ?_)⟩
    · have c1 : ¬ (m < 0) := by omega
      have c2 : ¬ (281474976710656 < (i0.bytes : Int) * m) := by omega
      have c3 : ¬ (n < 0) := by omega
      have c4 : ¬ (m < n) := by omega
      have hinfo : (typeInfo e).run C.P w = .ok i0 w := by simp [typeInfo, hie]
      unfold execOp Instr.makeSlice
      by_cases hn : m.toNat * te.size = 0
      · have hm0 : m.toNat = 0 := by
          rcases Nat.mul_eq_zero.1 hn with h | h
          · exact h
          · omega
        simp [h1', h2', hun, asInt, asIntOf, hinfo, wn, wm, c1, c2, c3, c4, hs, hm0, newRow]
        congr 2
        apply Array.ext <;> simp
      · simp [h1', h2', hun, asInt, asIntOf, hinfo, wn, wm, c1, c2, c3, c4, hs, hz, newRow]
        exact fun h => absurd h hn
    · have hi' := (List.getElem?_eq_some_iff.1 hi).1
      rw [List.length_replicate] at hi'
      refine q3 i el f x ?_ hx
      rw [List.getElem?_replicate] at hi ⊢
      rw [if_pos hi'] at hi
      rw [if_pos (by omega)]
      exact hi
    · simp [RC.upd] at ho
      subst ho
      refine ⟨rfl, by omega, by simp only [maxLen]; omega, (fun h => by cases h), h0', .inr ⟨_, rfl, by simp, by simp⟩⟩)) nx
end
end Go.Proofs.Ytedfegoafallhaa
