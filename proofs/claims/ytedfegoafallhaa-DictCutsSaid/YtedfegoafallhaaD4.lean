/- More operations: loops that are unrolled, tests of nil, texts and bytes, rows of arrays, make and append. -/
import Derived.Test.YtedfegoafallhaaD3
import Derived.Lib.AppendZerosOnto
import Derived.Lib.ConvBytes
import Derived.Laws.BytesString
namespace Go.Proofs.Ytedfegoafallhaa
set_option linter.unusedVariables false
set_option linter.unusedSimpArgs false
open Go Go.RowKit
set_option maxRecDepth 100000

/-- A loop of few rounds. -/
def LoopN (C : ACtx) (c : Code) (Q : Exit → AS → Prop) : Nat → AS → Prop
  | 0, _ => False
  | n + 1, s => awp C c s (thenA (fun s' => LoopN C c Q n s') Q)
theorem LoopN.step {C : ACtx} {c : Code} {Q : Exit → AS → Prop} {n : Nat} {s : AS} (h : awp C c s (thenA (fun s' => LoopN C c Q n s') Q)) : LoopN C c Q (n + 1) s := h
theorem awp_loopN {C : ACtx} {s : AS} {Q : Exit → AS → Prop} {c : Code} (n : Nat) (h : LoopN C c Q n s) : awp C (.loop c) s Q := by
  intro a w hs
  refine wp_loop_ex (I := fun (t : Nat × AS) a w => SimE C t.2 a w ∧ LoopN C c Q t.1 t.2) (fun t => t.1) (t := (n, s)) ⟨hs, h⟩ (fun t a w ht => ?_)
  obtain ⟨m, s1⟩ := t
  obtain ⟨h1, h2⟩ := ht
  cases m with
  | zero => exact h2.elim
  | succ m =>
    refine wpIn_mono (h2 a w h1) (fun e a' w' ⟨s', k1, k2⟩ => ?_)
    cases e with
    | normal => exact ⟨(m, s'), ⟨k1, k2⟩, Nat.lt_succ_self _⟩
    | _ => exact ⟨s', k1, k2⟩
/-- A test that may turn out either way. -/
theorem awp_condAny {C : ACtx} {s : AS} {Q : Exit → AS → Prop} {x : Operand} {c d : Code} (hv : s.ev x = .bany) (ht : awp C c s Q) (hf : awp C d s Q) : awp C (.cond x c d) s Q := by
  intro a w hs
  have he : ∃ b, a.eval x = .bool b := by
    obtain ⟨c', hS, _⟩ := hs
    have := hS.ev x
    rw [hv] at this
    generalize a.eval x = u at this
    cases this
    exact ⟨_, rfl⟩
  obtain ⟨b, he⟩ := he
  exact wpIn_cond_split he (fun e => ht a w hs) (fun e => hf a w hs)

section
variable {C : ACtx} {ops : Array Oper} {K : AS → List (List Nat × List Nat) → Prop} {k : Nat} {rest : List Oper} {fr : List (Nat × AV)} {hp : List (Nat × Option Blk)} {gc : Nat} {fps : List (List Nat × List Nat)}
  {d : Nat} {ty : TypeId} {pos : String} {after : Array Edge} {gd : Option (Nat × Bool)} {x y z : Operand} {v : AV}

/-- What 's == nil' says. -/
def nilAV : AV → Option AV
  | .sl _ _ [] => some .bany
  | .sl _ _ (_ :: _) => some (.val (.bool false))
  | _ => none
theorem run_eqSlice {P : Program} {t e : TypeId} (ht : P.underlying t = some (.slice e)) (w : World) (A : Option Addr) (n c : Nat) (x y : Operand) : (do eqGuard .eql t x y (.slice A n c) (.slice none 0 0); binOp .eql t (.slice A n c) (.slice none 0 0) : Sem Value).run P w = .ok (.bool (A.isNone)) w := by
  have hg : (eqGuard .eql t x y (.slice A n c) (.slice none 0 0)).run P w = .ok () w := by
    unfold eqGuard
    rfl
  rw [Sem.run_bind, hg, Result.andThen_ok]
  have : (Op.equalIn (9999 + 1) t (.slice A n c) (.slice none 0 0)).run P w = .ok A.isNone w := by
    rw [Op.equalIn, Sem.run_bind, run_underlying ht]
    cases A <;> rfl
  have e : (binOp .eql t (.slice A n c) (.slice none 0 0)) = (do pure (.bool (← Op.equalIn (9999 + 1) t (.slice A n c) (.slice none 0 0)))) := rfl
  rw [e, Sem.run_bind, this]
  rfl
theorem ARun.eqNil {t e yt : Nat} {ti : TI} (hx : nilAV (evA fr x) = some v) (ht : C.T t = some ti) (hk : ti.k = .slice e) (hd : Nat.blt d C.n = true) (hg : guardIs ops ⟨fr, hp, gc⟩ ⟨some d, .binOp .eql t x (.const (.slice none 0 0)) yt, ty, pos, after, gd⟩ true)
    (nx : ARun C ops K (k + 1) rest ⟨(d, v) :: fr, hp, gc⟩ (fps ++ [([], [])])) : ARun C ops K k (⟨some d, .binOp .eql t x (.const (.slice none 0 0)) yt, ty, pos, after, gd⟩ :: rest) ⟨fr, hp, gc⟩ fps :=
  ARun.quiet hd hg [] (by simp) (fun s c a w hS hev _ => by
    have hrx := hev x (by simp [Op.operands])
    generalize hv : evA fr x = av at hx hrx
    generalize hux : a.eval x = ux at hrx
    have key : ∀ A n cap, ux = .slice A n cap → (execOp a.eval ⟨some d, .binOp .eql t x (.const (.slice none 0 0)) yt, ty, pos, after, gd⟩).run C.P w = .ok (.value (.bool A.isNone)) w := by
      intro A n cap hu
      have h1 := run_eqSlice (und_slice ht hk) w A n cap x (.const (.slice none 0 0))
      have h2 : a.eval (.const (.slice none 0 0)) = .slice none 0 0 := rfl
      rw [show execOp a.eval ⟨some d, .binOp .eql t x (.const (.slice none 0 0)) yt, ty, pos, after, gd⟩ = (do let v ← (do eqGuard .eql t x (.const (.slice none 0 0)) (a.eval x) (a.eval (.const (.slice none 0 0))); binOp .eql t (a.eval x) (a.eval (.const (.slice none 0 0))) : Sem Value); pure (.value v)) from rfl, hux, hu, h2, Sem.run_bind, h1]
      rfl
    unfold nilAV at hx
    split at hx
    · obtain rfl := Option.some.inj hx
      cases hrx with
      | sl _ _ _ A cap β o us a1 a2 a3 a4 a5 a6 a7 a8 => exact ⟨_, key _ _ _ rfl, .bany _⟩
    · obtain rfl := Option.some.inj hx
      cases hrx with
      | sl _ _ _ A cap β o us a1 a2 a3 a4 a5 a6 a7 a8 =>
        obtain ⟨hA, _⟩ := a6 (by simp)
        subst hA
        exact ⟨_, key _ _ _ rfl, .val _⟩
    · cases hx) nx

/-- 'append' of noughts onto nothing. -/
theorem ARun.append_zeros {t tn e sz : Nat} {ti te tin : TI} {kk kn : IntKind} {n : Int} (hx : evA fr x = .sl sz true []) (hy : evA fr y = .val (.int kk n)) (h0n : 0 < n) (ht : C.T t = some ti) (hk : ti.k = .slice e) (htn : C.T tn = some tin) (hkn : tin.k = .int kn) (hte : C.T e = some te) (hz1 : te.zero.all Value.oneCell' = true) (hzl : te.zero.length = te.size) (h0 : Nat.blt 0 te.size = true)
    (hb : n * (te.bytes : Int) ≤ 140737488355328) (hm : n ≤ (maxLen : Int)) (hd : Nat.blt d C.n = true) (hg : guardIs ops ⟨fr, hp, gc⟩ ⟨some d, .call ⟨.builtin .append, #[x, y], #[t, tn]⟩, ty, pos, after, gd⟩ true)
    (nx : ARun C ops K (k + 1) rest ⟨(d, .own d (gc + k) 0 n.toNat) :: fr, (d, some ⟨gc + k, te.size, List.replicate n.toNat (te.zero.map zv)⟩) :: hp, gc⟩ (fps ++ [([], [d])])) : ARun C ops K k (⟨some d, .call ⟨.builtin .append, #[x, y], #[t, tn]⟩, ty, pos, after, gd⟩ :: rest) ⟨fr, hp, gc⟩ fps := by
  refine ARun.step (.own d (gc + k) 0 n.toNat) [] [(d, some ⟨gc + k, te.size, List.replicate n.toNat (te.zero.map zv)⟩)] hg (by simp) ?_ nx
  intro s c a w hS hf hargs _
  have hry : Rep c w (evA fr y) (a.eval y) := by
    rw [← args_ev hargs y (by simp [Op.operands, Call.operands])]
    exact hS.ev y
  rw [hy] at hry
  have hry := hry.val_inv
  have hrx : Rep c w (evA fr x) (a.eval x) := by
    rw [← args_ev hargs x (by simp [Op.operands, Call.operands])]
    exact hS.ev x
  rw [hx] at hrx
  obtain ⟨A, hA⟩ : ∃ A, a.eval x = .slice A 0 0 := by
    generalize a.eval x = u at hrx
    cases hrx with
    | sl _ _ _ A cap β o us a1 a2 a3 a4 a5 a6 a7 a8 =>
      have := a3 rfl
      simp only [List.length_nil] at this
      subst this
      exact ⟨A, rfl⟩
  obtain ⟨m, rfl⟩ : ∃ m : Nat, n = (m : Int) := ⟨n.toNat, by omega⟩
  rw [Int.toNat_natCast]
  obtain ⟨u0, i0, z0, hue, hie, hze, htee⟩ := ti_get hte
  have h0' := lt_of_blt h0
  have hsz0 : te.size = i0.size := by rw [htee]
  have hby0 : te.bytes = i0.bytes := by rw [htee]
  have hzc : z0.cells.toList = te.zero := by rw [htee]
  have hzs : z0.cells.size = te.size := by rw [← hzl, ← hzc]; simp
  have hb' : m * i0.bytes ≤ 140737488355328 := by rw [← hby0]; exact Int.ofNat_le.1 (by rw [Int.natCast_mul]; exact hb)
  have hm' : m ≤ maxLen := Int.ofNat_le.1 hm
  have hold : (Builtin.firstCells i0.size 0 (.slice A 0 0)).run C.P w.drew = .ok ([] : List Value).toArray w.drew := by
    cases A <;> simp [Builtin.firstCells, loadCells, loadCellsFrom]
  have hr := Go.Lib.run_append_grow_zeros (P := C.P) w t tn ty e i0 z0 kk kn (und_slice ht hk) (und_int htn hkn) hie hze A 0 0 [] hold m (by omega) (by omega) (by omega) (by simp only [maxLen] at hm'; omega) (by omega) (by rw [Nat.zero_add, nextslicecap_zero (by omega)]; omega)
  simp only [Nat.zero_add] at hr
  have hrunop : (execOp a.eval ⟨some d, .call ⟨.builtin .append, #[x, y], #[t, tn]⟩, ty, pos, after, gd⟩).run C.P w = .ok (.value (.slice (some ⟨w.heap.size, 0, none⟩) m (grownCap w m 0 e))) (w.drew.alloc (.cells (Builtin.zeroCells z0.cells m ++ Builtin.zeroCells z0.cells (grownCap w m 0 e - m)) e)) := by
    simp [execOp, resolve, invoke, builtin, hry, hA, hr]
  have hge := grownCap_ge w m 0 e
  have hle := grownCap_le_maxLen w m 0 e hm'
  have hroom : (Builtin.zeroCells z0.cells m ++ Builtin.zeroCells z0.cells (grownCap w m 0 e - m)).size = grownCap w m 0 e * te.size := by
    simp only [Array.size_append, size_zeroCells, hzs, ← Nat.add_mul]
    congr 1
    omega
  have hzz := zeros_in (c := c) (w := w) hzc hz1 hzl h0' m
  have hfin := hS.drew.newBlk d ⟨gc + k, te.size, List.replicate m (te.zero.map zv)⟩ (Builtin.zeroCells z0.cells m ++ Builtin.zeroCells z0.cells (grownCap w m 0 e - m)) e hf (fun el hel => by rw [(List.mem_replicate.1 hel).2]; simp [hzl]) (fun i el f x hi hx => by
      obtain ⟨u, r1, r2, r3⟩ := hzz.2.2 i el f x hi hx
      refine ⟨u, ?_, r2, r3.drew⟩
      have hlt := (Array.getElem?_eq_some_iff.1 r1).1
      have e1 : Builtin.zeroCells z0.cells m = (Array.range (m * te.size)).map (z0.cells[· % z0.cells.size]!) := by unfold Builtin.zeroCells; rw [hzs]
      rw [e1, Array.getElem?_append_left hlt]
      exact r1) (some d) (.own d (gc + k) 0 m) (.slice (some ⟨w.heap.size, 0, none⟩) m (grownCap w m 0 e)) (dst_lt hd) (fun _ => ?_)
  · exact wp_value hrunop ⟨_, hfin, fun g hg => hg⟩
  · refine .own _ _ _ _ _ _ _ (.inr rfl) (fun o ho => ?_)
    simp [RC.upd] at ho
    subst ho
    refine ⟨rfl, hge, hle, (fun h => by cases h), h0', .inr ⟨w.heap.size, rfl, by simp, ?_⟩⟩
    rw [Nat.zero_add]
    simpa using Nat.le_of_eq hroom.symm

theorem RowRep.take {c : RC} {w : World} {gen sz n : Nat} {els0 els : List (List AV)} {o : OB} (h : RowRep c w ⟨gen, sz, els0⟩ o) (ht : els0.take n = els) : RowRep c w ⟨gen, sz, els⟩ o := by
  subst ht
  obtain ⟨h1, h2, h3⟩ := h
  refine ⟨h1, fun el hel => h2 el (List.mem_of_mem_take hel), ?_⟩
  cases ho : o.loc with
  | none =>
    rw [ho] at h3
    simp only at h3 ⊢
    rw [h3, List.take_nil]
  | some β =>
    rw [ho] at h3
    obtain ⟨cur, e, g1, g2, g3⟩ := h3
    refine ⟨cur, e, g1, g2, fun i el f x hi hx => ?_⟩
    simp only at hi
    rw [List.getElem?_take] at hi
    split at hi
    · exact g3 i el f x hi hx
    · cases hi
/-- 'append' onto a slice of the call's own, whole: it is the call's own, under a new stamp. -/
theorem ARun.append_ownT {t e b g n gen sz : Nat} {ti te : TI} {els els2 : List (List AV)} {rd : List (Nat × Blk)} (hx : evA fr x = .own b g 0 n) {els0 : List (List AV)} (hbk : lkH hp b = some ⟨gen, sz, els0⟩) (htk : els0.take n = els) (hgg : gen = g) (hn : els.length = n) (hy : SrcA fr hp y te.size els2 rd) (ht : C.T t = some ti) (hk : ti.k = .slice e) (hte : C.T e = some te)
    (h1 : sz = te.size) (hpos : Nat.blt 0 te.size = true) (hzl : te.zero.length = te.size) (hb : (els.length + els2.length) * te.bytes ≤ 140737488355328) (hm : els.length + els2.length ≤ maxLen)
    (hd : Nat.blt d C.n = true) (hg : guardIs ops ⟨fr, hp, gc⟩ ⟨some d, .call ⟨.builtin .append, #[x, y], #[t, t]⟩, ty, pos, after, gd⟩ true)
    (nx : ARun C ops K (k + 1) rest ⟨(d, .own b (gc + k) 0 (els ++ els2).length) :: fr, (b, some ⟨gc + k, sz, els ++ els2⟩) :: hp, gc⟩ (fps ++ [(b :: rd.map (·.1), [b])])) :
    ARun C ops K k (⟨some d, .call ⟨.builtin .append, #[x, y], #[t, t]⟩, ty, pos, after, gd⟩ :: rest) ⟨fr, hp, gc⟩ fps := by
  refine ARun.step (.own b (gc + k) 0 (els ++ els2).length) ((b, ⟨gen, sz, els0⟩) :: rd) [(b, some ⟨gc + k, sz, els ++ els2⟩)] hg (fun p hp' => by
    rcases List.mem_cons.1 hp' with rfl | h
    · exact hbk
    · exact hy.lie p h) ?_ nx
  subst hgg
  subst hn
  intro s c a w hS hf hargs hrd
  have hev : ∀ z ∈ #[x, y], Rep c w (evA fr z) (a.eval z) := by
    intro z hz
    have hz' : z ∈ (Op.call ⟨.builtin .append, #[x, y], #[t, t]⟩).operands.toList := by simpa [Op.operands, Call.operands] using hz
    rw [← args_ev hargs z hz']
    exact hS.ev z
  have hrx := hev x (by simp)
  have hry := hev y (by simp)
  rw [hx] at hrx
  obtain ⟨o, ho, hB⟩ := hS.hp b _ (hrd (b, ⟨gen, sz, els0⟩) (by simp))
  have h0' := lt_of_blt hpos
  obtain ⟨hosz, hoz, holoc⟩ := (hB.row (by rw [hB.sz]; simp only; omega)).take htk
  simp only at ho hosz hoz holoc
  obtain ⟨A2, cap2, news, N2, _, _, _⟩ := hy.news hS hry (fun p hp' => hrd p (by simp [hp']))
  have hd' := dst_lt hd
  have hin := und_slice ht hk
  obtain ⟨u0, i0, z0, hue, hie, hze, htee⟩ := ti_get hte
  have hsz0 : te.size = i0.size := by rw [htee]
  have hbb : (els.length + els2.length) * i0.bytes ≤ 140737488355328 := by rw [htee] at hb; exact hb
  have hzc : z0.cells.size = te.size := by
    rw [← hzl, htee]
    simp
  have hrunop : ∀ v' w', (Builtin.append_ #[t, t] ty #[a.eval x, a.eval y]).run C.P w = .ok v' w' → (execOp a.eval ⟨some d, .call ⟨.builtin .append, #[x, y], #[t, t]⟩, ty, pos, after, gd⟩).run C.P w = .ok (.value v') w' := by
    intro v' w' h
    simp [execOp, resolve, invoke, builtin, h]
  generalize hux : a.eval x = ux at hrx
  have hused : ∀ (o : OB) (g : Nat), (c.upd b (gc + k) o).used g → c.used g ∨ g = gc + k := fun o g h => h
  have hzz : ∀ el, el ∈ els ++ els2 → el.length = sz := by
    intro el hel
    rcases List.mem_append.1 hel with h | h
    · exact hoz el h
    · rw [h1]; exact N2.hsz el h
  cases hrx with
  | own _ _ _ _ A m cap hu hp' =>
    obtain ⟨rfl, k2, k3, k4, k0, k5⟩ := hp' o ho
    rw [hux, N2.val] at hrunop
    by_cases he2 : els2 = []
    · subst he2
      have hr := run_append_zero ht hk hte w ty A A2 els.length cap cap2 k2
      refine wp_value (hrunop _ _ hr) ⟨_, hS.upd b ⟨gc + k, sz, els ++ []⟩ o (.inl hf) rfl rfl rfl (Nat.le_refl _) (fun _ _ _ => rfl) (fun β hβ => .inr ⟨gen, o, ho, hβ⟩) (fun hmono => ?_) (some d) _ _ hd' (fun _ _ => .own _ _ _ _ _ _ _ (.inr rfl) (fun o' ho' => ?_)), hused _⟩
      · have : BlkRep c w ⟨gc + k, sz, els ++ []⟩ o := by
          rw [List.append_nil]
          exact .inl ⟨hosz, hoz, holoc⟩
        exact this.mono hmono (fun _ _ => rfl)
      · simp [RC.upd] at ho'
        subst ho'
        rw [List.append_nil]
        exact ⟨rfl, k2, k3, k4, k0, k5⟩
    · obtain ⟨ad2, hA2, hl2⟩ := N2.lie he2
      subst hA2
      have hpos2 : 0 < els2.length := List.length_pos_iff.2 he2
      -- the old cells
      have hold : ∃ olds : List Value, olds.length = els.length * sz ∧ (∀ (i : Nat) (el : List AV) (f : Nat) (x : AV), els[i]? = some el → el[f]? = some x → ∃ u, olds[i * sz + f]? = some u ∧ u.oneCell' = true ∧ Rep c w x u) ∧
          ∀ ad, A = some ad → ∀ j v, olds[j]? = some v → w.cell? (ad.add j) = some v := by
        rcases k5 with k5 | ⟨β, k5, k6, k7⟩
        · subst k5
          have he : els = [] := List.eq_nil_of_length_eq_zero (by omega)
          subst he
          exact ⟨[], by simp, fun i el f x hi => by simp at hi, fun ad _ j v hv => by simp at hv⟩
        · rw [k5] at holoc
          obtain ⟨cur, e', q1, q2, q3⟩ := holoc
          rw [Nat.zero_mul] at k6
          have hfit : els.length * sz ≤ cur.size := by
            have k8 := Nat.mul_le_mul_right sz k2
            rw [hosz, Nat.zero_add] at k7
            omega
          refine ⟨cur.toList.take (els.length * sz), (by have e : cur.toList.length = cur.size := Array.length_toList; rw [List.length_take, e]; omega), fun i el f x hi hx => ?_, fun ad had j v hv => ?_⟩
          · obtain ⟨u, r1, r2, r3⟩ := q3 i el f x hi hx
            refine ⟨u, ?_, r2, r3⟩
            have h1' := (List.getElem?_eq_some_iff.1 hi).1
            have h2' := (List.getElem?_eq_some_iff.1 hx).1
            rw [hoz el (List.mem_of_getElem? hi)] at h2'
            have : (i + 1) * sz ≤ els.length * sz := Nat.mul_le_mul_right _ h1'
            rw [Nat.add_mul] at this
            rw [List.getElem?_take, if_pos (by omega)]
            simpa using r1
          · rw [k6] at had
            obtain rfl := Option.some.inj had
            rw [add_lit, cell_row q1, Nat.zero_add]
            rw [List.getElem?_take] at hv
            split at hv
            · simpa using hv
            · cases hv
      obtain ⟨olds, o1, o2, o3⟩ := hold
      by_cases hfit : els.length + els2.length ≤ cap
      · -- there is room
        rcases k5 with k5 | ⟨β, k5, k6, k7⟩
        · omega
        rw [k5] at holoc
        obtain ⟨cur, e', q1, q2, q3⟩ := holoc
        rw [Nat.zero_mul] at k6
        subst k6
        have hcs : cap * sz ≤ cur.size := by rw [hosz, Nat.zero_add] at k7; omega
        have hfit' : els.length * i0.size + news.length ≤ cur.size := by
          rw [N2.len, ← hsz0, ← h1, ← Nat.add_mul]
          exact Nat.le_trans (Nat.mul_le_mul_right _ hfit) hcs
        have hr := run_append_room' w t ty e e' i0 hin hie β els.length cap cur q1 ad2 els2.length cap2 news (by rw [N2.len, hsz0]) hl2 N2.one hfit hfit'
        refine wp_value (hrunop _ _ hr) ⟨_, hS.upd (w' := w.setRow β _) b ⟨gc + k, sz, els ++ els2⟩ o (.inl hf) rfl rfl rfl (by simp) (fun β' _ hne => setRow_other w β β' _ (fun e => hne (by rw [k5, e]))) (fun β' hβ => .inr ⟨gen, o, ho, hβ⟩) (fun hmono => .inl ⟨hosz, hzz, ?_⟩) (some d) _ _ hd' (fun _ _ => .own _ _ _ _ _ _ _ (.inr rfl) (fun o' ho' => ?_)), hused _⟩
        · rw [k5]
          simp only
          refine row_intro (e := e') q1 q2 ?_ (fun i el f x hi hx => ?_)
          · simp only [List.size_toArray, List.length_append, List.length_take, List.length_drop]
            have e1 : cur.toList.length = cur.size := Array.length_toList
            rw [e1, ← q2]
            omega
          · have e1 : cur.toList.length = cur.size := Array.length_toList
            have hget : ∀ j, (cur.toList.take (els.length * i0.size) ++ news ++ cur.toList.drop (els.length * i0.size + news.length)).toArray[j]? = if j < els.length * i0.size then cur.toList[j]? else if j < els.length * i0.size + news.length then news[j - els.length * i0.size]? else cur.toList[j]? := by
              intro j
              rw [List.getElem?_toArray, list_over _ _ _ (by rw [e1]; exact hfit') j]
            rw [hget]
            have hs : els.length * i0.size = els.length * sz := by rw [← hsz0, h1]
            rcases Nat.lt_or_ge i els.length with h | h
            · rw [List.getElem?_append_left h] at hi
              obtain ⟨u, r1, r2, r3⟩ := q3 i el f x hi hx
              have h2' := (List.getElem?_eq_some_iff.1 hx).1
              rw [hoz el (List.mem_of_getElem? hi)] at h2'
              have : (i + 1) * sz ≤ els.length * sz := Nat.mul_le_mul_right _ h
              rw [Nat.add_mul] at this
              rw [if_pos (by omega)]
              exact ⟨u, by simpa using r1, r2, r3.mono hmono⟩
            · rw [List.getElem?_append_right h] at hi
              obtain ⟨u, r1, r2, r3⟩ := N2.rep _ el f x hi hx
              rw [← h1] at r1
              have hlt := (List.getElem?_eq_some_iff.1 r1).1
              have hge : els.length * sz ≤ i * sz := Nat.mul_le_mul_right _ h
              have e2 : i * sz + f - els.length * sz = (i - els.length) * sz + f := by rw [Nat.sub_mul]; omega
              rw [if_neg (by omega), if_pos (by omega), show i * sz + f - els.length * i0.size = (i - els.length) * sz + f by omega]
              exact ⟨u, r1, r2, r3.mono hmono⟩
        · simp [RC.upd] at ho'
          subst ho'
          refine ⟨by simp, by simpa using hfit, k3, (fun h => by cases h), k0, .inr ⟨β, k5, by simp, k7⟩⟩
      · -- it grows
        have grow : ∃ v' w', (Builtin.append_ #[t, t] ty #[.slice A els.length cap, .slice (some ad2) els2.length cap2]).run C.P w = .ok v' w' ∧ ∃ gcap, v' = .slice (some ⟨w.heap.size, 0, none⟩) (els.length + els2.length) gcap ∧ els.length + els2.length ≤ gcap ∧ gcap ≤ maxLen ∧
            w' = w.drew.alloc (.cells (olds.toArray ++ news.toArray ++ Builtin.zeroCells z0.cells (gcap - (els.length + els2.length))) e) := by
          cases A with
          | none =>
            have hc0 := k4 rfl
            subst hc0
            have he : els = [] := List.eq_nil_of_length_eq_zero (by omega)
            subst he
            have ho' : olds = [] := List.eq_nil_of_length_eq_zero (by rw [o1]; simp)
            subst ho'
            have hr := run_append_nil (P := C.P) w t ty e i0 z0 hin hie hze ad2 els2.length cap2 news (by rw [N2.len, hsz0]) hl2 hpos2 (by simp only [maxLen, List.length_nil] at hm; omega) (by simp only [List.length_nil, Nat.zero_add] at hbb; omega)
            refine ⟨_, _, hr, _, by simp, by simpa using grownCap_ge w els2.length 0 e, grownCap_le_maxLen w els2.length 0 e (by simpa using hm), by simp⟩
          | some ad =>
            have hr := run_append_grow (P := C.P) w t ty e i0 z0 hin hie hze ad els.length cap olds (by rw [o1, h1, hsz0]) (o3 ad rfl) ad2 els2.length cap2 news (by rw [N2.len, hsz0]) hl2 (by omega) (by simp only [maxLen] at hm; omega) (growslice_fits (by omega) hbb)
            exact ⟨_, _, hr, _, rfl, grownCap_ge w _ _ e, grownCap_le_maxLen w _ _ e hm, rfl⟩
        obtain ⟨v', w', hr, gcap, rfl, hg1, hg2, rfl⟩ := grow
        have hroom : (olds.toArray ++ news.toArray ++ Builtin.zeroCells z0.cells (gcap - (els.length + els2.length))).size = gcap * sz := by
          simp only [Array.size_append, List.size_toArray, size_zeroCells, hzc, o1, N2.len, ← h1, ← Nat.add_mul]
          congr 1
          omega
        have hfin := hS.drew.newBlk b ⟨gc + k, sz, els ++ els2⟩ (olds.toArray ++ news.toArray ++ Builtin.zeroCells z0.cells (gcap - (els.length + els2.length))) e hf hzz (fun i el f x hi hx => by
            obtain ⟨u, r1, r2, r3⟩ := grown_rep (c := c) (w := w) (sz := sz) (Builtin.zeroCells z0.cells (gcap - (els.length + els2.length))).toList o1 o2 (by rw [h1]; exact N2.rep) i el f x hi hx
            refine ⟨u, ?_, r2, r3.drew⟩
            rw [← r1]
            simp only
            rw [← Array.getElem?_toList]
            simp) (some d) (.own b (gc + k) 0 (els ++ els2).length) (.slice (some ⟨w.heap.size, 0, none⟩) (els.length + els2.length) gcap) hd' (fun _ => ?_)
        · exact wp_value (hrunop _ _ hr) ⟨_, hfin, hused _⟩
        · refine .own _ _ _ _ _ _ _ (.inr rfl) (fun o ho => ?_)
          simp [RC.upd] at ho
          subst ho
          refine ⟨by simp, by simpa using hg1, hg2, (fun h => by cases h), (by simp only; omega), .inr ⟨w.heap.size, rfl, by simp, ?_⟩⟩
          rw [Nat.zero_add]
          simpa using Nat.le_of_eq hroom.symm


/-- The room of a slice that has no more. -/
theorem ARun.capFull {t e sz : Nat} {ti : TI} {els : List (List AV)} (hx : evA fr x = .sl sz true els) (ht : C.T t = some ti) (hk : ti.k = .slice e)
    (hd : Nat.blt d C.n = true) (hg : guardIs ops ⟨fr, hp, gc⟩ ⟨some d, .call ⟨.builtin .cap, #[x], #[t]⟩, ty, pos, after, gd⟩ true)
    (nx : ARun C ops K (k + 1) rest ⟨(d, .val (.int .i64 els.length)) :: fr, hp, gc⟩ (fps ++ [([], [])])) : ARun C ops K k (⟨some d, .call ⟨.builtin .cap, #[x], #[t]⟩, ty, pos, after, gd⟩ :: rest) ⟨fr, hp, gc⟩ fps :=
  ARun.quiet hd hg [] (by simp) (fun s c a w hS hev _ => by
    have h1 := hev x (by simp [Op.operands, Call.operands])
    rw [hx] at h1
    generalize hu : a.eval x = u at h1
    cases h1 with
    | sl _ _ _ A cap β o us a1 a2 a3 a4 a5 a6 a7 a8 =>
      have := a3 rfl
      subst this
      have hun := run_underlying' (und_slice ht hk) w
      exact ⟨_, by simp [execOp, resolve, hu, invoke, builtin, Builtin.cap_, hun, goInt], .val _⟩) nx

/-- A byte's cell. -/
def encB (b : UInt8) : List AV := [.val (.int .u8 b.toNat)]
theorem encB_closed (b : UInt8) : ∀ x, x ∈ encB b → Closed x := fun x hx => by
  rw [List.mem_singleton.1 hx]
  exact .val _
theorem bytes_fold (l : List UInt8) : ∀ s : ByteArray, (l.map (fun b => (b.toNat : Int))).foldl (fun (r : ByteArray) (n : Int) => r.push (UInt8.ofNat n.toNat)) s = ⟨s.data ++ l.toArray⟩ := by
  induction l with
  | nil => intro s; simp
  | cons b l ih =>
    intro s
    rw [List.map_cons, List.foldl_cons, ih]
    simp [ByteArray.push]
theorem run_bytesStr {P : Program} {src dst e : TypeId} (hs : P.underlying src = some (.slice e)) (he : P.underlying e = some (.int .u8)) (hd : P.underlying dst = some .string) {c : RC} {w : World} {l : List UInt8} {u : Value} {A : Option Addr} {cap : Nat} {vs : List Value} (N : News c w 1 (l.map encB) u A cap vs) (hA : A = none → cap = 0) (hcap : l.length ≤ cap) :
    (convert src dst u).run P w = .ok (.string ⟨l.toArray⟩) w := by
  rw [N.val, run_convert_bytes_string w src dst e A _ cap hs he hd]
  have hvs : vs = (l.map (fun b => (b.toNat : Int))).map (Value.int .u8) := by
    apply List.ext_getElem?
    intro i
    rw [List.map_map, List.getElem?_map]
    cases hi : l[i]? with
    | none =>
      have : l.length ≤ i := List.getElem?_eq_none_iff.1 hi
      rw [List.getElem?_eq_none (by rw [N.len, List.length_map]; omega)]
      rfl
    | some b =>
      obtain ⟨u, r1, _, r3⟩ := N.rep i (encB b) 0 _ (by rw [List.getElem?_map, hi]; rfl) rfl
      rw [Nat.mul_one, Nat.add_zero] at r1
      rw [r1, r3.val_inv]
      rfl
  cases A with
  | none =>
    have h0 := hA rfl
    have : l = [] := List.eq_nil_of_length_eq_zero (by omega)
    subst this
    simp [Conv.bytesToString]
    rfl
  | some ad =>
    have hload : (loadCells ad (l.map encB).length).run P w = .ok ((l.map (fun b => (b.toNat : Int))).map (Value.int .u8)).toArray w := by
      by_cases he : l = []
      · subst he
        simp [loadCells, loadCellsFrom]
      · obtain ⟨ad', e1, e2⟩ := N.lie (by simpa using he)
        obtain rfl := Option.some.inj e1
        have hf := run_firstCells_some (P := P) w 1 (l.map encB).length ad (l.map encB).length cap vs (by rw [N.len]) e2
        rw [hvs] at hf
        simpa [Builtin.firstCells] using hf
    have := run_bytesToString w ad (l.map encB).length cap _ hload
    rw [this, bytes_fold]
    simp [ByteArray.empty, ByteArray.emptyWithCapacity]
    rfl

/-- A text of bytes. -/
theorem ARun.bytesStr {ts td e : Nat} {si di te : TI} {l : List UInt8} {els : List (List AV)} {rd : List (Nat × Blk)} (hy : SrcA fr hp x 1 els rd) (hl : els = l.map encB) (ht : C.T ts = some si) (hk : si.k = .slice e) (hte : C.T e = some te) (hke : te.k = .int .u8) (htd : C.T td = some di) (hkd : di.k = .str)
    (hd : Nat.blt d C.n = true) (hg : guardIs ops ⟨fr, hp, gc⟩ ⟨some d, .convert ts td x, ty, pos, after, gd⟩ true)
    (nx : ARun C ops K (k + 1) rest ⟨(d, .val (.string ⟨l.toArray⟩)) :: fr, hp, gc⟩ (fps ++ [(rd.map (·.1), [])])) : ARun C ops K k (⟨some d, .convert ts td x, ty, pos, after, gd⟩ :: rest) ⟨fr, hp, gc⟩ fps :=
  ARun.quiet hd hg rd hy.lie (fun s c a w hS hev hrd => by
    subst hl
    obtain ⟨A, cap, vs, N, h1, h2, h3⟩ := hy.news hS (hev x (by simp [Op.operands])) hrd
    refine ⟨_, ?_, .val _⟩
    have := run_bytesStr (P := C.P) (und_slice ht hk) (und_int hte hke) (und_str htd hkd) N h3 (by simpa using h1)
    simp [execOp, this]) nx

/-- A text's bytes. -/
theorem ARun.strBytes {ts td e : Nat} {si di te : TI} {s : ByteArray} (hx : evA fr x = .val (.string s)) (hsm : (s.size : Nat) ≤ maxLen) (ht : C.T ts = some si) (hk : si.k = .str) (htd : C.T td = some di) (hkd : di.k = .slice e) (hte : C.T e = some te) (hke : te.k = .int .u8)
    (hd : Nat.blt d C.n = true) (hg : guardIs ops ⟨fr, hp, gc⟩ ⟨some d, .convert ts td x, ty, pos, after, gd⟩ true)
    (nx : ARun C ops K (k + 1) rest ⟨(d, .sl 1 false (s.data.toList.map encB)) :: fr, hp, gc⟩ (fps ++ [([], [])])) : ARun C ops K k (⟨some d, .convert ts td x, ty, pos, after, gd⟩ :: rest) ⟨fr, hp, gc⟩ fps := by
  refine ARun.step (.sl 1 false (s.data.toList.map encB)) [] [] hg (by simp) ?_ nx
  intro st c a w hS hf hargs _
  have hrx : Rep c w (evA fr x) (a.eval x) := by
    rw [← args_ev hargs x (by simp [Op.operands])]
    exact hS.ev x
  rw [hx] at hrx
  have hrx := hrx.val_inv
  have hr := Go.Lib.run_convert_string_bytes (P := C.P) w ts td e s (und_str ht hk) (und_slice htd hkd) (und_int hte hke)
  have hrun : (execOp a.eval ⟨some d, .convert ts td x, ty, pos, after, gd⟩).run C.P w = .ok (.value (.slice (some ⟨w.heap.size, 0, none⟩) s.size (grownCap w s.size 0 e))) (Go.Lib.bytesWorld w e s) := by
    simp [execOp, hrx, hr]
  have hE : Below w.heap.size w (Go.Lib.bytesWorld w e s) := ⟨rfl, rfl, rfl, by rw [Go.Lib.bytesWorld_size]; omega, fun k hk => Go.Lib.bytesWorld_at_old w e s k hk⟩
  refine wp_value hrun ⟨_, hS.grow (fun β => c.st β ∨ β = w.heap.size) hE (fun β hb => .inl hb) (fun β hb => ?_) (some d) _ _ (dst_lt hd) (fun _ _ => ?_), fun g hg => .inl hg⟩
  · rcases hb with h | h
    · exact .inl h
    · exact .inr (by rw [Go.Lib.bytesWorld_size]; omega)
  · have hlen : (s.data.toList.map encB).length = s.size := by rw [List.length_map, Array.length_toList]; rfl
    rw [← hlen]
    refine .sl 1 false (s.data.toList.map encB) _ _ w.heap.size 0 (fun i f => .int .u8 (s.data.toList.getD i 0).toNat) (by rw [hlen]; exact grownCap_ge w s.size 0 e) (by rw [hlen]; exact grownCap_le_maxLen w s.size 0 e hsm) (by simp) (fun h => by cases h) (fun el hel => ?_) (fun _ => ⟨rfl, fun _ => .inr rfl⟩) (fun i el f x hi hx => ?_) (fun i el f x hi hx => ?_)
    · obtain ⟨b, _, rfl⟩ := List.mem_map.1 hel
      rfl
    all_goals
      rw [List.getElem?_map] at hi
      cases hb : s.data.toList[i]? with
      | none => rw [hb] at hi; cases hi
      | some b =>
        rw [hb] at hi
        obtain rfl := Option.some.inj hi
        have hil := (List.getElem?_eq_some_iff.1 hb).1
        have hf0 : f = 0 := by
          have := (List.getElem?_eq_some_iff.1 hx).1
          simp [encB] at this
          exact this
        subst hf0
        simp only [encB, List.getElem?_cons_zero, Option.some.injEq] at hx
        first
          | (refine ⟨?_, rfl⟩
             have := Go.Lib.bytesWorld_cell w e s i (by rw [Array.length_toList] at hil; exact hil)
             simpa using this)
          | (rw [List.getD_eq_getElem?_getD, hb, ← hx]
             exact .val _)

/-- 's[l:h]' of a text. -/
theorem ARun.sliceStr {t l h : Nat} {s : ByteArray} {ti : TI} {lo hi : Option Operand} (hx : evA fr x = .val (.string s)) (hl : Bnd fr lo 0 l) (hh : Bnd fr hi s.size h) (h1 : l ≤ h) (h2 : h ≤ s.size) (ht : C.T t = some ti) (hk : ti.k = .str)
    (hd : Nat.blt d C.n = true) (hg : guardIs ops ⟨fr, hp, gc⟩ ⟨some d, .slice t x lo hi none, ty, pos, after, gd⟩ true)
    (nx : ARun C ops K (k + 1) rest ⟨(d, .val (.string (s.extract l h))) :: fr, hp, gc⟩ (fps ++ [([], [])])) : ARun C ops K k (⟨some d, .slice t x lo hi none, ty, pos, after, gd⟩ :: rest) ⟨fr, hp, gc⟩ fps :=
  ARun.quiet hd hg [] (by simp) (fun st c a w hS hev _ => by
    have h1' := hev x (by simp [Op.operands])
    rw [hx] at h1'
    have h1' := h1'.val_inv
    have hb := run_sliceBounds' (P := C.P) (isSlice := false) (len := s.size) (cap := s.size) hl hh (fun z hz => hev z (mem_slice_ops.1 z hz)) (fun z hz => hev z (mem_slice_ops.2.1 z hz)) h1 h2
    have hun := run_underlying' (und_str ht hk) w
    refine ⟨.string (s.extract l h), ?_, .val _⟩
    simp [execOp, Instr.sliceAt, Instr.slice, h1', hun, hb]) nx

theorem flat_get (sz : Nat) (l : List Value) (hl : l.length = sz) : ∀ (n i f : Nat) (u : Value), i < n → f < sz → l[f]? = some u → ((List.replicate n l).flatten)[i * sz + f]? = some u
  | 0, i, f, u, h, _, _ => absurd h (by omega)
  | n + 1, 0, f, u, _, hf, hu => by
    rw [List.replicate_succ, List.flatten_cons, Nat.zero_mul, Nat.zero_add, List.getElem?_append_left (by omega)]
    exact hu
  | n + 1, i + 1, f, u, h, hf, hu => by
    rw [List.replicate_succ, List.flatten_cons, Nat.add_mul, List.getElem?_append_right (by omega), show i * sz + 1 * sz + f - l.length = i * sz + f by omega]
    exact flat_get sz l hl n i f u (by omega) hf hu
/-- An array of the call's own, by its elements. -/
theorem ARun.allocArr {t e n : TypeId} {ti te : TI} (ht : C.T t = some ti) (hk : ti.k = .array n e) (hte : C.T e = some te) (hz : ti.zero = (List.replicate n te.zero).flatten) (hz1 : te.zero.all Value.oneCell' = true) (hzl : te.zero.length = te.size) (h0 : Nat.blt 0 te.size = true) (hd : Nat.blt d C.n = true) (hg : guardIs ops ⟨fr, hp, gc⟩ ⟨some d, .alloc t, ty, pos, after, gd⟩ true)
    (nx : ARun C ops K (k + 1) rest ⟨(d, .ptr d (gc + k) 0 0) :: fr, (d, some ⟨gc + k, te.size, List.replicate n (te.zero.map zv)⟩) :: hp, gc⟩ (fps ++ [([], [d])])) : ARun C ops K k (⟨some d, .alloc t, ty, pos, after, gd⟩ :: rest) ⟨fr, hp, gc⟩ fps :=
  ARun.step (.ptr d (gc + k) 0 0) [] [(d, some ⟨gc + k, te.size, List.replicate n (te.zero.map zv)⟩)] hg (by simp) (does_new (dst_lt hd) rfl (fun el hel => by rw [(List.mem_replicate.1 hel).2]; simp [hzl]) (fun s c a w hS hev => by
    obtain ⟨z, h1, h2⟩ := run_zeroValue ht w
    have h0' := lt_of_blt h0
    refine ⟨.pointer (some ⟨w.heap.size, 0, none⟩), z.cells, t, by simp [execOp, Instr.alloc, newVar, newRow, h1], fun i el f x hi hx => ?_, ?_⟩
    · rw [List.getElem?_replicate] at hi
      split at hi
      · rename_i hin
        obtain rfl := Option.some.inj hi
        obtain ⟨u, hu, rfl⟩ := zv_map_get hx
        refine ⟨u, ?_, List.all_eq_true.1 hz1 u (List.mem_of_getElem? hu), zv_rep c w u⟩
        have hf : f < te.size := by rw [← hzl]; exact (List.getElem?_eq_some_iff.1 hu).1
        rw [← Array.getElem?_toList, h2, hz]
        exact flat_get te.size te.zero hzl n i f u hin hf hu
      · cases hi
    · have := rep_ptr_new c (w.alloc (.cells z.cells t)) w.heap.size d (gc + k) te.size z.cells.size 0 0 h0'
      simpa using this)) nx
/-- The address of an element of such an array. -/
theorem ARun.indexRow {t : Nat} {ti te : TI} {e n b g gen sz : Nat} {els : List (List AV)} {kk : IntKind} {i : Int} (hx : evA fr x = .ptr b g 0 0) (hb : lkH hp b = some ⟨gen, sz, els⟩) (hgg : gen = g) (hy : evA fr y = .val (.int kk i)) (h0 : 0 ≤ i) (h1 : i < n)
    (ht : C.T t = some ti) (hk : ti.k = .array n e) (hte : C.T e = some te) (hsz : te.size = sz) (hd : Nat.blt d C.n = true) (hg : guardIs ops ⟨fr, hp, gc⟩ ⟨some d, .indexAddr t x y, ty, pos, after, gd⟩ true)
    (nx : ARun C ops K (k + 1) rest ⟨(d, .ptr b g i.toNat 0) :: fr, hp, gc⟩ (fps ++ [([b], [])])) : ARun C ops K k (⟨some d, .indexAddr t x y, ty, pos, after, gd⟩ :: rest) ⟨fr, hp, gc⟩ fps :=
  ARun.quiet hd hg [(b, ⟨gen, sz, els⟩)] (by simp [hb]) (fun s c a w hS hev hrd => by
    have h1' := hev x (by simp [Op.operands])
    have h2 := hev y (by simp [Op.operands])
    rw [hx] at h1'
    rw [hy] at h2
    have h2 := h2.val_inv
    obtain ⟨o, ho, hB⟩ := hS.hp b _ (hrd (b, ⟨gen, sz, els⟩) (by simp))
    simp only at ho
    rw [hgg] at ho
    have hosz := hB.sz
    simp only at hosz
    generalize hu : a.eval x = u at h1'
    cases h1' with
    | ptr _ _ _ _ β o' hu' h =>
      have hrun := run_indexArr ht hk hte w ⟨β, o', none⟩ kk i h0 h1
      rw [add_lit] at hrun
      obtain ⟨e1, e2, e3⟩ := h o ho
      have e2' : o' = 0 := by omega
      subst e2'
      refine ⟨.pointer (some ⟨β, 0 + i.toNat * te.size, none⟩), by simp [execOp, hu, h2, hrun], .ptr b g i.toNat 0 _ _ hu' (fun q hq => ?_)⟩
      rw [ho] at hq
      obtain rfl := Option.some.inj hq
      refine ⟨e1, ?_, e3⟩
      rw [hosz, hsz]
      omega) nx
/-- All of such an array, as a slice. -/
theorem ARun.sliceRow {t : Nat} {ti te : TI} {e n b g gen sz l h : Nat} {els : List (List AV)} {lo hi : Option Operand} (hx : evA fr x = .ptr b g 0 0) (hb : lkH hp b = some ⟨gen, sz, els⟩) (hgg : gen = g) (hn : els.length = n) (hl : Bnd fr lo 0 l) (hh : Bnd fr hi n h) (h1 : l ≤ h) (h2 : h ≤ n) (hnm : n ≤ maxLen)
    (ht : C.T t = some ti) (hk : ti.k = .array n e) (hte : C.T e = some te) (hsz : te.size = sz) (hd : Nat.blt d C.n = true) (hg : guardIs ops ⟨fr, hp, gc⟩ ⟨some d, .slice t x lo hi none, ty, pos, after, gd⟩ true)
    (nx : ARun C ops K (k + 1) rest ⟨(d, .own b g l (h - l)) :: fr, hp, gc⟩ (fps ++ [([b], [])])) : ARun C ops K k (⟨some d, .slice t x lo hi none, ty, pos, after, gd⟩ :: rest) ⟨fr, hp, gc⟩ fps :=
  ARun.quiet hd hg [(b, ⟨gen, sz, els⟩)] (by simp [hb]) (fun s c a w hS hev hrd => by
    have h1' := hev x (by simp [Op.operands])
    rw [hx] at h1'
    obtain ⟨o, ho, hB⟩ := hS.hp b _ (hrd (b, ⟨gen, sz, els⟩) (by simp))
    simp only at ho
    rw [hgg] at ho
    have huna := run_underlying' (und_array ht hk) w
    have hs := run_sizeOf hte w
    generalize hu : a.eval x = u at h1'
    cases h1' with
    | ptr _ _ _ _ β o' hu' hq =>
      obtain ⟨e1, e2, e3⟩ := hq o ho
      have e2' : o' = 0 := by omega
      subst e2'
      obtain ⟨r1, r2, r3⟩ := hB.row e3
      simp only at r1 r2 r3
      rw [e1] at r3
      obtain ⟨cur, ee, q1, q2, q3⟩ := r3
      have hroom : n * sz ≤ o.room := by
        rw [← q2]
        rcases Nat.eq_zero_or_pos n with h0 | h0
        · rw [h0]; omega
        · have hil : n - 1 < els.length := by omega
          have hel := List.getElem?_eq_getElem hil
          have hell := r2 _ (List.getElem_mem hil)
          have hf : sz - 1 < (els[n - 1]).length := by rw [hell]; omega
          obtain ⟨u, k1, _⟩ := q3 _ _ _ _ hel (List.getElem?_eq_getElem hf)
          have := (Array.getElem?_eq_some_iff.1 k1).1
          have h5 : n * sz = (n - 1) * sz + sz := by
            conv => lhs; rw [show n = (n - 1) + 1 by omega, Nat.add_mul, Nat.one_mul]
          omega
      have hb' := run_sliceBounds' (P := C.P) (isSlice := false) (len := n) (cap := n) hl hh (fun z hz => hev z (mem_slice_ops.1 z hz)) (fun z hz => hev z (mem_slice_ops.2.1 z hz)) h1 h2
      refine ⟨.slice (some (if n = l then ⟨β, 0, none⟩ else (⟨β, 0, none⟩ : Addr).add (l * te.size))) (h - l) (n - l), ?_, .own b g l (h - l) _ _ _ hu' (fun q hq' => ?_)⟩
      · simp [execOp, Instr.sliceAt, Instr.sureAddr, hu, huna, hb', hs]
      · rw [ho] at hq'
        obtain rfl := Option.some.inj hq'
        refine ⟨rfl, by omega, by omega, (fun h => by cases h), e3, ?_⟩
        by_cases hc : n = l
        · left; omega
        · right
          refine ⟨β, e1, ?_, ?_⟩
          · rw [if_neg hc, add_lit, Nat.zero_add, r1, hsz]
          · rw [show l + (n - l) = n by omega, r1]
            exact hroom) nx
end
end Go.Proofs.Ytedfegoafallhaa
