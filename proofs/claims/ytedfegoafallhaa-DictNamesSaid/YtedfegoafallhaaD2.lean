/- 'append' of rows of whatever kind; objects: iterators over texts, maps that are made; what is looked up. -/
import Derived.Test.YtedfegoafallhaaD1
namespace Go.Proofs.Ytedfegoafallhaa
set_option linter.unusedVariables false
set_option linter.unusedSimpArgs false
open Go Go.RowKit

section
variable {C : ACtx} {ops : Array Oper} {K : AS → List (List Nat × List Nat) → Prop} {k : Nat} {rest : List Oper} {fr : List (Nat × AV)} {hp : List (Nat × Option Blk)} {gc : Nat} {fps : List (List Nat × List Nat)}
  {d : Nat} {ty : TypeId} {pos : String} {after : Array Edge} {gd : Option (Nat × Bool)} {x y z : Operand} {v : AV}

/-- 'append' onto a slice that has no room (or onto nothing): all lies anew, and is the call's own. -/
theorem ARun.append_fullS {t e sz : Nat} {ti te : TI} {els els2 : List (List AV)} {rd : List (Nat × Blk)} (hx : evA fr x = .sl sz true els) (hy : SrcA fr hp y te.size els2 rd) (ht : C.T t = some ti) (hk : ti.k = .slice e) (hte : C.T e = some te)
    (h1 : els = [] ∨ sz = te.size) (hne : els = [] ∨ els2 ≠ []) (hpos : Nat.blt 0 te.size = true) (hzl : te.zero.length = te.size) (hb : (els.length + els2.length) * te.bytes ≤ 140737488355328) (hm : els.length + els2.length ≤ maxLen)
    (hd : Nat.blt d C.n = true) (hg : guardIs ops ⟨fr, hp, gc⟩ ⟨some d, .call ⟨.builtin .append, #[x, y], #[t, t]⟩, ty, pos, after, gd⟩ true)
    (nx : ARun C ops K (k + 1) rest ⟨(d, .own d (gc + k) 0 (els ++ els2).length) :: fr, (d, some ⟨gc + k, te.size, els ++ els2⟩) :: hp, gc⟩ (fps ++ [(rd.map (·.1), [d])])) :
    ARun C ops K k (⟨some d, .call ⟨.builtin .append, #[x, y], #[t, t]⟩, ty, pos, after, gd⟩ :: rest) ⟨fr, hp, gc⟩ fps := by
  refine ARun.step (.own d (gc + k) 0 (els ++ els2).length) rd [(d, some ⟨gc + k, te.size, els ++ els2⟩)] hg hy.lie ?_ nx
  intro s c a w hS hf hargs hrd
  have hev : ∀ z ∈ #[x, y], Rep c w (evA fr z) (a.eval z) := by
    intro z hz
    have hz' : z ∈ (Op.call ⟨.builtin .append, #[x, y], #[t, t]⟩).operands.toList := by simpa [Op.operands, Call.operands] using hz
    rw [← args_ev hargs z hz']
    exact hS.ev z
  have hrx := hev x (by simp)
  have hry := hev y (by simp)
  rw [hx] at hrx
  obtain ⟨A, cap, olds, N1, hfull, hcap, hcm, hA0⟩ := News.of (sz := te.size) hrx h1
  obtain ⟨A2, cap2, news, N2, _, _, _⟩ := hy.news hS hry hrd
  have hcap' := hfull rfl
  subst hcap'
  have hd' := dst_lt hd
  have hin := und_slice ht hk
  obtain ⟨u0, i0, z0, hue, hie, hze, htee⟩ := ti_get hte
  have hrunop : ∀ v' w', (Builtin.append_ #[t, t] ty #[a.eval x, a.eval y]).run C.P w = .ok v' w' → (execOp a.eval ⟨some d, .call ⟨.builtin .append, #[x, y], #[t, t]⟩, ty, pos, after, gd⟩).run C.P w = .ok (.value v') w' := by
    intro v' w' h
    simp [execOp, resolve, invoke, builtin, h]
  rw [N1.val, N2.val] at hrunop
  have hused : ∀ (o : OB) (g : Nat), (c.upd d (gc + k) o).used g → c.used g ∨ g = gc + k := fun o g h => h
  by_cases he2 : els2 = []
  · -- nothing is appended, onto nothing
    have he1 : els = [] := by rcases hne with h | h; exact h; exact absurd he2 h
    subst he1
    subst he2
    have hr := run_append_zero ht hk hte w ty A A2 0 0 cap2 (Nat.le_refl _)
    refine wp_value (hrunop _ _ hr) ⟨_, hS.upd d ⟨gc + k, te.size, [] ++ []⟩ ⟨none, te.size, 0⟩ (.inl hf) rfl rfl rfl (Nat.le_refl _) (fun _ _ _ => rfl) (fun β h => by cases h) (fun _ => .inl ⟨rfl, by simp, rfl⟩) (some d) _ _ hd' (fun _ _ => .own _ _ _ _ _ _ _ (.inr rfl) (fun o ho => ⟨rfl, Nat.le_refl _, Nat.zero_le _, hA0, (by simp [RC.upd] at ho; subst ho; exact lt_of_blt hpos), .inl rfl⟩)), hused _⟩
  · obtain ⟨ad2, hA2, hl2⟩ := N2.lie he2
    have hpos2 : 0 < els2.length := List.length_pos_iff.2 he2
    have hbb : (els.length + els2.length) * i0.bytes ≤ 140737488355328 := by rw [htee] at hb; exact hb
    have hsz0 : te.size = i0.size := by rw [htee]
    have hzsz : ∀ cp, cp ≥ els.length + els2.length → True := fun _ _ => trivial
    -- it grows
    have grow : ∃ v' w', (Builtin.append_ #[t, t] ty #[.slice A els.length els.length, .slice A2 els2.length cap2]).run C.P w = .ok v' w' ∧ ∃ rest gcap, v' = .slice (some ⟨w.heap.size, 0, none⟩) (els.length + els2.length) gcap ∧ els.length + els2.length ≤ gcap ∧ gcap ≤ maxLen ∧
        w' = w.drew.alloc (.cells (olds.toArray ++ news.toArray ++ Builtin.zeroCells z0.cells (gcap - (els.length + els2.length))) e) ∧ rest = Builtin.zeroCells z0.cells (gcap - (els.length + els2.length)) := by
      cases A with
      | none =>
        have hn0 : els.length = 0 := hA0 rfl
        have he : els = [] := List.eq_nil_of_length_eq_zero hn0
        subst he
        have ho : olds = [] := List.eq_nil_of_length_eq_zero (by rw [N1.len]; simp)
        subst ho
        subst hA2
        have hr := run_append_nil (P := C.P) w t ty e i0 z0 hin hie hze ad2 els2.length cap2 news (by rw [N2.len, hsz0]) hl2 hpos2 (by simp only [maxLen, List.length_nil] at hm; omega) (by simp only [List.length_nil, Nat.zero_add] at hbb; omega)
        refine ⟨_, _, hr, _, _, by simp, by simpa using grownCap_ge w els2.length 0 e, grownCap_le_maxLen w els2.length 0 e (by simpa using hm), by simp, rfl⟩
      | some ad =>
        subst hA2
        have hlie : ∀ j v, olds[j]? = some v → w.cell? (ad.add j) = some v := by
          intro j v hj
          have hne1 : els ≠ [] := by
            intro h
            have hl0 := N1.len
            rw [h] at hl0
            have : olds = [] := List.eq_nil_of_length_eq_zero (by simpa using hl0)
            rw [this] at hj
            simp at hj
          obtain ⟨ad', h3, h4⟩ := N1.lie hne1
          obtain rfl := Option.some.inj h3
          exact h4 j v hj
        have hr := run_append_grow (P := C.P) w t ty e i0 z0 hin hie hze ad els.length els.length olds (by rw [N1.len, hsz0]) hlie ad2 els2.length cap2 news (by rw [N2.len, hsz0]) hl2 (by omega) (by simp only [maxLen] at hm; omega) (growslice_fits (by omega) hbb)
        exact ⟨_, _, hr, _, _, rfl, grownCap_ge w _ _ e, grownCap_le_maxLen w _ _ e hm, rfl, rfl⟩
    obtain ⟨v', w', hr, rest', gcap, rfl, hg1, hg2, rfl, _⟩ := grow
    have hzc : z0.cells.size = te.size := by
      rw [← hzl, htee]
      simp
    have hroom : (olds.toArray ++ news.toArray ++ Builtin.zeroCells z0.cells (gcap - (els.length + els2.length))).size = gcap * te.size := by
      simp only [Array.size_append, List.size_toArray, size_zeroCells, hzc, N1.len, N2.len, ← Nat.add_mul]
      congr 1
      omega
    have hS' := hS.drew
    have hfin := hS'.newBlk d ⟨gc + k, te.size, els ++ els2⟩ (olds.toArray ++ news.toArray ++ Builtin.zeroCells z0.cells (gcap - (els.length + els2.length))) e hf (fun el hel => by
        rcases List.mem_append.1 hel with h | h
        · exact N1.hsz el h
        · exact N2.hsz el h) (fun i el f x hi hx => by
        obtain ⟨u, r1, r2, r3⟩ := grown_rep (Builtin.zeroCells z0.cells (gcap - (els.length + els2.length))).toList N1.len N1.rep N2.rep i el f x hi hx
        refine ⟨u, ?_, r2, r3.drew⟩
        rw [← r1]
        simp only
        rw [← Array.getElem?_toList]
        simp) (some d) (.own d (gc + k) 0 (els ++ els2).length) (.slice (some ⟨w.heap.size, 0, none⟩) (els.length + els2.length) gcap) hd' (fun _ => ?_)
    · exact wp_value (hrunop _ _ hr) ⟨_, hfin, hused _⟩
    · refine .own _ _ _ _ _ _ _ (.inr rfl) (fun o ho => ?_)
      simp [RC.upd] at ho
      subst ho
      refine ⟨by simp, by simpa using hg1, hg2, (fun h => by cases h), lt_of_blt hpos, .inr ⟨w.heap.size, rfl, by simp, ?_⟩⟩
      rw [Nat.zero_add]
      simpa using Nat.le_of_eq hroom.symm

/-- 'append' onto a slice of the call's own, whole: it is the call's own, under a new stamp. -/
theorem ARun.append_ownS {t e b g n gen sz : Nat} {ti te : TI} {els els2 : List (List AV)} {rd : List (Nat × Blk)} (hx : evA fr x = .own b g 0 n) (hbk : lkH hp b = some ⟨gen, sz, els⟩) (hgg : gen = g) (hn : els.length = n) (hy : SrcA fr hp y te.size els2 rd) (ht : C.T t = some ti) (hk : ti.k = .slice e) (hte : C.T e = some te)
    (h1 : sz = te.size) (hpos : Nat.blt 0 te.size = true) (hzl : te.zero.length = te.size) (hb : (els.length + els2.length) * te.bytes ≤ 140737488355328) (hm : els.length + els2.length ≤ maxLen)
    (hd : Nat.blt d C.n = true) (hg : guardIs ops ⟨fr, hp, gc⟩ ⟨some d, .call ⟨.builtin .append, #[x, y], #[t, t]⟩, ty, pos, after, gd⟩ true)
    (nx : ARun C ops K (k + 1) rest ⟨(d, .own b (gc + k) 0 (els ++ els2).length) :: fr, (b, some ⟨gc + k, sz, els ++ els2⟩) :: hp, gc⟩ (fps ++ [(b :: rd.map (·.1), [b])])) :
    ARun C ops K k (⟨some d, .call ⟨.builtin .append, #[x, y], #[t, t]⟩, ty, pos, after, gd⟩ :: rest) ⟨fr, hp, gc⟩ fps := by
  refine ARun.step (.own b (gc + k) 0 (els ++ els2).length) ((b, ⟨gen, sz, els⟩) :: rd) [(b, some ⟨gc + k, sz, els ++ els2⟩)] hg (fun p hp' => by
    rcases List.mem_cons.1 hp' with rfl | h
    · exact hbk
    · exact hy.lie p h) ?_ nx
  subst hgg
  subst hn
  intro s c a w hS hf hargs hrd
  have hev : ∀ z ∈ #[x, y], Rep c w (evA fr z) (a.eval z) := by
    intro z hz
    have hz' : z ∈ (Op.call ⟨.builtin .append, #[x, y], #[t, t]⟩).operands.toList := by simpa [Op.operands, Call.operands] using hz
    rw [← args_ev hargs z hz']
    exact hS.ev z
  have hrx := hev x (by simp)
  have hry := hev y (by simp)
  rw [hx] at hrx
  obtain ⟨o, ho, hB⟩ := hS.hp b _ (hrd (b, ⟨gen, sz, els⟩) (by simp))
  have h0' := lt_of_blt hpos
  obtain ⟨hosz, hoz, holoc⟩ := hB.row (by rw [hB.sz]; simp only; omega)
  simp only at ho hosz hoz holoc
  obtain ⟨A2, cap2, news, N2, _, _, _⟩ := hy.news hS hry (fun p hp' => hrd p (by simp [hp']))
  have hd' := dst_lt hd
  have hin := und_slice ht hk
  obtain ⟨u0, i0, z0, hue, hie, hze, htee⟩ := ti_get hte
  have hsz0 : te.size = i0.size := by rw [htee]
  have hbb : (els.length + els2.length) * i0.bytes ≤ 140737488355328 := by rw [htee] at hb; exact hb
  have hzc : z0.cells.size = te.size := by
    rw [← hzl, htee]
    simp
  have hrunop : ∀ v' w', (Builtin.append_ #[t, t] ty #[a.eval x, a.eval y]).run C.P w = .ok v' w' → (execOp a.eval ⟨some d, .call ⟨.builtin .append, #[x, y], #[t, t]⟩, ty, pos, after, gd⟩).run C.P w = .ok (.value v') w' := by
    intro v' w' h
    simp [execOp, resolve, invoke, builtin, h]
  generalize hux : a.eval x = ux at hrx
  have hused : ∀ (o : OB) (g : Nat), (c.upd b (gc + k) o).used g → c.used g ∨ g = gc + k := fun o g h => h
  have hzz : ∀ el, el ∈ els ++ els2 → el.length = sz := by
    intro el hel
    rcases List.mem_append.1 hel with h | h
    · exact hoz el h
    · rw [h1]; exact N2.hsz el h
  cases hrx with
  | own _ _ _ _ A m cap hu hp' =>
    obtain ⟨rfl, k2, k3, k4, k0, k5⟩ := hp' o ho
    rw [hux, N2.val] at hrunop
    by_cases he2 : els2 = []
    · subst he2
      have hr := run_append_zero ht hk hte w ty A A2 els.length cap cap2 k2
      refine wp_value (hrunop _ _ hr) ⟨_, hS.upd b ⟨gc + k, sz, els ++ []⟩ o (.inl hf) rfl rfl rfl (Nat.le_refl _) (fun _ _ _ => rfl) (fun β hβ => .inr ⟨gen, o, ho, hβ⟩) (fun hmono => ?_) (some d) _ _ hd' (fun _ _ => .own _ _ _ _ _ _ _ (.inr rfl) (fun o' ho' => ?_)), hused _⟩
      · have : BlkRep c w ⟨gc + k, sz, els ++ []⟩ o := by
          rw [List.append_nil]
          exact .inl ⟨hosz, hoz, holoc⟩
        exact this.mono hmono (fun _ _ => rfl)
      · simp [RC.upd] at ho'
        subst ho'
        rw [List.append_nil]
        exact ⟨rfl, k2, k3, k4, k0, k5⟩
    · obtain ⟨ad2, hA2, hl2⟩ := N2.lie he2
      subst hA2
      have hpos2 : 0 < els2.length := List.length_pos_iff.2 he2
      -- the old cells
      have hold : ∃ olds : List Value, olds.length = els.length * sz ∧ (∀ (i : Nat) (el : List AV) (f : Nat) (x : AV), els[i]? = some el → el[f]? = some x → ∃ u, olds[i * sz + f]? = some u ∧ u.oneCell' = true ∧ Rep c w x u) ∧
          ∀ ad, A = some ad → ∀ j v, olds[j]? = some v → w.cell? (ad.add j) = some v := by
        rcases k5 with k5 | ⟨β, k5, k6, k7⟩
        · subst k5
          have he : els = [] := List.eq_nil_of_length_eq_zero (by omega)
          subst he
          exact ⟨[], by simp, fun i el f x hi => by simp at hi, fun ad _ j v hv => by simp at hv⟩
        · rw [k5] at holoc
          obtain ⟨cur, e', q1, q2, q3⟩ := holoc
          rw [Nat.zero_mul] at k6
          have hfit : els.length * sz ≤ cur.size := by
            have k8 := Nat.mul_le_mul_right sz k2
            rw [hosz, Nat.zero_add] at k7
            omega
          refine ⟨cur.toList.take (els.length * sz), (by have e : cur.toList.length = cur.size := Array.length_toList; rw [List.length_take, e]; omega), fun i el f x hi hx => ?_, fun ad had j v hv => ?_⟩
          · obtain ⟨u, r1, r2, r3⟩ := q3 i el f x hi hx
            refine ⟨u, ?_, r2, r3⟩
            have h1' := (List.getElem?_eq_some_iff.1 hi).1
            have h2' := (List.getElem?_eq_some_iff.1 hx).1
            rw [hoz el (List.mem_of_getElem? hi)] at h2'
            have : (i + 1) * sz ≤ els.length * sz := Nat.mul_le_mul_right _ h1'
            rw [Nat.add_mul] at this
            rw [List.getElem?_take, if_pos (by omega)]
            simpa using r1
          · rw [k6] at had
            obtain rfl := Option.some.inj had
            rw [add_lit, cell_row q1, Nat.zero_add]
            rw [List.getElem?_take] at hv
            split at hv
            · simpa using hv
            · cases hv
      obtain ⟨olds, o1, o2, o3⟩ := hold
      by_cases hfit : els.length + els2.length ≤ cap
      · -- there is room
        rcases k5 with k5 | ⟨β, k5, k6, k7⟩
        · omega
        rw [k5] at holoc
        obtain ⟨cur, e', q1, q2, q3⟩ := holoc
        rw [Nat.zero_mul] at k6
        subst k6
        have hcs : cap * sz ≤ cur.size := by rw [hosz, Nat.zero_add] at k7; omega
        have hfit' : els.length * i0.size + news.length ≤ cur.size := by
          rw [N2.len, ← hsz0, ← h1, ← Nat.add_mul]
          exact Nat.le_trans (Nat.mul_le_mul_right _ hfit) hcs
        have hr := run_append_room' w t ty e e' i0 hin hie β els.length cap cur q1 ad2 els2.length cap2 news (by rw [N2.len, hsz0]) hl2 N2.one hfit hfit'
        refine wp_value (hrunop _ _ hr) ⟨_, hS.upd (w' := w.setRow β _) b ⟨gc + k, sz, els ++ els2⟩ o (.inl hf) rfl rfl rfl (by simp) (fun β' _ hne => setRow_other w β β' _ (fun e => hne (by rw [k5, e]))) (fun β' hβ => .inr ⟨gen, o, ho, hβ⟩) (fun hmono => .inl ⟨hosz, hzz, ?_⟩) (some d) _ _ hd' (fun _ _ => .own _ _ _ _ _ _ _ (.inr rfl) (fun o' ho' => ?_)), hused _⟩
        · rw [k5]
          simp only
          refine row_intro (e := e') q1 q2 ?_ (fun i el f x hi hx => ?_)
          · simp only [List.size_toArray, List.length_append, List.length_take, List.length_drop]
            have e1 : cur.toList.length = cur.size := Array.length_toList
            rw [e1, ← q2]
            omega
          · have e1 : cur.toList.length = cur.size := Array.length_toList
            have hget : ∀ j, (cur.toList.take (els.length * i0.size) ++ news ++ cur.toList.drop (els.length * i0.size + news.length)).toArray[j]? = if j < els.length * i0.size then cur.toList[j]? else if j < els.length * i0.size + news.length then news[j - els.length * i0.size]? else cur.toList[j]? := by
              intro j
              rw [List.getElem?_toArray, list_over _ _ _ (by rw [e1]; exact hfit') j]
            rw [hget]
            have hs : els.length * i0.size = els.length * sz := by rw [← hsz0, h1]
            rcases Nat.lt_or_ge i els.length with h | h
            · rw [List.getElem?_append_left h] at hi
              obtain ⟨u, r1, r2, r3⟩ := q3 i el f x hi hx
              have h2' := (List.getElem?_eq_some_iff.1 hx).1
              rw [hoz el (List.mem_of_getElem? hi)] at h2'
              have : (i + 1) * sz ≤ els.length * sz := Nat.mul_le_mul_right _ h
              rw [Nat.add_mul] at this
              rw [if_pos (by omega)]
              exact ⟨u, by simpa using r1, r2, r3.mono hmono⟩
            · rw [List.getElem?_append_right h] at hi
              obtain ⟨u, r1, r2, r3⟩ := N2.rep _ el f x hi hx
              rw [← h1] at r1
              have hlt := (List.getElem?_eq_some_iff.1 r1).1
              have hge : els.length * sz ≤ i * sz := Nat.mul_le_mul_right _ h
              have e2 : i * sz + f - els.length * sz = (i - els.length) * sz + f := by rw [Nat.sub_mul]; omega
              rw [if_neg (by omega), if_pos (by omega), show i * sz + f - els.length * i0.size = (i - els.length) * sz + f by omega]
              exact ⟨u, r1, r2, r3.mono hmono⟩
        · simp [RC.upd] at ho'
          subst ho'
          refine ⟨by simp, by simpa using hfit, k3, (fun h => by cases h), k0, .inr ⟨β, k5, by simp, k7⟩⟩
      · -- it grows
        have grow : ∃ v' w', (Builtin.append_ #[t, t] ty #[.slice A els.length cap, .slice (some ad2) els2.length cap2]).run C.P w = .ok v' w' ∧ ∃ gcap, v' = .slice (some ⟨w.heap.size, 0, none⟩) (els.length + els2.length) gcap ∧ els.length + els2.length ≤ gcap ∧ gcap ≤ maxLen ∧
            w' = w.drew.alloc (.cells (olds.toArray ++ news.toArray ++ Builtin.zeroCells z0.cells (gcap - (els.length + els2.length))) e) := by
          cases A with
          | none =>
            have hc0 := k4 rfl
            subst hc0
            have he : els = [] := List.eq_nil_of_length_eq_zero (by omega)
            subst he
            have ho' : olds = [] := List.eq_nil_of_length_eq_zero (by rw [o1]; simp)
            subst ho'
            have hr := run_append_nil (P := C.P) w t ty e i0 z0 hin hie hze ad2 els2.length cap2 news (by rw [N2.len, hsz0]) hl2 hpos2 (by simp only [maxLen, List.length_nil] at hm; omega) (by simp only [List.length_nil, Nat.zero_add] at hbb; omega)
            refine ⟨_, _, hr, _, by simp, by simpa using grownCap_ge w els2.length 0 e, grownCap_le_maxLen w els2.length 0 e (by simpa using hm), by simp⟩
          | some ad =>
            have hr := run_append_grow (P := C.P) w t ty e i0 z0 hin hie hze ad els.length cap olds (by rw [o1, h1, hsz0]) (o3 ad rfl) ad2 els2.length cap2 news (by rw [N2.len, hsz0]) hl2 (by omega) (by simp only [maxLen] at hm; omega) (growslice_fits (by omega) hbb)
            exact ⟨_, _, hr, _, rfl, grownCap_ge w _ _ e, grownCap_le_maxLen w _ _ e hm, rfl⟩
        obtain ⟨v', w', hr, gcap, rfl, hg1, hg2, rfl⟩ := grow
        have hroom : (olds.toArray ++ news.toArray ++ Builtin.zeroCells z0.cells (gcap - (els.length + els2.length))).size = gcap * sz := by
          simp only [Array.size_append, List.size_toArray, size_zeroCells, hzc, o1, N2.len, ← h1, ← Nat.add_mul]
          congr 1
          omega
        have hfin := hS.drew.newBlk b ⟨gc + k, sz, els ++ els2⟩ (olds.toArray ++ news.toArray ++ Builtin.zeroCells z0.cells (gcap - (els.length + els2.length))) e hf hzz (fun i el f x hi hx => by
            obtain ⟨u, r1, r2, r3⟩ := grown_rep (c := c) (w := w) (sz := sz) (Builtin.zeroCells z0.cells (gcap - (els.length + els2.length))).toList o1 o2 (by rw [h1]; exact N2.rep) i el f x hi hx
            refine ⟨u, ?_, r2, r3.drew⟩
            rw [← r1]
            simp only
            rw [← Array.getElem?_toList]
            simp) (some d) (.own b (gc + k) 0 (els ++ els2).length) (.slice (some ⟨w.heap.size, 0, none⟩) (els.length + els2.length) gcap) hd' (fun _ => ?_)
        · exact wp_value (hrunop _ _ hr) ⟨_, hfin, hused _⟩
        · refine .own _ _ _ _ _ _ _ (.inr rfl) (fun o ho => ?_)
          simp [RC.upd] at ho
          subst ho
          refine ⟨by simp, by simpa using hg1, hg2, (fun h => by cases h), (by simp only; omega), .inr ⟨w.heap.size, rfl, by simp, ?_⟩⟩
          rw [Nat.zero_add]
          simpa using Nat.le_of_eq hroom.symm

def notRow : Obj → Bool
  | .cells _ _ _ => false
  | _ => true
theorem run_getObj' {P : Program} {w : World} {r : Nat} {o : Obj} (hb : w.heap[r]? = some o) (hn : notRow o = true := by rfl) : (getObj r).run P w = .ok o w := by cases o <;> first | (simp [getObj, Sem.run, hb]; done) | cases hn
theorem run_setObj' {P : Program} {w : World} {r : Nat} {o : Obj} (o' : Obj) (hb : w.heap[r]? = some o) (hn : notRow o = true := by rfl) : (setObj r o').run P w = .ok () { w with heap := w.heap.setIfInBounds r o' } := by cases o <;> first | (simp [setObj, Sem.run, hb]; done) | cases hn

/-- An iterator over a text. -/
theorem ARun.rangeStr {t : Nat} {ti : TI} {s : ByteArray} (hx : evA fr x = .val (.string s)) (ht : C.T t = some ti) (hk : ti.k = .str) (hd : Nat.blt d C.n = true) (hg : guardIs ops ⟨fr, hp, gc⟩ ⟨some d, .range t x, ty, pos, after, gd⟩ true)
    (nx : ARun C ops K (k + 1) rest ⟨(d, .it d (gc + k)) :: fr, (d, some ⟨gc + k, 0, [[.val (.string s), .val (.int .i64 ((0 : Nat) : Int))]]⟩) :: hp, gc⟩ (fps ++ [([], [d])])) : ARun C ops K k (⟨some d, .range t x, ty, pos, after, gd⟩ :: rest) ⟨fr, hp, gc⟩ fps := by
  refine ARun.step (.it d (gc + k)) [] [(d, some ⟨gc + k, 0, [[.val (.string s), .val (.int .i64 ((0 : Nat) : Int))]]⟩)] hg (by simp) ?_ nx
  intro s' c a w hS hf hargs _
  have hrx : Rep c w (evA fr x) (a.eval x) := by
    rw [← args_ev hargs x (by simp [Op.operands])]
    exact hS.ev x
  rw [hx] at hrx
  have h1 := hrx.val_inv
  have hun := run_underlying' (und_str ht hk) w
  have hrun : (execOp a.eval ⟨some d, .range t x, ty, pos, after, gd⟩).run C.P w = .ok (.value (.pointer (some ⟨w.heap.size, 0, none⟩))) (w.alloc (.stringIter s 0)) := by
    simp [execOp, Instr.range, h1, hun]
  refine wp_value hrun ⟨_, hS.upd (w' := w.alloc (.stringIter s 0)) d ⟨gc + k, 0, [[.val (.string s), .val (.int .i64 ((0 : Nat) : Int))]]⟩ ⟨some w.heap.size, 0, 0⟩ (.inl hf) rfl rfl rfl (by simp) (fun β hβ _ => Below.heap_alloc w _ β hβ) (fun β hβ => ?_) (fun hm => .inr ⟨rfl, rfl, w.heap.size, rfl, .inl ⟨s, 0, heap_alloc_new w _, rfl⟩⟩) (some d) _ _ (dst_lt hd) (fun _ _ => .it _ _ _ (.inr rfl) (fun q hq => ?_)), fun g hg => hg⟩
  · simp only [Option.some.injEq] at hβ
    subst hβ
    exact .inl ⟨Nat.le_refl _, by simp⟩
  · simp [RC.upd] at hq
    subst hq
    exact ⟨rfl, rfl⟩

/-- A text's next rune. -/
theorem ARun.nextStr {b g gen : Nat} {s : ByteArray} {pos' : Nat} (hx : evA fr x = .it b g) (hb : lkH hp b = some ⟨gen, 0, [[.val (.string s), .val (.int .i64 (pos' : Nat))]]⟩) (hgg : gen = g) (hlt : pos' < s.size) (hd : Nat.blt d C.n = true) (hg : guardIs ops ⟨fr, hp, gc⟩ ⟨some d, .next x true, ty, pos, after, gd⟩ true)
    (nx : ARun C ops K (k + 1) rest ⟨(d, .tup [.val (.bool true), .val (.int .i64 (pos' : Nat)), .val (.int .i32 ((Utf8.decode s pos').1 : Nat))]) :: fr, (b, some ⟨gen, 0, [[.val (.string s), .val (.int .i64 ((pos' + (Utf8.decode s pos').2 : Nat) : Int))]]⟩) :: hp, gc⟩ (fps ++ [([b], [b])])) : ARun C ops K k (⟨some d, .next x true, ty, pos, after, gd⟩ :: rest) ⟨fr, hp, gc⟩ fps := by
  refine ARun.step (.tup [.val (.bool true), .val (.int .i64 (pos' : Nat)), .val (.int .i32 ((Utf8.decode s pos').1 : Nat))]) [(b, ⟨gen, 0, [[.val (.string s), .val (.int .i64 (pos' : Nat))]]⟩)] [(b, some ⟨gen, 0, [[.val (.string s), .val (.int .i64 ((pos' + (Utf8.decode s pos').2 : Nat) : Int))]]⟩)] hg (by simp [hb]) ?_ nx
  subst hgg
  intro s' c a w hS hf hargs hrd
  have hrx : Rep c w (evA fr x) (a.eval x) := by
    rw [← args_ev hargs x (by simp [Op.operands])]
    exact hS.ev x
  rw [hx] at hrx
  obtain ⟨o, ho, hB⟩ := hS.hp b _ (hrd (b, ⟨gen, 0, [[.val (.string s), .val (.int .i64 (pos' : Nat))]]⟩) (by simp))
  simp only at ho
  generalize hux : a.eval x = ux at hrx
  cases hrx with
  | it _ _ β hu hq =>
    obtain ⟨hloc, hsz⟩ := hq o ho
    obtain ⟨_, _, β', q1, q2⟩ := hB.obj hsz
    rw [hloc] at q1
    obtain rfl := Option.some.inj q1
    rcases q2 with ⟨s2, pos2, r1, r2⟩ | ⟨es, clock, ks', vs', r1, r2, r3, r4, r5⟩
    · simp only [List.cons.injEq, AV.val.injEq, Value.string.injEq, Value.int.injEq, and_true, true_and] at r2
      obtain ⟨rfl, r2⟩ := r2
      obtain rfl : pos' = pos2 := by omega
      have hrun : (execOp a.eval ⟨some d, .next x true, ty, pos, after, gd⟩).run C.P w = .ok (.value (.tuple #[.bool true, .int .i64 (pos' : Nat), .int .i32 ((Utf8.decode s pos').1 : Nat)])) { w with heap := w.heap.setIfInBounds β (.stringIter s (pos' + (Utf8.decode s pos').2)) } := by
        simp [execOp, Instr.next, hux, run_getObj' r1, run_setObj' _ r1, hlt, goInt]
      have hβ : β < w.heap.size := (Array.getElem?_eq_some_iff.1 r1).1
      refine wp_value hrun ⟨_, hS.upd (w' := { w with heap := w.heap.setIfInBounds β (.stringIter s (pos' + (Utf8.decode s pos').2)) }) b ⟨gen, 0, [[.val (.string s), .val (.int .i64 ((pos' + (Utf8.decode s pos').2 : Nat) : Int))]]⟩ o (.inr ho) rfl rfl rfl (by simp) (fun β' hβ' hne => ?_) (fun β' hβ' => .inr ⟨gen, o, ho, hβ'⟩) (fun hm => .inr ⟨hsz, rfl, β, hloc, .inl ⟨s, pos' + (Utf8.decode s pos').2, ?_, rfl⟩⟩) (some d) _ _ (dst_lt hd) (fun _ _ => .tup _ [_, _, _] rfl (fun i x u hx hu => ?_)), fun g' hg' => ?_⟩
      · have : β ≠ β' := fun e => hne (by rw [hloc, e])
        simp [Array.getElem?_setIfInBounds_ne this]
      · simp [hβ]
      · match i with
        | 0 => simp at hx hu; subst hx; subst hu; exact .val _
        | 1 => simp at hx hu; subst hx; subst hu; exact .val _
        | 2 => simp at hx hu; subst hx; subst hu; exact .val _
        | i + 3 => simp at hx
      · rcases hg' with h | h
        · exact .inl h
        · left
          simp only at h
          rw [h]
          exact (hS.al b gen _ ho).1
    · simp at r4

theorem ARun.nextStrD {b g gen : Nat} {s : ByteArray} {pos' cc ww : Nat} (hx : evA fr x = .it b g) (hb : lkH hp b = some ⟨gen, 0, [[.val (.string s), .val (.int .i64 (pos' : Nat))]]⟩) (hgg : gen = g) (hlt : pos' < s.size) (hdec : Utf8.decode s pos' = (cc, ww)) (hd : Nat.blt d C.n = true) (hg : guardIs ops ⟨fr, hp, gc⟩ ⟨some d, .next x true, ty, pos, after, gd⟩ true)
    (nx : ARun C ops K (k + 1) rest ⟨(d, .tup [.val (.bool true), .val (.int .i64 (pos' : Nat)), .val (.int .i32 (cc : Nat))]) :: fr, (b, some ⟨gen, 0, [[.val (.string s), .val (.int .i64 ((pos' + ww : Nat) : Int))]]⟩) :: hp, gc⟩ (fps ++ [([b], [b])])) : ARun C ops K k (⟨some d, .next x true, ty, pos, after, gd⟩ :: rest) ⟨fr, hp, gc⟩ fps :=
  ARun.nextStr hx hb hgg hlt hd hg (by rw [hdec]; exact nx)

/-- A text is over. -/
theorem ARun.nextEnd {b g gen : Nat} {s : ByteArray} {pos' : Nat} (hx : evA fr x = .it b g) (hb : lkH hp b = some ⟨gen, 0, [[.val (.string s), .val (.int .i64 (pos' : Nat))]]⟩) (hgg : gen = g) (hge : s.size ≤ pos') (hd : Nat.blt d C.n = true) (hg : guardIs ops ⟨fr, hp, gc⟩ ⟨some d, .next x true, ty, pos, after, gd⟩ true)
    (nx : ARun C ops K (k + 1) rest ⟨(d, .tup [.val (.bool false)]) :: fr, hp, gc⟩ (fps ++ [([b], [])])) : ARun C ops K k (⟨some d, .next x true, ty, pos, after, gd⟩ :: rest) ⟨fr, hp, gc⟩ fps :=
  ARun.quiet hd hg [(b, ⟨gen, 0, [[.val (.string s), .val (.int .i64 (pos' : Nat))]]⟩)] (by simp [hb]) (fun s' c a w hS hev hrd => by
    subst hgg
    have hrx := hev x (by simp [Op.operands])
    rw [hx] at hrx
    obtain ⟨o, ho, hB⟩ := hS.hp b _ (hrd (b, ⟨gen, 0, [[.val (.string s), .val (.int .i64 (pos' : Nat))]]⟩) (by simp))
    simp only at ho
    generalize hux : a.eval x = ux at hrx
    cases hrx with
    | it _ _ β hu hq =>
      obtain ⟨hloc, hsz⟩ := hq o ho
      obtain ⟨_, _, β', q1, q2⟩ := hB.obj hsz
      rw [hloc] at q1
      obtain rfl := Option.some.inj q1
      rcases q2 with ⟨s2, pos2, r1, r2⟩ | ⟨es, clock, ks', vs', r1, r2, r3, r4, r5⟩
      · simp only [List.cons.injEq, AV.val.injEq, Value.string.injEq, Value.int.injEq, and_true, true_and] at r2
        obtain ⟨rfl, r2⟩ := r2
        obtain rfl : pos' = pos2 := by omega
        refine ⟨.tuple #[.bool false], ?_, .tup _ [_] rfl (fun i x u hx hu => ?_)⟩
        · have : ¬ (pos' < s.size) := by omega
          simp [execOp, Instr.next, hux, run_getObj' r1, this]
        · match i with
          | 0 => simp at hx hu; subst hx; subst hu; exact .val _
          | i + 1 => simp at hx
      · simp at r4) nx

/-- A map without entries. -/
theorem ARun.makeMap {t : Nat} (hd : Nat.blt d C.n = true) (hg : guardIs ops ⟨fr, hp, gc⟩ ⟨some d, .makeMap t none, ty, pos, after, gd⟩ true)
    (nx : ARun C ops K (k + 1) rest ⟨(d, .mo d (gc + k)) :: fr, (d, some ⟨gc + k, 0, [.dead :: ([] : List Value).map .val, []]⟩) :: hp, gc⟩ (fps ++ [([], [d])])) : ARun C ops K k (⟨some d, .makeMap t none, ty, pos, after, gd⟩ :: rest) ⟨fr, hp, gc⟩ fps := by
  refine ARun.step (.mo d (gc + k)) [] [(d, some ⟨gc + k, 0, [.dead :: ([] : List Value).map .val, []]⟩)] hg (by simp) ?_ nx
  intro s' c a w hS hf hargs _
  have hrun : (execOp a.eval ⟨some d, .makeMap t none, ty, pos, after, gd⟩).run C.P w = .ok (.value (.map (some w.heap.size))) (w.alloc (.map #[] 0)) := by
    simp [execOp, Instr.makeMap]
  refine wp_value hrun ⟨_, hS.upd (w' := w.alloc (.map #[] 0)) d ⟨gc + k, 0, [.dead :: ([] : List Value).map .val, []]⟩ ⟨some w.heap.size, 0, 0⟩ (.inl hf) rfl rfl rfl (by simp) (fun β hβ _ => Below.heap_alloc w _ β hβ) (fun β hβ => ?_) (fun hm => .inr ⟨rfl, rfl, w.heap.size, rfl, .inr ⟨[], 0, [], [], heap_alloc_new w _, rfl, rfl, rfl, fun i x e hx => by simp at hx⟩⟩) (some d) _ _ (dst_lt hd) (fun _ _ => .mo _ _ _ (.inr rfl) (fun q hq => ?_)), fun g hg => hg⟩
  · simp only [Option.some.injEq] at hβ
    subst hβ
    exact .inl ⟨Nat.le_refl _, by simp⟩
  · simp [RC.upd] at hq
    subst hq
    exact ⟨rfl, rfl⟩

/-- A key is not there. -/
def keyNone (u : TypeDesc) (k : Value) : List Value → Bool
  | [] => true
  | k' :: ks => match Instr.sameNow u k k' with | some false => keyNone u k ks | _ => false
theorem findNow_none {u : TypeDesc} {k : Value} : ∀ (es : List MapEntry) (i : Nat), keyNone u k (es.map (·.key)) = true → Instr.findNow u k es i = some none
  | [], i, _ => rfl
  | e :: es, i, h => by
    rw [List.map_cons, keyNone] at h
    unfold Instr.findNow
    cases hs : Instr.sameNow u k e.key with
    | none => rw [hs] at h; cases h
    | some b =>
      rw [hs] at h
      cases b with
      | true => cases h
      | false => exact findNow_none es (i + 1) h
/-- The place of a key. -/
def keyAt (u : TypeDesc) (k : Value) : List Value → Nat → Option Nat
  | [], _ => none
  | k' :: ks, i => match Instr.sameNow u k k' with | some false => keyAt u k ks (i + 1) | some true => some i | none => none
theorem findNow_at {u : TypeDesc} {k : Value} : ∀ (es : List MapEntry) (i j : Nat), keyAt u k (es.map (·.key)) i = some j → ∃ e, es[j - i]? = some e ∧ i ≤ j ∧ Instr.findNow u k es i = some (some (j, e.val))
  | [], i, j, h => by cases h
  | e :: es, i, j, h => by
    rw [List.map_cons, keyAt] at h
    unfold Instr.findNow
    cases hs : Instr.sameNow u k e.key with
    | none => rw [hs] at h; cases h
    | some b =>
      rw [hs] at h
      cases b with
      | true =>
        obtain rfl := Option.some.inj h
        exact ⟨e, by simp, Nat.le_refl _, rfl⟩
      | false =>
        obtain ⟨e', h1, h2, h3⟩ := findNow_at es (i + 1) j h
        refine ⟨e', ?_, by omega, h3⟩
        rw [show j - i = (j - (i + 1)) + 1 by omega]
        exact h1
def plainKey : TypeDesc → Value → Bool
  | .int _, .int _ _ => true
  | .string, .string _ => true
  | .bool, .bool _ => true
  | _, _ => false
theorem run_checkKey {P : Program} {t : TypeId} {u : TypeDesc} {v : Value} (hu : P.underlying t = some u) (h : plainKey u v = true) (w : World) (em : Bool) : (Instr.checkKey em 10000 t v).run P w = .ok () w := by
  rw [show (10000 : Nat) = 9999 + 1 from rfl]
  unfold Instr.checkKey
  rw [Sem.run_bind, run_underlying hu, Result.andThen_ok]
  unfold plainKey at h
  split at h <;> first | rfl | cases h
theorem und_map {t kt e : Nat} {ti : TI} (h : C.T t = some ti) (hk : ti.k = .map kt e) : C.P.underlying t = some (.map kt e) := by
  obtain ⟨u, i, z, hu, _, _, rfl⟩ := ti_get h
  simp only at hk
  rw [hu]
  cases u <;> simp only [akOf] at hk <;> first
    | (split at hk <;> cases hk)
    | (cases hk; rfl)
    | cases hk

/-- An entry more. -/
theorem ARun.insert {t kt e b g gen : Nat} {ti : TI} {u : TypeDesc} {key : Value} {ks : List Value} {vs : List AV} (hx : evA fr x = .mo b g) (hb : lkH hp b = some ⟨gen, 0, [.dead :: ks.map .val, vs]⟩) (hgg : gen = g) (hy : evA fr y = .val key) (hz : evA fr z = v) (ht : C.T t = some ti) (hk : ti.k = .map kt e) (hu : C.P.underlying kt = some u)
    (hpk : plainKey u key = true) (hno : keyNone u key ks = true) (hg : guardIs ops ⟨fr, hp, gc⟩ ⟨none, .insert t x y z, ty, pos, after, gd⟩ true)
    (nx : ARun C ops K (k + 1) rest ⟨fr, (b, some ⟨gen, 0, [.dead :: (ks ++ [key]).map .val, vs ++ [v]]⟩) :: hp, gc⟩ (fps ++ [([b], [b])])) : ARun C ops K k (⟨none, .insert t x y z, ty, pos, after, gd⟩ :: rest) ⟨fr, hp, gc⟩ fps := by
  refine ARun.step .dead [(b, ⟨gen, 0, [.dead :: ks.map .val, vs]⟩)] [(b, some ⟨gen, 0, [.dead :: (ks ++ [key]).map .val, vs ++ [v]]⟩)] hg (by simp [hb]) ?_ nx
  subst hgg
  intro s' c a w hS hf hargs hrd
  have hev : ∀ z' ∈ [x, y, z], Rep c w (evA fr z') (a.eval z') := by
    intro z' hz'
    have hz' : z' ∈ (Op.insert t x y z).operands.toList := by simpa [Op.operands] using hz'
    rw [← args_ev hargs z' hz']
    exact hS.ev z'
  have hrx := hev x (by simp)
  have hry := hev y (by simp)
  have hrz := hev z (by simp)
  rw [hx] at hrx
  rw [hy] at hry
  rw [hz] at hrz
  have hry := hry.val_inv
  obtain ⟨o, ho, hB⟩ := hS.hp b _ (hrd (b, ⟨gen, 0, [.dead :: ks.map .val, vs]⟩) (by simp))
  simp only at ho
  have hun := run_underlying' (und_map ht hk) w
  generalize hux : a.eval x = ux at hrx
  cases hrx with
  | mo _ _ β hu' hq =>
    obtain ⟨hloc, hsz⟩ := hq o ho
    obtain ⟨_, _, β', q1, q2⟩ := hB.obj hsz
    rw [hloc] at q1
    obtain rfl := Option.some.inj q1
    rcases q2 with ⟨s2, pos2, r1, r2⟩ | ⟨es, clock, ks', vs', r1, r2, r3, r4, r5⟩
    · simp at r2
    · simp only [List.cons.injEq, and_true, true_and] at r4
      obtain ⟨e1, e2⟩ := r4
      have e1 : ks = ks' := by
        have := congrArg (List.map (fun a => match a with | AV.val v => v | _ => undef)) e1
        simpa [List.map_map, Function.comp_def] using this
      subst e1
      subst e2
      have hfind : (Instr.findKey kt key es).run C.P w = .ok none w := by
        unfold Instr.findKey
        rw [Sem.run_bind, run_underlying hu, Result.andThen_ok]
        rw [findNow_none es 0 (by rw [r2]; exact hno)]
        rfl
      have hrun : (execOp a.eval ⟨none, .insert t x y z, ty, pos, after, gd⟩).run C.P w = .ok .skip { w with heap := w.heap.setIfInBounds β (.map (es ++ [(⟨key, a.eval z, clock⟩ : MapEntry)]).toArray (clock + 1)) } := by
        simp [execOp, Instr.mapUpdate, hux, hry, run_getObj' r1, run_setObj' _ r1, hun, run_checkKey hu hpk, hfind]
      have hβ : β < w.heap.size := (Array.getElem?_eq_some_iff.1 r1).1
      refine wp_skip' hrun ⟨_, hS.upd (w' := { w with heap := w.heap.setIfInBounds β (.map (es ++ [(⟨key, a.eval z, clock⟩ : MapEntry)]).toArray (clock + 1)) }) b ⟨gen, 0, [.dead :: (ks ++ [key]).map .val, vs ++ [v]]⟩ o (.inr ho) rfl rfl rfl (by simp) (fun β' hβ' hne => ?_) (fun β' hβ' => .inr ⟨gen, o, ho, hβ'⟩) (fun hm => .inr ⟨hsz, rfl, β, hloc, .inr ⟨es ++ [(⟨key, a.eval z, clock⟩ : MapEntry)], clock + 1, ks ++ [key], vs ++ [v], ?_, ?_, ?_, rfl, fun i x e hx he => ?_⟩⟩) none .dead undef (by simp) (by simp), fun g' hg' => ?_⟩
      · have : β ≠ β' := fun e => hne (by rw [hloc, e])
        simp [Array.getElem?_setIfInBounds_ne this]
      · simp [hβ]
      · simp [r2]
      · simp [r3]
      · rcases Nat.lt_or_ge i vs.length with h | h
        · rw [List.getElem?_append_left h] at hx
          rw [List.getElem?_append_left (by omega)] at he
          exact (r5 i x e hx he).mono hm
        · rw [List.getElem?_append_right h] at hx
          rw [List.getElem?_append_right (by omega)] at he
          have : i - vs.length = 0 := by
            have := (List.getElem?_eq_some_iff.1 hx).1
            simp at this
            omega
          rw [this] at hx
          rw [show i - es.length = 0 by omega] at he
          simp at hx he
          subst hx
          subst he
          exact hrz.mono hm
      · rcases hg' with h | h
        · exact .inl h
        · left
          simp only at h
          rw [h]
          exact (hS.al b gen _ ho).1

/-- A value as it is; a struct of nothing but such. -/
theorem ARun.lookupHit {t kt e j : Nat} {ti : TI} {u : TypeDesc} {key : Value} {ks : List Value} {vs : List AV} (hx : evA fr x = .mp ks vs) (hy : evA fr y = .val key) (ht : C.T t = some ti) (hk : ti.k = .map kt e) (hu : C.P.underlying kt = some u) (hpk : plainKey u key = true) (hat : keyAt u key ks 0 = some j) (hv : vs[j]? = some v)
    (hd : Nat.blt d C.n = true) (hg : guardIs ops ⟨fr, hp, gc⟩ ⟨some d, .lookup t x y true, ty, pos, after, gd⟩ true)
    (nx : ARun C ops K (k + 1) rest ⟨(d, .tup [v, .val (.bool true)]) :: fr, hp, gc⟩ (fps ++ [([], [])])) : ARun C ops K k (⟨some d, .lookup t x y true, ty, pos, after, gd⟩ :: rest) ⟨fr, hp, gc⟩ fps :=
  ARun.quiet hd hg [] (by simp) (fun s' c a w hS hev _ => by
    have hrx := hev x (by simp [Op.operands])
    have hry := hev y (by simp [Op.operands])
    rw [hx] at hrx
    rw [hy] at hry
    have hry := hry.val_inv
    have hun := run_underlying' (und_map ht hk) w
    generalize hux : a.eval x = ux at hrx
    cases hrx with
    | mp _ _ β clock es hs hh hkk hl hr =>
      obtain ⟨en, h1, _, h2⟩ := findNow_at (u := u) (k := key) es 0 j (by rw [hkk]; exact hat)
      have hfind : (Instr.findKey kt key es).run C.P w = .ok (some (j, en.val)) w := by
        unfold Instr.findKey
        rw [Sem.run_bind, run_underlying hu, Result.andThen_ok, h2]
        rfl
      refine ⟨.tuple #[en.val, .bool true], ?_, .tup _ [_, _] rfl (fun i x u hx hu => ?_)⟩
      · simp [execOp, Instr.lookup, hux, hry, hun, run_getObj' hh, run_checkKey hu hpk, hfind]
      · match i with
        | 0 => simp at hx hu; subst hx; subst hu; exact hr j _ en hv (by simpa using h1)
        | 1 => simp at hx hu; subst hx; subst hu; exact .val _
        | i + 2 => simp at hx) nx
def zeroAV (ti : TI) : AV := bif ti.k.agg then .agg (ti.zero.map zv) else (match ti.zero with | [v] => zv v | _ => .dead)
theorem ARun.lookupMiss {t kt e : Nat} {ti te : TI} {u : TypeDesc} {key : Value} {ks : List Value} {vs : List AV} (hx : evA fr x = .mp ks vs) (hy : evA fr y = .val key) (ht : C.T t = some ti) (hk : ti.k = .map kt e) (hu : C.P.underlying kt = some u) (hpk : plainKey u key = true) (hno : keyNone u key ks = true) (hte : C.T e = some te) (hz1 : te.zero.all Value.oneCell' = true)
    (hd : Nat.blt d C.n = true) (hg : guardIs ops ⟨fr, hp, gc⟩ ⟨some d, .lookup t x y true, ty, pos, after, gd⟩ true)
    (hzv : ∃ z, C.P.info? e = some z ∧ ∃ zz, z.zero = some zz ∧ ∀ c w, Rep c w v zz)
    (nx : ARun C ops K (k + 1) rest ⟨(d, .tup [v, .val (.bool false)]) :: fr, hp, gc⟩ (fps ++ [([], [])])) : ARun C ops K k (⟨some d, .lookup t x y true, ty, pos, after, gd⟩ :: rest) ⟨fr, hp, gc⟩ fps :=
  ARun.quiet hd hg [] (by simp) (fun s' c a w hS hev _ => by
    have hrx := hev x (by simp [Op.operands])
    have hry := hev y (by simp [Op.operands])
    rw [hx] at hrx
    rw [hy] at hry
    have hry := hry.val_inv
    have hun := run_underlying' (und_map ht hk) w
    obtain ⟨zi, hzi, zz, hzz, hrep⟩ := hzv
    generalize hux : a.eval x = ux at hrx
    cases hrx with
    | mp _ _ β clock es hs hh hkk hl hr =>
      have hfind : (Instr.findKey kt key es).run C.P w = .ok none w := by
        unfold Instr.findKey
        rw [Sem.run_bind, run_underlying hu, Result.andThen_ok, findNow_none es 0 (by rw [hkk]; exact hno)]
        rfl
      have hzr : (zeroValue e).run C.P w = .ok zz w := by simp [zeroValue, typeInfo, hzi, hzz]
      refine ⟨.tuple #[zz, .bool false], ?_, .tup _ [_, _] rfl (fun i x u hx hu => ?_)⟩
      · simp [execOp, Instr.lookup, hux, hry, hun, run_getObj' hh, run_checkKey hu hpk, hfind, hzr]
      · match i with
        | 0 => simp at hx hu; subst hx; subst hu; exact hrep c w
        | 1 => simp at hx hu; subst hx; subst hu; exact .val _
        | i + 2 => simp at hx) nx
end
end Go.Proofs.Ytedfegoafallhaa
