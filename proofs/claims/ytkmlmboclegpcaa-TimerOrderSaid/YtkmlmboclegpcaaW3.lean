/- D1, D2, D3, D4, D5, D6, D7, D8, D9. -/
import Derived.Test.YtkmlmboclegpcaaW1
import Derived.Test.YtkmlmboclegpcaaW2
import Derived.Lib.AppendZerosOnto
import Derived.Lib.ConvBytes
import Derived.Laws.BytesString
set_option linter.unusedVariables false
set_option linter.unusedSimpArgs false
namespace Go.Proofs.Ytkmlmboclegpcaa
open Go Go.RowKit
inductive SrcA (fr : List (Nat × AV)) (hp : List (Nat × Option Blk)) (x : Operand) (sz : Nat) : List (List AV) → List (Nat × Blk) → Prop where
 | sl {sz' : Nat} {full : Bool} {els : List (List AV)} (hx : evA fr x = .sl sz' full els) (hs : els = [] ∨ sz' = sz) : SrcA fr hp x sz els []
 | own {b g lo n gen : Nat} {els els' : List (List AV)} (hx : evA fr x = .own b g lo n) (hb : lkH hp b = some ⟨gen, sz, els⟩) (hg : gen = g) (hl : lo + n ≤ els.length) (he : (els.drop lo).take n = els') : SrcA fr hp x sz els' [(b, ⟨gen, sz, els⟩)]
theorem News.own {C : ACtx} {s : AS} {c : RC} {a : Act} {w : World} (hS : Sim C s c a w) {b g lo n sz : Nat} {els : List (List AV)} {u : Value} (hb : lkH s.hp b = some ⟨g, sz, els⟩) (hl : lo + n ≤ els.length) (r : Rep c w (.own b g lo n) u) :
  ∃ A cap vs, News c w sz ((els.drop lo).take n) u A cap vs ∧ n ≤ cap ∧ cap ≤ maxLen ∧ (A = none → cap = 0) := by
 obtain ⟨o, h1, hB⟩ := hS.hp b _ hb
 simp only at h1
 have hlen : ((els.drop lo).take n).length = n := by rw [List.length_take, List.length_drop]; omega
 cases r with
 | own _ _ _ _ A m cap hu hp =>
  obtain ⟨rfl, k2, k3, k4, k0, k5⟩ := hp o h1
  obtain ⟨h2, h3, h4⟩ := hB.row k0
  simp only at h2 h3 h4
  have hget : ∀ (i : Nat) (el : List AV), ((els.drop lo).take m)[i]? = some el → i < m ∧ els[lo + i]? = some el := by
   intro i el hi
   rw [List.getElem?_take] at hi
   split at hi
   ·rw [List.getElem?_drop] at hi; exact ⟨by assumption, hi⟩
   ·cases hi
  rcases k5 with hcap | ⟨β, k5, k6, k7⟩
  ·subst hcap
   have hn0 : m = 0 := by omega
   subst hn0
   exact ⟨A, 0, [], ⟨by simp, by simp, by simp, fun h => absurd (by simp) h, by simp, fun i el f x hi => by simp at hi⟩, k2, k3, k4⟩
  ·rw [k5] at h4
   obtain ⟨cur, e, q1, q2, q3⟩ := h4
   have hfit : lo * sz + m * sz ≤ cur.size := by
    have k8 : (lo + m) * sz ≤ (lo + cap) * sz := Nat.mul_le_mul_right _ (by omega)
    rw [h2] at k7
    rw [← Nat.add_mul]
    omega
   have hcl : cur.toList.length = cur.size := Array.length_toList
   have hvs : ∀ j, j < m * sz → ((cur.toList.drop (lo * sz)).take (m * sz))[j]? = cur[lo * sz + j]? := by
    intro j hj
    rw [List.getElem?_take, if_pos hj, List.getElem?_drop]
    simp
   have hvl : ((cur.toList.drop (lo * sz)).take (m * sz)).length = m * sz := by rw [List.length_take, List.length_drop, hcl]; omega
   refine ⟨A, cap, (cur.toList.drop (lo * sz)).take (m * sz), ⟨by rw [hlen], by rw [hlen]; exact hvl, fun v hv => ?_, fun hne => ⟨⟨β, lo * sz, none⟩, by rw [k6, h2], fun j v hj => ?_⟩, fun el hel => ?_, fun i el f x hi hx => ?_⟩, k2, k3, k4⟩
   ·obtain ⟨j, hj⟩ := List.getElem?_of_mem hv
    have hjl : j < m * sz := by rw [← hvl]; exact (List.getElem?_eq_some_iff.1 hj).1
    rw [hvs j hjl] at hj
    have hsz : 0 < sz := by
     rcases Nat.eq_zero_or_pos sz with h | h
     ·rw [h] at hjl; omega
     ·exact h
    have hi : lo + j / sz < els.length := by
     have : j / sz < m := by rw [Nat.div_lt_iff_lt_mul hsz]; exact hjl
     omega
    have hel := List.getElem?_eq_getElem hi
    have hf : j % sz < (els[lo + j / sz]).length := by rw [h3 _ (List.getElem_mem _)]; exact Nat.mod_lt _ hsz
    obtain ⟨u, r1, r2, _⟩ := q3 _ _ _ _ hel (List.getElem?_eq_getElem hf)
    have e1 : (lo + j / sz) * sz + j % sz = lo * sz + j := by
     rw [Nat.add_mul, Nat.add_assoc, Nat.mul_comm (j / sz), Nat.div_add_mod]
    rw [e1, hj] at r1
    obtain rfl := Option.some.inj r1
    exact r2
   ·have hjl : j < m * sz := by rw [← hvl]; exact (List.getElem?_eq_some_iff.1 hj).1
    rw [hvs j hjl] at hj
    rw [add_lit, cell_row q1]
    exact hj
   ·obtain ⟨i, hi⟩ := List.getElem?_of_mem hel
    exact h3 el (List.mem_of_getElem? (hget i el hi).2)
   ·obtain ⟨him, hi'⟩ := hget i el hi
    obtain ⟨u, r1, r2, r3⟩ := q3 _ _ _ _ hi' hx
    have hf : f < sz := by rw [← h3 el (List.mem_of_getElem? hi')]; exact (List.getElem?_eq_some_iff.1 hx).1
    refine ⟨u, ?_, r2, r3⟩
    have : (i + 1) * sz ≤ m * sz := Nat.mul_le_mul_right _ him
    rw [Nat.add_mul] at this
    rw [hvs _ (by omega), ← r1, Nat.add_mul, Nat.add_assoc]
theorem SrcA.news {C : ACtx} {s : AS} {c : RC} {a : Act} {w : World} (hS : Sim C s c a w) {fr : List (Nat × AV)} {hp : List (Nat × Option Blk)} {x : Operand} {sz : Nat} {els : List (List AV)} {rd : List (Nat × Blk)} (h : SrcA fr hp x sz els rd)
  (hr : Rep c w (evA fr x) (a.eval x)) (hrd : ∀ p, p ∈ rd → lkH s.hp p.1 = some p.2) : ∃ A cap vs, News c w sz els (a.eval x) A cap vs ∧ els.length ≤ cap ∧ cap ≤ maxLen ∧ (A = none → cap = 0) := by
 cases h with
 | sl hx hs =>
  rw [hx] at hr
  obtain ⟨A, cap, vs, h1, _, h2, h3, h4⟩ := News.of hr hs
  exact ⟨A, cap, vs, h1, h2, h3, h4⟩
 | @own b g lo n gen els' _ hx hb hg hl he =>
  subst he
  subst hg
  rw [hx] at hr
  obtain ⟨A, cap, vs, h1, h2, h3, h4⟩ := News.own hS (hrd (b, ⟨gen, sz, els'⟩) (by simp)) hl hr
  exact ⟨A, cap, vs, h1, by rw [List.length_take, List.length_drop]; omega, h3, h4⟩
theorem SrcA.lie {fr : List (Nat × AV)} {hp : List (Nat × Option Blk)} {x : Operand} {sz : Nat} {els : List (List AV)} {rd : List (Nat × Blk)} (h : SrcA fr hp x sz els rd) : ∀ p, p ∈ rd → lkH hp p.1 = some p.2 := by
 cases h with
 | sl => intro p hp; cases hp
 | own hx hb hg hl he =>
  intro p hp
  rw [List.mem_singleton.1 hp]
  exact hb
def overL {α : Type} (l : List α) (lo : Nat) (l2 : List α) : List α := l.take lo ++ (l2 ++ l.drop (lo + l2.length))
theorem overL_get {α : Type} {l l2 : List α} {lo : Nat} (h : lo + l2.length ≤ l.length) (j : Nat) : (overL l lo l2)[j]? = if j < lo then l[j]? else if j < lo + l2.length then l2[j - lo]? else l[j]? := by
 unfold overL
 rw [← List.append_assoc]
 exact list_over l l2 lo h j
theorem overL_map {α β : Type} (f : α → β) (l l2 : List α) (lo : Nat) : overL (l.map f) lo (l2.map f) = (overL l lo l2).map f := by
 unfold overL
 simp [List.map_take, List.map_drop]
section
variable {C : ACtx} {ops : Array Oper} {K : AS → List (List Nat × List Nat) → Prop} {k : Nat} {rest : List Oper} {fr : List (Nat × AV)} {hp : List (Nat × Option Blk)} {gc : Nat} {fps : List (List Nat × List Nat)}
 {d : Nat} {ty : TypeId} {pos : String} {after : Array Edge} {gd : Option (Nat × Bool)} {x y z : Operand} {v : AV}
end
end Go.Proofs.Ytkmlmboclegpcaa
namespace Go.Proofs.Ytkmlmboclegpcaa
open Go Go.RowKit
section
variable {C : ACtx} {ops : Array Oper} {K : AS → List (List Nat × List Nat) → Prop} {k : Nat} {rest : List Oper} {fr : List (Nat × AV)} {hp : List (Nat × Option Blk)} {gc : Nat} {fps : List (List Nat × List Nat)}
 {d : Nat} {ty : TypeId} {pos : String} {after : Array Edge} {gd : Option (Nat × Bool)} {x y z : Operand} {v : AV}
theorem ARun.append_fullS {t e sz : Nat} {ti te : TI} {els els2 : List (List AV)} {rd : List (Nat × Blk)} (hx : evA fr x = .sl sz true els) (hy : SrcA fr hp y te.size els2 rd) (ht : C.T t = some ti) (hk : ti.k = .slice e) (hte : C.T e = some te)
  (h1 : els = [] ∨ sz = te.size) (hne : els = [] ∨ els2 ≠ []) (hpos : Nat.blt 0 te.size = true) (hzl : te.zero.length = te.size) (hb : (els.length + els2.length) * te.bytes ≤ 140737488355328) (hm : els.length + els2.length ≤ maxLen)
  (hd : Nat.blt d C.n = true) (hg : guardIs ops ⟨fr, hp, gc⟩ ⟨some d, .call ⟨.builtin .append, #[x, y], #[t, t]⟩, ty, pos, after, gd⟩ true)
  (nx : ARun C ops K (k + 1) rest ⟨(d, .own d (gc + k) 0 (els ++ els2).length) :: fr, (d, some ⟨gc + k, te.size, els ++ els2⟩) :: hp, gc⟩ (fps ++ [(rd.map (·.1), [d])])) :
  ARun C ops K k (⟨some d, .call ⟨.builtin .append, #[x, y], #[t, t]⟩, ty, pos, after, gd⟩ :: rest) ⟨fr, hp, gc⟩ fps := by
 refine ARun.step (.own d (gc + k) 0 (els ++ els2).length) rd [(d, some ⟨gc + k, te.size, els ++ els2⟩)] hg hy.lie ?_ nx
 intro s c a w hS hf hargs hrd
 have hev : ∀ z ∈ #[x, y], Rep c w (evA fr z) (a.eval z) := by
  intro z hz
  have hz' : z ∈ (Op.call ⟨.builtin .append, #[x, y], #[t, t]⟩).operands.toList := by simpa [Op.operands, Call.operands] using hz
  rw [← args_ev hargs z hz']
  exact hS.ev z
 have hrx := hev x (by simp)
 have hry := hev y (by simp)
 rw [hx] at hrx
 obtain ⟨A, cap, olds, N1, hfull, hcap, hcm, hA0⟩ := News.of (sz := te.size) hrx h1
 obtain ⟨A2, cap2, news, N2, _, _, _⟩ := hy.news hS hry hrd
 have hcap' := hfull rfl
 subst hcap'
 have hd' := dst_lt hd
 have hin := und_slice ht hk
 obtain ⟨u0, i0, z0, hue, hie, hze, htee⟩ := ti_get hte
 have hrunop : ∀ v' w', (Builtin.append_ #[t, t] ty #[a.eval x, a.eval y]).run C.P w = .ok v' w' → (execOp a.eval ⟨some d, .call ⟨.builtin .append, #[x, y], #[t, t]⟩, ty, pos, after, gd⟩).run C.P w = .ok (.value v') w' := by
  intro v' w' h
  simp [execOp, resolve, invoke, builtin, h]
 rw [N1.val, N2.val] at hrunop
 have hused : ∀ (o : OB) (g : Nat), (c.upd d (gc + k) o).used g → c.used g ∨ g = gc + k := fun o g h => h
 by_cases he2 : els2 = []
 ·-- nothing is appended, onto nothing
  have he1 : els = [] := by rcases hne with h | h; exact h; exact absurd he2 h
  subst he1
  subst he2
  have hr := run_append_zero ht hk hte w ty A A2 0 0 cap2 (Nat.le_refl _)
  refine wp_value (hrunop _ _ hr) ⟨_, hS.upd d ⟨gc + k, te.size, [] ++ []⟩ ⟨none, te.size, 0⟩ (.inl hf) rfl rfl rfl (Nat.le_refl _) (fun _ _ _ => rfl) (fun β h => by cases h) (fun _ => .inl ⟨rfl, by simp, rfl⟩) (some d) _ _ hd' (fun _ _ => .own _ _ _ _ _ _ _ (.inr rfl) (fun o ho => ⟨rfl, Nat.le_refl _, Nat.zero_le _, hA0, (by simp [RC.upd] at ho; subst ho; exact lt_of_blt hpos), .inl rfl⟩)), hused _⟩
 ·obtain ⟨ad2, hA2, hl2⟩ := N2.lie he2
  have hpos2 : 0 < els2.length := List.length_pos_iff.2 he2
  have hbb : (els.length + els2.length) * i0.bytes ≤ 140737488355328 := by rw [htee] at hb; exact hb
  have hsz0 : te.size = i0.size := by rw [htee]
  have hzsz : ∀ cp, cp ≥ els.length + els2.length → True := fun _ _ => trivial
  -- it grows
  have grow : ∃ v' w', (Builtin.append_ #[t, t] ty #[.slice A els.length els.length, .slice A2 els2.length cap2]).run C.P w = .ok v' w' ∧ ∃ rest gcap, v' = .slice (some ⟨w.heap.size, 0, none⟩) (els.length + els2.length) gcap ∧ els.length + els2.length ≤ gcap ∧ gcap ≤ maxLen ∧
    w' = w.drew.alloc (.cells (olds.toArray ++ news.toArray ++ Builtin.zeroCells z0.cells (gcap - (els.length + els2.length))) e) ∧ rest = Builtin.zeroCells z0.cells (gcap - (els.length + els2.length)) := by
   cases A with
   | none =>
    have hn0 : els.length = 0 := hA0 rfl
    have he : els = [] := List.eq_nil_of_length_eq_zero hn0
    subst he
    have ho : olds = [] := List.eq_nil_of_length_eq_zero (by rw [N1.len]; simp)
    subst ho
    subst hA2
    have hr := run_append_nil (P := C.P) w t ty e i0 z0 hin hie hze ad2 els2.length cap2 news (by rw [N2.len, hsz0]) hl2 hpos2 (by simp only [maxLen, List.length_nil] at hm; omega) (by simp only [List.length_nil, Nat.zero_add] at hbb; omega)
    refine ⟨_, _, hr, _, _, by simp, by simpa using grownCap_ge w els2.length 0 e, grownCap_le_maxLen w els2.length 0 e (by simpa using hm), by simp, rfl⟩
   | some ad =>
    subst hA2
    have hlie : ∀ j v, olds[j]? = some v → w.cell? (ad.add j) = some v := by
     intro j v hj
     have hne1 : els ≠ [] := by
      intro h
      have hl0 := N1.len
      rw [h] at hl0
      have : olds = [] := List.eq_nil_of_length_eq_zero (by simpa using hl0)
      rw [this] at hj
      simp at hj
     obtain ⟨ad', h3, h4⟩ := N1.lie hne1
     obtain rfl := Option.some.inj h3
     exact h4 j v hj
    have hr := run_append_grow (P := C.P) w t ty e i0 z0 hin hie hze ad els.length els.length olds (by rw [N1.len, hsz0]) hlie ad2 els2.length cap2 news (by rw [N2.len, hsz0]) hl2 (by omega) (by simp only [maxLen] at hm; omega) (growslice_fits (by omega) hbb)
    exact ⟨_, _, hr, _, _, rfl, grownCap_ge w _ _ e, grownCap_le_maxLen w _ _ e hm, rfl, rfl⟩
  obtain ⟨v', w', hr, rest', gcap, rfl, hg1, hg2, rfl, _⟩ := grow
  have hzc : z0.cells.size = te.size := by
   rw [← hzl, htee]
   simp
  have hroom : (olds.toArray ++ news.toArray ++ Builtin.zeroCells z0.cells (gcap - (els.length + els2.length))).size = gcap * te.size := by
   simp only [Array.size_append, List.size_toArray, size_zeroCells, hzc, N1.len, N2.len, ← Nat.add_mul]
   congr 1
   omega
  have hS' := hS.drew
  have hfin := hS'.newBlk d ⟨gc + k, te.size, els ++ els2⟩ (olds.toArray ++ news.toArray ++ Builtin.zeroCells z0.cells (gcap - (els.length + els2.length))) e hf (fun el hel => by
    rcases List.mem_append.1 hel with h | h
    ·exact N1.hsz el h
    ·exact N2.hsz el h) (fun i el f x hi hx => by
    obtain ⟨u, r1, r2, r3⟩ := grown_rep (Builtin.zeroCells z0.cells (gcap - (els.length + els2.length))).toList N1.len N1.rep N2.rep i el f x hi hx
    refine ⟨u, ?_, r2, r3.drew⟩
    rw [← r1]
    simp only
    rw [← Array.getElem?_toList]
    simp) (some d) (.own d (gc + k) 0 (els ++ els2).length) (.slice (some ⟨w.heap.size, 0, none⟩) (els.length + els2.length) gcap) hd' (fun _ => ?_)
  ·exact wp_value (hrunop _ _ hr) ⟨_, hfin, hused _⟩
  ·refine .own _ _ _ _ _ _ _ (.inr rfl) (fun o ho => ?_)
   simp [RC.upd] at ho
   subst ho
   refine ⟨by simp, by simpa using hg1, hg2, (fun h => by cases h), lt_of_blt hpos, .inr ⟨w.heap.size, rfl, by simp, ?_⟩⟩
   rw [Nat.zero_add]
   simpa using Nat.le_of_eq hroom.symm
theorem ARun.append_ownS {t e b g n gen sz : Nat} {ti te : TI} {els els2 : List (List AV)} {rd : List (Nat × Blk)} (hx : evA fr x = .own b g 0 n) (hbk : lkH hp b = some ⟨gen, sz, els⟩) (hgg : gen = g) (hn : els.length = n) (hy : SrcA fr hp y te.size els2 rd) (ht : C.T t = some ti) (hk : ti.k = .slice e) (hte : C.T e = some te)
  (h1 : sz = te.size) (hpos : Nat.blt 0 te.size = true) (hzl : te.zero.length = te.size) (hb : (els.length + els2.length) * te.bytes ≤ 140737488355328) (hm : els.length + els2.length ≤ maxLen)
  (hd : Nat.blt d C.n = true) (hg : guardIs ops ⟨fr, hp, gc⟩ ⟨some d, .call ⟨.builtin .append, #[x, y], #[t, t]⟩, ty, pos, after, gd⟩ true)
  (nx : ARun C ops K (k + 1) rest ⟨(d, .own b (gc + k) 0 (els ++ els2).length) :: fr, (b, some ⟨gc + k, sz, els ++ els2⟩) :: hp, gc⟩ (fps ++ [(b :: rd.map (·.1), [b])])) :
  ARun C ops K k (⟨some d, .call ⟨.builtin .append, #[x, y], #[t, t]⟩, ty, pos, after, gd⟩ :: rest) ⟨fr, hp, gc⟩ fps := by
 refine ARun.step (.own b (gc + k) 0 (els ++ els2).length) ((b, ⟨gen, sz, els⟩) :: rd) [(b, some ⟨gc + k, sz, els ++ els2⟩)] hg (fun p hp' => by
  rcases List.mem_cons.1 hp' with rfl | h
  ·exact hbk
  ·exact hy.lie p h) ?_ nx
 subst hgg
 subst hn
 intro s c a w hS hf hargs hrd
 have hev : ∀ z ∈ #[x, y], Rep c w (evA fr z) (a.eval z) := by
  intro z hz
  have hz' : z ∈ (Op.call ⟨.builtin .append, #[x, y], #[t, t]⟩).operands.toList := by simpa [Op.operands, Call.operands] using hz
  rw [← args_ev hargs z hz']
  exact hS.ev z
 have hrx := hev x (by simp)
 have hry := hev y (by simp)
 rw [hx] at hrx
 obtain ⟨o, ho, hB⟩ := hS.hp b _ (hrd (b, ⟨gen, sz, els⟩) (by simp))
 have h0' := lt_of_blt hpos
 obtain ⟨hosz, hoz, holoc⟩ := hB.row (by rw [hB.sz]; simp only; omega)
 simp only at ho hosz hoz holoc
 obtain ⟨A2, cap2, news, N2, _, _, _⟩ := hy.news hS hry (fun p hp' => hrd p (by simp [hp']))
 have hd' := dst_lt hd
 have hin := und_slice ht hk
 obtain ⟨u0, i0, z0, hue, hie, hze, htee⟩ := ti_get hte
 have hsz0 : te.size = i0.size := by rw [htee]
 have hbb : (els.length + els2.length) * i0.bytes ≤ 140737488355328 := by rw [htee] at hb; exact hb
 have hzc : z0.cells.size = te.size := by
  rw [← hzl, htee]
  simp
 have hrunop : ∀ v' w', (Builtin.append_ #[t, t] ty #[a.eval x, a.eval y]).run C.P w = .ok v' w' → (execOp a.eval ⟨some d, .call ⟨.builtin .append, #[x, y], #[t, t]⟩, ty, pos, after, gd⟩).run C.P w = .ok (.value v') w' := by
  intro v' w' h
  simp [execOp, resolve, invoke, builtin, h]
 generalize hux : a.eval x = ux at hrx
 have hused : ∀ (o : OB) (g : Nat), (c.upd b (gc + k) o).used g → c.used g ∨ g = gc + k := fun o g h => h
 have hzz : ∀ el, el ∈ els ++ els2 → el.length = sz := by
  intro el hel
  rcases List.mem_append.1 hel with h | h
  ·exact hoz el h
  ·rw [h1]; exact N2.hsz el h
 cases hrx with
 | own _ _ _ _ A m cap hu hp' =>
  obtain ⟨rfl, k2, k3, k4, k0, k5⟩ := hp' o ho
  rw [hux, N2.val] at hrunop
  by_cases he2 : els2 = []
  ·subst he2
   have hr := run_append_zero ht hk hte w ty A A2 els.length cap cap2 k2
   refine wp_value (hrunop _ _ hr) ⟨_, hS.upd b ⟨gc + k, sz, els ++ []⟩ o (.inl hf) rfl rfl rfl (Nat.le_refl _) (fun _ _ _ => rfl) (fun β hβ => .inr ⟨gen, o, ho, hβ⟩) (fun hmono => ?_) (some d) _ _ hd' (fun _ _ => .own _ _ _ _ _ _ _ (.inr rfl) (fun o' ho' => ?_)), hused _⟩
   ·have : BlkRep c w ⟨gc + k, sz, els ++ []⟩ o := by
     rw [List.append_nil]
     exact .inl ⟨hosz, hoz, holoc⟩
    exact this.mono hmono (fun _ _ => rfl)
   ·simp [RC.upd] at ho'
    subst ho'
    rw [List.append_nil]
    exact ⟨rfl, k2, k3, k4, k0, k5⟩
  ·obtain ⟨ad2, hA2, hl2⟩ := N2.lie he2
   subst hA2
   have hpos2 : 0 < els2.length := List.length_pos_iff.2 he2
   -- the old cells
   have hold : ∃ olds : List Value, olds.length = els.length * sz ∧ (∀ (i : Nat) (el : List AV) (f : Nat) (x : AV), els[i]? = some el → el[f]? = some x → ∃ u, olds[i * sz + f]? = some u ∧ u.oneCell' = true ∧ Rep c w x u) ∧
     ∀ ad, A = some ad → ∀ j v, olds[j]? = some v → w.cell? (ad.add j) = some v := by
    rcases k5 with k5 | ⟨β, k5, k6, k7⟩
    ·subst k5
     have he : els = [] := List.eq_nil_of_length_eq_zero (by omega)
     subst he
     exact ⟨[], by simp, fun i el f x hi => by simp at hi, fun ad _ j v hv => by simp at hv⟩
    ·rw [k5] at holoc
     obtain ⟨cur, e', q1, q2, q3⟩ := holoc
     rw [Nat.zero_mul] at k6
     have hfit : els.length * sz ≤ cur.size := by
      have k8 := Nat.mul_le_mul_right sz k2
      rw [hosz, Nat.zero_add] at k7
      omega
     refine ⟨cur.toList.take (els.length * sz), (by have e : cur.toList.length = cur.size := Array.length_toList; rw [List.length_take, e]; omega), fun i el f x hi hx => ?_, fun ad had j v hv => ?_⟩
     ·obtain ⟨u, r1, r2, r3⟩ := q3 i el f x hi hx
      refine ⟨u, ?_, r2, r3⟩
      have h1' := (List.getElem?_eq_some_iff.1 hi).1
      have h2' := (List.getElem?_eq_some_iff.1 hx).1
      rw [hoz el (List.mem_of_getElem? hi)] at h2'
      have : (i + 1) * sz ≤ els.length * sz := Nat.mul_le_mul_right _ h1'
      rw [Nat.add_mul] at this
      rw [List.getElem?_take, if_pos (by omega)]
      simpa using r1
     ·rw [k6] at had
      obtain rfl := Option.some.inj had
      rw [add_lit, cell_row q1, Nat.zero_add]
      rw [List.getElem?_take] at hv
      split at hv
      ·simpa using hv
      ·cases hv
   obtain ⟨olds, o1, o2, o3⟩ := hold
   by_cases hfit : els.length + els2.length ≤ cap
   ·-- there is room
    rcases k5 with k5 | ⟨β, k5, k6, k7⟩
    ·omega
    rw [k5] at holoc
    obtain ⟨cur, e', q1, q2, q3⟩ := holoc
    rw [Nat.zero_mul] at k6
    subst k6
    have hcs : cap * sz ≤ cur.size := by rw [hosz, Nat.zero_add] at k7; omega
    have hfit' : els.length * i0.size + news.length ≤ cur.size := by
     rw [N2.len, ← hsz0, ← h1, ← Nat.add_mul]
     exact Nat.le_trans (Nat.mul_le_mul_right _ hfit) hcs
    have hr := run_append_room' w t ty e e' i0 hin hie β els.length cap cur q1 ad2 els2.length cap2 news (by rw [N2.len, hsz0]) hl2 N2.one hfit hfit'
    refine wp_value (hrunop _ _ hr) ⟨_, hS.upd (w' := w.setRow β _) b ⟨gc + k, sz, els ++ els2⟩ o (.inl hf) rfl rfl rfl (by simp) (fun β' _ hne => setRow_other w β β' _ (fun e => hne (by rw [k5, e]))) (fun β' hβ => .inr ⟨gen, o, ho, hβ⟩) (fun hmono => .inl ⟨hosz, hzz, ?_⟩) (some d) _ _ hd' (fun _ _ => .own _ _ _ _ _ _ _ (.inr rfl) (fun o' ho' => ?_)), hused _⟩
    ·rw [k5]
     simp only
     refine row_intro (e := e') q1 q2 ?_ (fun i el f x hi hx => ?_)
     ·simp only [List.size_toArray, List.length_append, List.length_take, List.length_drop]
      have e1 : cur.toList.length = cur.size := Array.length_toList
      rw [e1, ← q2]
      omega
     ·have e1 : cur.toList.length = cur.size := Array.length_toList
      have hget : ∀ j, (cur.toList.take (els.length * i0.size) ++ news ++ cur.toList.drop (els.length * i0.size + news.length)).toArray[j]? = if j < els.length * i0.size then cur.toList[j]? else if j < els.length * i0.size + news.length then news[j - els.length * i0.size]? else cur.toList[j]? := by
       intro j
       rw [List.getElem?_toArray, list_over _ _ _ (by rw [e1]; exact hfit') j]
      rw [hget]
      have hs : els.length * i0.size = els.length * sz := by rw [← hsz0, h1]
      rcases Nat.lt_or_ge i els.length with h | h
      ·rw [List.getElem?_append_left h] at hi
       obtain ⟨u, r1, r2, r3⟩ := q3 i el f x hi hx
       have h2' := (List.getElem?_eq_some_iff.1 hx).1
       rw [hoz el (List.mem_of_getElem? hi)] at h2'
       have : (i + 1) * sz ≤ els.length * sz := Nat.mul_le_mul_right _ h
       rw [Nat.add_mul] at this
       rw [if_pos (by omega)]
       exact ⟨u, by simpa using r1, r2, r3.mono hmono⟩
      ·rw [List.getElem?_append_right h] at hi
       obtain ⟨u, r1, r2, r3⟩ := N2.rep _ el f x hi hx
       rw [← h1] at r1
       have hlt := (List.getElem?_eq_some_iff.1 r1).1
       have hge : els.length * sz ≤ i * sz := Nat.mul_le_mul_right _ h
       have e2 : i * sz + f - els.length * sz = (i - els.length) * sz + f := by rw [Nat.sub_mul]; omega
       rw [if_neg (by omega), if_pos (by omega), show i * sz + f - els.length * i0.size = (i - els.length) * sz + f by omega]
       exact ⟨u, r1, r2, r3.mono hmono⟩
    ·simp [RC.upd] at ho'
     subst ho'
     refine ⟨by simp, by simpa using hfit, k3, (fun h => by cases h), k0, .inr ⟨β, k5, by simp, k7⟩⟩
   ·-- it grows
    have grow : ∃ v' w', (Builtin.append_ #[t, t] ty #[.slice A els.length cap, .slice (some ad2) els2.length cap2]).run C.P w = .ok v' w' ∧ ∃ gcap, v' = .slice (some ⟨w.heap.size, 0, none⟩) (els.length + els2.length) gcap ∧ els.length + els2.length ≤ gcap ∧ gcap ≤ maxLen ∧
      w' = w.drew.alloc (.cells (olds.toArray ++ news.toArray ++ Builtin.zeroCells z0.cells (gcap - (els.length + els2.length))) e) := by
     cases A with
     | none =>
      have hc0 := k4 rfl
      subst hc0
      have he : els = [] := List.eq_nil_of_length_eq_zero (by omega)
      subst he
      have ho' : olds = [] := List.eq_nil_of_length_eq_zero (by rw [o1]; simp)
      subst ho'
      have hr := run_append_nil (P := C.P) w t ty e i0 z0 hin hie hze ad2 els2.length cap2 news (by rw [N2.len, hsz0]) hl2 hpos2 (by simp only [maxLen, List.length_nil] at hm; omega) (by simp only [List.length_nil, Nat.zero_add] at hbb; omega)
      refine ⟨_, _, hr, _, by simp, by simpa using grownCap_ge w els2.length 0 e, grownCap_le_maxLen w els2.length 0 e (by simpa using hm), by simp⟩
     | some ad =>
      have hr := run_append_grow (P := C.P) w t ty e i0 z0 hin hie hze ad els.length cap olds (by rw [o1, h1, hsz0]) (o3 ad rfl) ad2 els2.length cap2 news (by rw [N2.len, hsz0]) hl2 (by omega) (by simp only [maxLen] at hm; omega) (growslice_fits (by omega) hbb)
      exact ⟨_, _, hr, _, rfl, grownCap_ge w _ _ e, grownCap_le_maxLen w _ _ e hm, rfl⟩
    obtain ⟨v', w', hr, gcap, rfl, hg1, hg2, rfl⟩ := grow
    have hroom : (olds.toArray ++ news.toArray ++ Builtin.zeroCells z0.cells (gcap - (els.length + els2.length))).size = gcap * sz := by
     simp only [Array.size_append, List.size_toArray, size_zeroCells, hzc, o1, N2.len, ← h1, ← Nat.add_mul]
     congr 1
     omega
    have hfin := hS.drew.newBlk b ⟨gc + k, sz, els ++ els2⟩ (olds.toArray ++ news.toArray ++ Builtin.zeroCells z0.cells (gcap - (els.length + els2.length))) e hf hzz (fun i el f x hi hx => by
      obtain ⟨u, r1, r2, r3⟩ := grown_rep (c := c) (w := w) (sz := sz) (Builtin.zeroCells z0.cells (gcap - (els.length + els2.length))).toList o1 o2 (by rw [h1]; exact N2.rep) i el f x hi hx
      refine ⟨u, ?_, r2, r3.drew⟩
      rw [← r1]
      simp only
      rw [← Array.getElem?_toList]
      simp) (some d) (.own b (gc + k) 0 (els ++ els2).length) (.slice (some ⟨w.heap.size, 0, none⟩) (els.length + els2.length) gcap) hd' (fun _ => ?_)
    ·exact wp_value (hrunop _ _ hr) ⟨_, hfin, hused _⟩
    ·refine .own _ _ _ _ _ _ _ (.inr rfl) (fun o ho => ?_)
     simp [RC.upd] at ho
     subst ho
     refine ⟨by simp, by simpa using hg1, hg2, (fun h => by cases h), (by simp only; omega), .inr ⟨w.heap.size, rfl, by simp, ?_⟩⟩
     rw [Nat.zero_add]
     simpa using Nat.le_of_eq hroom.symm
end
end Go.Proofs.Ytkmlmboclegpcaa
namespace Go.Proofs.Ytkmlmboclegpcaa
open Go Go.RowKit
inductive Fz (bs : List (Nat × Blk)) : AV → AV → Prop where
 | wk {v v' : AV} (h : Wk v v') : Fz bs v v'
 | own {b : Nat} {blk : Blk} (h : (b, blk) ∈ bs) : Fz bs (.own b blk.gen 0 blk.els.length) (.sl blk.sz false blk.els)
 | agg {es es' : List AV} (hl : es'.length = es.length) (hr : ∀ (i : Nat) (x x' : AV), es[i]? = some x → es'[i]? = some x' → Fz bs x x') : Fz bs (.agg es) (.agg es')
 | ptr {b i : Nat} {blk : Blk} {el : List AV} (h : (b, blk) ∈ bs) (he : blk.els[i]? = some el) : Fz bs (.ptr b blk.gen i 0) (.rp el)
 | clo {f : Fn} {first first' cap cap' : List AV} (hl : first'.length = first.length) (hr : ∀ (i : Nat) (x x' : AV), first[i]? = some x → first'[i]? = some x' → Fz bs x x') (hl' : cap'.length = cap.length) (hr' : ∀ (i : Nat) (x x' : AV), cap[i]? = some x → cap'[i]? = some x' → Fz bs x x') : Fz bs (.clo f first cap) (.clo f first' cap')
def FzL (bs : List (Nat × Blk)) (es es' : List AV) : Prop := es'.length = es.length ∧ ∀ (i : Nat) (x x' : AV), es[i]? = some x → es'[i]? = some x' → Fz bs x x'
theorem FzL.nil (bs : List (Nat × Blk)) : FzL bs [] [] := ⟨rfl, fun i x x' h => by simp at h⟩
theorem FzL.cons {bs : List (Nat × Blk)} {x x' : AV} {es es' : List AV} (h : Fz bs x x') (t : FzL bs es es') : FzL bs (x :: es) (x' :: es') :=
 ⟨by simp [t.1], fun i y y' hy hy' => by
  cases i with
  | zero =>
   simp only [List.getElem?_cons_zero, Option.some.injEq] at hy hy'
   subst hy
   subst hy'
   exact h
  | succ i => exact t.2 i y y' (by simpa using hy) (by simpa using hy')⟩
theorem Fz.aggL {bs : List (Nat × Blk)} {es es' : List AV} (h : FzL bs es es') : Fz bs (.agg es) (.agg es') := .agg h.1 h.2
theorem Fz.cloL {bs : List (Nat × Blk)} {f : Fn} {first first' cap cap' : List AV} (h : FzL bs first first') (h' : FzL bs cap cap') : Fz bs (.clo f first cap) (.clo f first' cap') := .clo h.1 h.2 h'.1 h'.2
theorem Fz.ptr1 {bs : List (Nat × Blk)} {b g gen i sz : Nat} {els : List (List AV)} {el : List AV} (h : (b, ⟨gen, sz, els⟩) ∈ bs) (hg : gen = g) (he : els[i]? = some el) : Fz bs (.ptr b g i 0) (.rp el) := by
 subst hg
 exact .ptr (blk := ⟨gen, sz, els⟩) h he
theorem Fz.same {bs : List (Nat × Blk)} (v : AV) : Fz bs v v := .wk (.same v)
theorem Fz.own1 {bs : List (Nat × Blk)} {b g gen n sz : Nat} {els : List (List AV)} (h : (b, ⟨gen, sz, els⟩) ∈ bs) (hg : gen = g) (hn : els.length = n) : Fz bs (.own b g 0 n) (.sl sz false els) := by
 subst hg
 subst hn
 exact .own h
def BsOk (hp : List (Nat × Option Blk)) (bs : List (Nat × Blk)) : Prop := ∀ p, p ∈ bs → lkH hp p.1 = some p.2 ∧ ∀ el x, el ∈ p.2.els → x ∈ el → Closed x
theorem BsOk.nil (hp : List (Nat × Option Blk)) : BsOk hp [] := fun p h => by cases h
theorem BsOk.cons {hp : List (Nat × Option Blk)} {b : Nat} {blk : Blk} {bs : List (Nat × Blk)} (h : lkH hp b = some blk) (hc : ∀ el x, el ∈ blk.els → x ∈ el → Closed x) (t : BsOk hp bs) : BsOk hp ((b, blk) :: bs) := fun p hp' => by
 rcases List.mem_cons.1 hp' with rfl | h'
 ·exact ⟨h, hc⟩
 ·exact t p h'
def RC.froze (c : RC) (bs : List (Nat × Blk)) : RC := ⟨fun b g => if b ∈ bs.map (·.1) then none else c.own b g, c.used, fun β => c.st β ∨ ∃ p, p ∈ bs ∧ ∃ o, c.own p.1 p.2.gen = some o ∧ o.loc = some β⟩
theorem RC.froze_mono (c : RC) (bs : List (Nat × Blk)) (w : World) : Mono c (c.froze bs) w w := ⟨fun β hb => ⟨.inl hb, rfl⟩, fun g hg => hg, fun b g o _ ho => by
 simp only [RC.froze] at ho
 split at ho
 ·cases ho
 ·exact ho⟩
theorem Sim.froze {C : ACtx} {s : AS} {c : RC} {a : Act} {w : World} (hS : Sim C s c a w) (bs : List (Nat × Blk)) (h : ∀ p, p ∈ bs → lkH s.hp p.1 = some p.2) : Sim C ⟨s.fr, bs.map (fun p => (p.1, none)) ++ s.hp, s.gc⟩ (c.froze bs) a w := by
 have hm := c.froze_mono bs w
 have hlk : ∀ b, b ∈ bs.map (·.1) → lkH (bs.map (fun p => (p.1, (none : Option Blk))) ++ s.hp) b = none := by
  intro b hb
  clear h hm
  induction bs with
  | nil => cases hb
  | cons p bs ih =>
   rw [List.map_cons, List.cons_append, lkH_cons]
   split
   ·rfl
   ·rename_i hne
    rcases List.mem_cons.1 hb with h | h
    ·exact absurd h hne
    ·exact ih h
 have hlk' : ∀ b, b ∉ bs.map (·.1) → lkH (bs.map (fun p => (p.1, (none : Option Blk))) ++ s.hp) b = lkH s.hp b := by
  intro b hb
  refine lkH_append _ _ _ (fun p hp e => hb ?_)
  obtain ⟨q, hq, rfl⟩ := List.mem_map.1 hp
  exact List.mem_map.2 ⟨q, hq, e⟩
 refine ⟨hS.nd.step hm.st, hS.sz, fun t => (hS.fr t).mono hm, fun b blk hb => ?_, fun b g o ho => ?_, fun b1 g1 o1 b2 g2 o2 β q1 q2 q3 q4 => ?_, fun β hβ => ?_, fun β hβ => .inl (hS.st0 β hβ), hS.old, hS.mo.trans hm⟩
 ·simp only at hb
  by_cases hin : b ∈ bs.map (·.1)
  ·rw [hlk b hin] at hb; cases hb
  ·rw [hlk' b hin] at hb
   obtain ⟨o, q1, q2⟩ := hS.hp b blk hb
   exact ⟨o, by simp only [RC.froze]; rw [if_neg hin]; exact q1, q2.mono hm (fun _ _ => rfl)⟩
 ·simp only [RC.froze] at ho
  split at ho
  ·cases ho
  ·rename_i hin
   obtain ⟨q1, ⟨blk, q2, q3⟩, q4⟩ := hS.al b g o ho
   refine ⟨q1, ⟨blk, (hlk' b hin).trans q2, q3⟩, fun β hβ => ?_⟩
   obtain ⟨r1, r2, r3⟩ := q4 β hβ
   refine ⟨r1, fun hs => ?_, r3⟩
   rcases hs with hs | ⟨p, hp, o', ho', hl'⟩
   ·exact r2 hs
   ·have := (hS.inj b g o p.1 p.2.gen o' β ho ho' hβ hl').1
    exact hin (List.mem_map.2 ⟨p, hp, this.symm⟩)
 ·simp only [RC.froze] at q1 q2
  split at q1
  ·cases q1
  ·split at q2
   ·cases q2
   ·exact hS.inj b1 g1 o1 b2 g2 o2 β q1 q2 q3 q4
 ·rcases hβ with hβ | ⟨p, hp, o, ho, hl⟩
  ·exact hS.st β hβ
  ·obtain ⟨r1, r2, r3⟩ := (hS.al p.1 p.2.gen o ho).2.2 β hl
   exact ⟨r1, .inr r3⟩
theorem Fz.rep {C : ACtx} {s : AS} {c : RC} {a : Act} {w : World} (hS : Sim C s c a w) {bs : List (Nat × Blk)} (h : BsOk s.hp bs) {v v' : AV} (hf : Fz bs v v') : ∀ {u : Value}, Rep c w v u → Rep (c.froze bs) w v' u := by
 induction hf with
 | wk h => exact fun r => (h.rep r).mono (c.froze_mono bs w)
 | @own b blk hb =>
  intro u r
  obtain ⟨gen, sz, els⟩ := blk
  obtain ⟨h1, h2⟩ := h _ hb
  exact own_to_sl hS h1 h2 (fun β hβ => .inl hβ) (fun o β ho hβ => .inr ⟨_, hb, o, ho, hβ⟩) r
 | @agg es es' hl _ ih =>
  intro u r
  cases r with
  | agg _ us hl' h1 hr =>
   refine .agg es' us (hl'.trans hl.symm) h1 (fun i x' u hx hu => ?_)
   have hi : i < es.length := by rw [← hl]; exact (List.getElem?_eq_some_iff.1 hx).1
   exact ih i es[i] x' (List.getElem?_eq_getElem hi) hx (hr i _ u (List.getElem?_eq_getElem hi) hu)
 | @ptr b i blk el hb he =>
  intro u r
  obtain ⟨gen, sz, els⟩ := blk
  obtain ⟨h1, h2⟩ := h _ hb
  obtain ⟨o, k0, hB⟩ := hS.hp b _ h1
  simp only at k0 he
  cases r with
  | ptr _ _ _ _ β off hu hp =>
   obtain ⟨k1, k2, k3⟩ := hp o k0
   obtain ⟨q2, q3, q4⟩ := hB.row k3
   simp only at q2 q3 q4
   rw [k1] at q4
   obtain ⟨cur, e, y1, y2, y3⟩ := q4
   rw [q2, Nat.add_zero] at k2
   subst k2
   refine .rp el β (i * sz) (fun f => (cur[i * sz + f]?).getD undef) (fun _ => .inr ⟨_, hb, o, k0, k1⟩) (fun f x hx => ?_) (fun f x hx => ?_)
   ·obtain ⟨v, r1, r2, r3⟩ := y3 i el f x he hx
    rw [r1]
    exact ⟨(cell_row y1).trans r1, r2⟩
   ·obtain ⟨v, r1, r2, r3⟩ := y3 i el f x he hx
    rw [r1]
    exact r3.closed (h2 el x (List.mem_of_getElem? he) (List.mem_of_getElem? hx)) _ (fun β hb => ⟨.inl hb, rfl⟩)
 | @clo f first first' cap cap' hl _ hl' _ ih ih' =>
  intro u r
  cases r with
  | clo _ _ _ us vs k1 k2 k3 k4 =>
   refine .clo f first' cap' us vs (k1.trans hl.symm) (k2.trans hl'.symm) (fun i x' u hx hu => ?_) (fun i x' u hx hu => ?_)
   ·have hi : i < first.length := by rw [← hl]; exact (List.getElem?_eq_some_iff.1 hx).1
    exact ih i first[i] x' (List.getElem?_eq_getElem hi) hx (k3 i _ u (List.getElem?_eq_getElem hi) hu)
   ·have hi : i < cap.length := by rw [← hl']; exact (List.getElem?_eq_some_iff.1 hx).1
    exact ih' i cap[i] x' (List.getElem?_eq_getElem hi) hx (k4 i _ u (List.getElem?_eq_getElem hi) hu)
def FnO (P : Program) (f : FuncId) (args : List AV) (sz : Nat) (els : List (List AV)) (res : Nat → Nat → AV) : Prop :=
 (∀ (vs : Array Value) (w : World), (callFunc f vs).run P w = .ok (.enter f vs) w) ∧
 ∀ (w : World) (st : Nat → Prop) (vs : List Value), (∀ β, st β → β < w.heap.size) → vs.length = args.length → (∀ (i : Nat) (x : AV) (u : Value), args[i]? = some x → vs[i]? = some u → Rep (RC.pure st) w x u) →
  Calls P f vs.toArray w (fun e w' => ∃ r St o, e = .returned r ∧ Below w.heap.size w w' ∧ (∀ β, st β → St β) ∧ (∀ β, St β → st β ∨ (w.heap.size ≤ β ∧ β < w'.heap.size)) ∧
   (∀ β, o.loc = some β → (w.heap.size ≤ β ∧ β < w'.heap.size) ∧ ¬ St β) ∧ ∀ (own : Nat → Nat → Option OB) (used : Nat → Prop) b g, own b g = some o → used g → RowRep ⟨own, used, St⟩ w' ⟨g, sz, els⟩ o ∧ Rep ⟨own, used, St⟩ w' (res b g) r)
inductive ResO (b0 g0 : Nat) : AV → (Nat → Nat → AV) → Prop where
 | closed {v : AV} (h : Closed v) : ResO b0 g0 v (fun _ _ => v)
 | own (lo n : Nat) : ResO b0 g0 (.own b0 g0 lo n) (fun b g => .own b g lo n)
theorem ResO.rep {b0 g0 : Nat} {v : AV} {v' : Nat → Nat → AV} (h : ResO b0 g0 v v') {c : RC} {w : World} {o : OB} (ho : c.own b0 g0 = some o) : ∀ {u : Value}, Rep c w v u → ∀ (own : Nat → Nat → Option OB) (used : Nat → Prop) b g, own b g = some o → used g → Rep ⟨own, used, c.st⟩ w (v' b g) u := by
 induction h with
 | closed hc => exact fun r own used b g _ _ => r.closed hc _ (fun β hb => ⟨hb, rfl⟩)
 | own lo n =>
  intro u r own used b g hb hg
  cases r with
  | own _ _ _ _ A m cap hu hp =>
   refine .own b g lo n A m cap hg (fun q hq => ?_)
   have hq' : own b g = some q := hq
   rw [hb] at hq'
   obtain rfl := Option.some.inj hq'
   exact hp _ ho
inductive ResOL (s : AS) (b0 g0 : Nat) : List ResultVar → List AV → List (Nat → Nat → AV) → Prop where
 | nil : ResOL s b0 g0 [] [] []
 | cons {t : Nat} {v : AV} {v' : Nat → Nat → AV} {rs : List ResultVar} {vs : List AV} {vs' : List (Nat → Nat → AV)} (hv : lkA s.fr t = v) (h : ResO b0 g0 v v') (t' : ResOL s b0 g0 rs vs vs') : ResOL s b0 g0 (.tmp t :: rs) (v :: vs) (v' :: vs')
theorem ResOL.run {C : ACtx} {s : AS} {c : RC} {a : Act} {w : World} (hS : Sim C s c a w) {b0 g0 : Nat} {o : OB} (ho : c.own b0 g0 = some o) {rs : List ResultVar} {vs : List AV} {vs' : List (Nat → Nat → AV)} (h : ResOL s b0 g0 rs vs vs') :
  ∃ us : List Value, (rs.mapM (resOne a.tmps)).run C.P w = .ok us w ∧ us.length = vs'.length ∧ ∀ (i : Nat) (x : Nat → Nat → AV) (u : Value), vs'[i]? = some x → us[i]? = some u → ∀ (own : Nat → Nat → Option OB) (used : Nat → Prop) b g, own b g = some o → used g → Rep ⟨own, used, c.st⟩ w (x b g) u := by
 induction h with
 | nil => exact ⟨[], by simp, rfl, fun i x u h => by simp at h⟩
 | @cons t v v' rs vs vs' hv h _ ih =>
  obtain ⟨us, g1, g2, g3⟩ := ih
  refine ⟨a.tmps.getD t undef :: us, ?_, by simp [g2], fun i x z hx hz => ?_⟩
  ·have : (resOne a.tmps (.tmp t)).run C.P w = .ok (a.tmps.getD t undef) w := rfl
   rw [List.mapM_cons]
   simp [Sem.run_bind, this, g1]
  ·cases i with
   | zero =>
    simp only [List.getElem?_cons_zero, Option.some.injEq] at hx hz
    subst hx
    subst hz
    have := hS.fr t
    rw [hv] at this
    exact h.rep ho this
   | succ i => exact g3 i x z (by simpa using hx) (by simpa using hz)
def retO (rs : Array ResultVar) (sz : Nat) (els : List (List AV)) (res : Nat → Nat → AV) : Exit → AS → Prop
 | .normal, s => ∃ b0 g0 vs vs', lkH s.hp b0 = some ⟨g0, sz, els⟩ ∧ ResOL s b0 g0 rs.toList vs vs' ∧ ∀ b g, res b g = retAV (vs'.map fun f => f b g)
 | .ret, s => ∃ b0 g0 vs vs', lkH s.hp b0 = some ⟨g0, sz, els⟩ ∧ ResOL s b0 g0 rs.toList vs vs' ∧ ∀ b g, res b g = retAV (vs'.map fun f => f b g)
 | _, _ => False
theorem FnO.of_awp {P : Program} {T : Nat → Option TI} {ok : ∀ t ti, T t = some ti → tiOf P t = some ti} {f : FuncId} {fn : Func} {code : Code} {args : List AV} {sz : Nat} {els : List (List AV)} {res : Nat → Nat → AV} (hf : P.funcs[f]? = some fn)
  (hn : (fn.name == "runtime.NumGoroutine") = false) (hb : fn.body = some code) (hlen : Nat.ble args.length fn.ntmps = true) (hcl : ∀ x, x ∈ args → Closed x) (hsz : Nat.blt 0 sz = true) (hels : ∀ el x, el ∈ els → x ∈ el → Closed x)
  (h : ∀ (w0 : World) (st0 : Nat → Prop), awp ⟨P, T, ok, fn.ntmps, w0, st0, fun _ => False, (none, false), RC.bare st0⟩ code ⟨frOf 0 args, [], 0⟩ (retO fn.results sz els res)) : FnO P f args sz els res := by
 refine ⟨fun vs w => ?_, fun w st vs hst hl hr => ?_⟩
 ·have hn' : ¬ fn.name = "runtime.NumGoroutine" := by simpa using hn
  simp [callFunc, hf, hn', hb]
 ·refine (callsIn_wide (n := 0)).1 (callsIn_of_wp_marks hf hb trivial ?_)
  have hle := Nat.le_of_ble_eq_true hlen
  have hS : SimE ⟨P, T, ok, fn.ntmps, w, st, fun _ => False, (none, false), RC.bare st⟩ ⟨frOf 0 args, [], 0⟩ { tmps := vs.toArray ++ Array.replicate (fn.ntmps - vs.toArray.size) undef, defers := [] } w := by
   refine ⟨⟨fun _ _ => none, fun _ => False, st⟩, ⟨Nd.nil _ _ _ _, by simp; omega, fun t => ?_, fun b blk hb => by simp [lkH] at hb, fun b g o ho => by simp at ho, fun b g o b' g' o' β h => by simp at h, fun β hb => ⟨hst β hb, .inl hb⟩, fun β hb => hb, Old.refl _ _, Mono.refl _ _⟩, fun g hg => hg.elim⟩
   simp only
   rw [lk_frOf]
   simp only [Nat.zero_le, if_true, Nat.sub_zero]
   cases hx : args[t]? with
   | none => exact .dead _
   | some x =>
    have ht : t < vs.length := by rw [hl]; exact (List.getElem?_eq_some_iff.1 hx).1
    have : (vs.toArray ++ Array.replicate (fn.ntmps - vs.toArray.size) undef).getD t undef = vs[t] := by
     simp [Array.getD_eq_getD_getElem?, Array.getElem?_append, ht]
    rw [this]
    have := hr t x vs[t] hx (List.getElem?_eq_getElem ht)
    simp only [Option.getD_some]
    exact this.closed (hcl x (List.mem_of_getElem? hx)) _ (fun β hb => ⟨hb, rfl⟩)
  refine wpIn_mono (h w st _ w hS) (fun e a' w' ⟨s', ⟨c', hS', _⟩, hq⟩ => ?_)
  have fin0 : ∀ (w2 : World) (c2 : RC), Sim ⟨P, T, ok, fn.ntmps, w, st, fun _ => False, (none, false), RC.bare st⟩ s' c2 { a' with defers := [] } w2 → (∃ b0 g0 vs vs', lkH s'.hp b0 = some ⟨g0, sz, els⟩ ∧ ResOL s' b0 g0 fn.results.toList vs vs' ∧ ∀ b g, res b g = retAV (vs'.map fun f => f b g)) → ∃ v, (results fn a'.tmps).run P w2 = .ok v w2 ∧ ∃ r St o, Ending.returned v = .returned r ∧ Below w.heap.size w w2 ∧ (∀ β, st β → St β) ∧ (∀ β, St β → st β ∨ (w.heap.size ≤ β ∧ β < w2.heap.size)) ∧
   (∀ β, o.loc = some β → (w.heap.size ≤ β ∧ β < w2.heap.size) ∧ ¬ St β) ∧ ∀ (own : Nat → Nat → Option OB) (used : Nat → Prop) b g, own b g = some o → used g → RowRep ⟨own, used, St⟩ w2 ⟨g, sz, els⟩ o ∧ Rep ⟨own, used, St⟩ w2 (res b g) r := by
   intro w' c' hS' ⟨b0, g0, vs', vs2, hb0, hv, he⟩
   obtain ⟨o, ho, hB⟩ := hS'.hp b0 _ hb0
   simp only at ho
   obtain ⟨us, g1, g2, g3⟩ := hv.run hS' ho
   obtain ⟨_, _, hal⟩ := hS'.al b0 g0 o ho
   have h0 := lt_of_blt hsz
   have hR := hB.row (by rw [hB.sz]; exact h0)
   refine ⟨retV us, run_results g1, retV us, c'.st, o, rfl, ⟨hS'.old.os, hS'.old.tape, hS'.old.output, hS'.old.size, fun k hk => hS'.old.block k hk (fun h => h)⟩, fun β hb => hS'.st0 β hb, fun β hb => ?_, fun β hβ => ?_, fun own used b g hb hg => ⟨?_, ?_⟩⟩
   ·obtain ⟨k1, k2 | k2 | k2⟩ := hS'.st β hb
    ·exact .inl k2
    ·exact .inr ⟨k2, k1⟩
    ·exact k2.elim
   ·obtain ⟨k1, k2, k3 | k3⟩ := hal β hβ
    ·exact ⟨⟨k3, k1⟩, k2⟩
    ·exact k3.elim
   ·obtain ⟨r1, r2, r3⟩ := hR
    refine ⟨r1, r2, ?_⟩
    cases hl : o.loc with
    | none => rw [hl] at r3; exact r3
    | some β =>
     rw [hl] at r3
     obtain ⟨cur, e, q1, q2, q3⟩ := r3
     refine ⟨cur, e, q1, q2, fun i el f x hi hx => ?_⟩
     obtain ⟨u, k1, k2, k3⟩ := q3 i el f x hi hx
     exact ⟨u, k1, k2, k3.closed (hels el x (List.mem_of_getElem? hi) (List.mem_of_getElem? hx)) _ (fun β hb => ⟨hb, rfl⟩)⟩
   ·rw [he]
    have one : ∀ (l : List (Nat → Nat → AV)) (l' : List Value), l'.length = l.length → (∀ (i : Nat) (x : Nat → Nat → AV) (u : Value), l[i]? = some x → l'[i]? = some u → Rep ⟨own, used, c'.st⟩ w' (x b g) u) → Rep ⟨own, used, c'.st⟩ w' (retAV (l.map fun f => f b g)) (retV l') := by
     intro l l' hl' hr'
     have one2 : ∀ (l : List AV) (l' : List Value), l'.length = l.length → (∀ (i : Nat) (x : AV) (u : Value), l[i]? = some x → l'[i]? = some u → Rep ⟨own, used, c'.st⟩ w' x u) → Rep ⟨own, used, c'.st⟩ w' (retAV l) (retV l') := by
      intro l l' hl' hr'
      match l, l', hl' with
      | [], [], _ => exact .tup [] [] rfl hr'
      | [x], [u], _ => exact hr' 0 x u rfl rfl
      | x :: y :: l, u :: v :: l', h' => exact .tup _ _ h' hr'
     refine one2 _ l' (by rw [List.length_map]; exact hl') (fun i x u hx hu => ?_)
     rw [List.getElem?_map] at hx
     cases hi : l[i]? with
     | none => rw [hi] at hx; cases hx
     | some y =>
      rw [hi] at hx
      obtain rfl := Option.some.inj hx
      exact hr' i y u hi hu
    exact one vs2 us g2 (fun i x u hx hu => g3 i x u hx hu own used b g hb hg)
  have fin : (∃ b0 g0 vs vs', lkH s'.hp b0 = some ⟨g0, sz, els⟩ ∧ ResOL s' b0 g0 fn.results.toList vs vs' ∧ ∀ b g, res b g = retAV (vs'.map fun f => f b g)) → LeavesInM Fence.wide 0 P fn a'.tmps (fun e w' => ∃ r St o, e = .returned r ∧ Below w.heap.size w w' ∧ (∀ β, st β → St β) ∧ (∀ β, St β → st β ∨ (w.heap.size ≤ β ∧ β < w'.heap.size)) ∧
   (∀ β, o.loc = some β → (w.heap.size ≤ β ∧ β < w'.heap.size) ∧ ¬ St β) ∧ ∀ (own : Nat → Nat → Option OB) (used : Nat → Prop) b g, own b g = some o → used g → RowRep ⟨own, used, St⟩ w' ⟨g, sz, els⟩ o ∧ Rep ⟨own, used, St⟩ w' (res b g) r) a'.defers .returning w' := by
   intro hv
   refine leavesM a'.defers w' hS'.nd (fun w1 k1 k2 k3 k4 k5 => ?_)
   exact fin0 w1 _ (hS'.shut (w1 := w1) (fun β => ({ target := .collected β, args := #[] } : Deferred) ∈ a'.defers) (fun β hβ => by
    obtain ⟨D, g1, g2, g3, g4⟩ := hS'.nd.at_ _ hβ
    obtain rfl : β = D := by cases g1; rfl
    exact ⟨g2, g3, _, g4⟩) k1 k2 k3 k4 k5 (fun β hb => hst β hb) (fun β hb => hst β hb)) hv
  cases e <;> first
   | exact fin hq
   | exact hq.elim
section
variable {C : ACtx} {ops : Array Oper} {K : AS → List (List Nat × List Nat) → Prop} {k : Nat} {rest : List Oper} {fr : List (Nat × AV)} {hp : List (Nat × Option Blk)} {gc : Nat} {fps : List (List Nat × List Nat)}
 {d : Nat} {ty : TypeId} {pos : String} {after : Array Edge} {gd : Option (Nat × Bool)} {x y z : Operand} {v : AV}
theorem call_args {s : AS} {c : RC} {a : Act} {w : World} (hS : Sim C s c a w) {fx : Operand} {args : Array Operand} {ats : Array TypeId} {f : FuncId} {avs : List AV} {bs : List (Nat × Blk)} (hf : evA fr fx = .val (.func (.func f) #[] #[])) (ha : FzL bs (args.toList.map (evA fr)) avs) (hb : BsOk s.hp bs)
  (hargs : ((Op.call ⟨.value fx, args, ats⟩).operands.toList).map s.ev = ((Op.call ⟨.value fx, args, ats⟩).operands.toList).map (evA fr)) :
  a.eval fx = .func (.func f) #[] #[] ∧ (args.toList.map a.eval).length = avs.length ∧ ∀ (i : Nat) (x : AV) (u : Value), avs[i]? = some x → (args.toList.map a.eval)[i]? = some u → Rep (RC.pure (c.froze bs).st) w x u := by
 have hev : ∀ z ∈ #[fx] ++ args, Rep c w (evA fr z) (a.eval z) := by
  intro z hz
  have hz' : z ∈ (Op.call ⟨.value fx, args, ats⟩).operands.toList := by simpa [Op.operands, Call.operands] using hz
  rw [← args_ev hargs z hz']
  exact hS.ev z
 have h1 := hev fx (by simp)
 rw [hf] at h1
 refine ⟨h1.val_inv, by rw [ha.1, List.length_map, List.length_map], fun i x u hx hu => ?_⟩
 rw [List.getElem?_map] at hu
 cases hi : args.toList[i]? with
 | none => rw [hi] at hu; cases hu
 | some z =>
  rw [hi] at hu
  simp only [Option.map_some, Option.some.injEq] at hu
  subst hu
  have h2 := hev z (Array.mem_append.2 (.inr (Array.mem_toList_iff.1 (List.mem_of_getElem? hi))))
  have h3 := ha.2 i (evA fr z) x (by rw [List.getElem?_map, hi]; rfl) hx
  exact (h3.rep hS hb h2).mono (c := c.froze bs) (c' := RC.pure (c.froze bs).st) (w' := w) (Mono.mk (fun β hb => ⟨hb, rfl⟩) (fun _ _ => trivial) (fun b g o _ h => by cases h))
theorem call_run {a : Act} {w : World} {fx : Operand} {args : Array Operand} {ats : Array TypeId} {f : FuncId} {dst : Option Nat} (h1 : a.eval fx = .func (.func f) #[] #[]) (F1 : ∀ (vs : Array Value) (w : World), (callFunc f vs).run C.P w = .ok (.enter f vs) w) :
  (execOp a.eval ⟨dst, .call ⟨.value fx, args, ats⟩, ty, pos, after, gd⟩).run C.P w = .ok (.enter f (args.toList.map a.eval).toArray) w := by
 have : (args.toList.map a.eval).toArray = args.map a.eval := by
  apply Array.ext'
  rw [Array.toList_map]
 rw [this]
 simp [execOp, resolve, h1, Deferred.ofValue, invoke, F1]
theorem Sim.growBlk {s : AS} {c : RC} {a : Act} {w w' : World} (hS : Sim C s c a w) (St : Nat → Prop) (hE : Below w.heap.size w w') (hst : ∀ β, c.st β → St β) (hst' : ∀ β, St β → c.st β ∨ (w.heap.size ≤ β ∧ β < w'.heap.size)) (b : Nat) (blk : Blk) (o : OB) (hg : ¬ c.used blk.gen)
  (hloc : ∀ β, o.loc = some β → (w.heap.size ≤ β ∧ β < w'.heap.size) ∧ ¬ St β)
  (d : Option Nat) (v : AV) (u : Value) (hd : ∀ e, d = some e → e < C.n)
  (hv : RowRep ⟨(c.upd b blk.gen o).own, (c.upd b blk.gen o).used, St⟩ w' blk o ∧ Rep ⟨(c.upd b blk.gen o).own, (c.upd b blk.gen o).used, St⟩ w' v u) : Sim C (s.app d v [(b, some blk)]) ⟨(c.upd b blk.gen o).own, (c.upd b blk.gen o).used, St⟩ (a.put d u) w' := by
 have hm : Mono c ⟨(c.upd b blk.gen o).own, (c.upd b blk.gen o).used, St⟩ w w' := by
  refine ⟨fun β hb => ⟨hst β hb, hE.block β (hS.st β hb).1⟩, fun g hu => .inl hu, fun b' g' o' hu ho' => ?_⟩
  simp only [RC.upd] at ho'
  split at ho'
  ·rename_i hbb
   subst hbb
   split at ho'
   ·rename_i hgg
    subst hgg
    exact absurd hu hg
   ·cases ho'
  ·exact ho'
 have hold : ∀ b' g' o' β, c.own b' g' = some o' → o'.loc = some β → o.loc ≠ some β := by
  intro b' g' o' β h1 h2 e
  have := ((hS.al b' g' o' h1).2.2 β h2).1
  have := (hloc β e).1.1
  omega
 refine ⟨(Act.put_nd a d u).symm ▸ hS.nd.step hm.st, (Act.put_size a d u).trans hS.sz, fr_put hS hm d v u hd (fun _ => hv.2), fun b' blk' hb' => ?_, fun b' g' o' ho' => ?_, fun b1 g1 o1 b2 g2 o2 β h1 h2 k1 k2 => ?_, fun β hb => ?_, fun β hb => hst β (hS.st0 β hb), hS.old.below hE, hS.mo.trans hm⟩
 ·simp only [AS.app, List.cons_append, List.nil_append, lkH_cons] at hb'
  split at hb'
  ·rename_i hbb
   subst hbb
   obtain rfl := Option.some.inj hb'
   exact ⟨o, by simp [RC.upd], .inl hv.1⟩
  ·rename_i hbb
   obtain ⟨o', h1, h2⟩ := hS.hp b' blk' hb'
   refine ⟨o', by simp [RC.upd, hbb, h1], h2.mono hm (fun β hβ => hE.block β ((hS.al b' _ o' h1).2.2 β hβ).1)⟩
 ·simp only [RC.upd] at ho'
  split at ho'
  ·rename_i hbb
   subst hbb
   split at ho'
   ·rename_i hgg
    subst hgg
    obtain rfl := Option.some.inj ho'
    refine ⟨.inr rfl, ⟨blk, by simp [AS.app, lkH_cons], rfl⟩, fun β hβ => ?_⟩
    obtain ⟨h, h'⟩ := hloc β hβ
    exact ⟨h.2, h', .inl (Nat.le_trans hS.old.size h.1)⟩
   ·cases ho'
  ·rename_i hbb
   obtain ⟨k1, ⟨blk', k2, k3⟩, k4⟩ := hS.al b' g' o' ho'
   refine ⟨.inl k1, ⟨blk', by simp [AS.app, lkH_cons, hbb, k2], k3⟩, fun β hβ => ?_⟩
   obtain ⟨q1, q2, q3⟩ := k4 β hβ
   refine ⟨Nat.lt_of_lt_of_le q1 hE.size, fun hs => ?_, q3⟩
   rcases hst' β hs with h | h
   ·exact q2 h
   ·omega
 ·simp only [RC.upd] at h1 h2
  split at h1
  ·rename_i e1
   split at h1
   ·rename_i f1
    obtain rfl := Option.some.inj h1
    split at h2
    ·rename_i e2
     split at h2
     ·rename_i f2
      exact ⟨e1.trans e2.symm, f1.trans f2.symm⟩
     ·cases h2
    ·exact absurd k1 (hold b2 g2 o2 β h2 k2)
   ·cases h1
  ·split at h2
   ·split at h2
    ·obtain rfl := Option.some.inj h2
     exact absurd k2 (hold b1 g1 o1 β h1 k1)
    ·cases h2
   ·exact hS.inj b1 g1 o1 b2 g2 o2 β h1 h2 k1 k2
 ·rcases hst' β hb with h | h
  ·exact ⟨Nat.lt_of_lt_of_le (hS.st β h).1 hE.size, (hS.st β h).2⟩
  ·exact ⟨h.2, .inr (.inl (Nat.le_trans hS.old.size h.1))⟩
theorem ARun.callO {fx : Operand} {args : Array Operand} {ats : Array TypeId} {f : FuncId} {avs : List AV} {sz : Nat} {els : List (List AV)} {res : Nat → Nat → AV} (bs : List (Nat × Blk)) (hF : FnO C.P f avs sz els res) (hf : evA fr fx = .val (.func (.func f) #[] #[])) (ha : FzL bs (args.toList.map (evA fr)) avs) (hb : BsOk hp bs)
  (hd : Nat.blt d C.n = true) (hg : guardIs ops ⟨fr, hp, gc⟩ ⟨some d, .call ⟨.value fx, args, ats⟩, ty, pos, after, gd⟩ true)
  (nx : ARun C ops K (k + 1) rest ⟨(d, res d (gc + k)) :: fr, (d, some ⟨gc + k, sz, els⟩) :: (bs.map (fun p => (p.1, none)) ++ hp), gc⟩ (fps ++ [(bs.map (·.1), d :: bs.map (·.1))])) : ARun C ops K k (⟨some d, .call ⟨.value fx, args, ats⟩, ty, pos, after, gd⟩ :: rest) ⟨fr, hp, gc⟩ fps := by
 have e : (bs.map (fun p => (p.1, (none : Option Blk)))).map (·.1) = bs.map (·.1) := by rw [List.map_map]; rfl
 refine ARun.step (res d (gc + k)) bs ((d, some ⟨gc + k, sz, els⟩) :: bs.map (fun p => (p.1, none))) hg (fun p hp => (hb p hp).1) ?_ (by rw [List.map_cons, e]; exact nx)
 intro s c a w hS hf' hargs hrd
 have hb' : BsOk s.hp bs := fun p hp => ⟨hrd p hp, (hb p hp).2⟩
 obtain ⟨h1, h2, h3⟩ := call_args hS hf ha hb' hargs
 obtain ⟨F1, F2⟩ := hF
 have hS1 := hS.froze bs (fun p hp => (hb' p hp).1)
 have hC := F2 w (c.froze bs).st (args.toList.map a.eval) (fun β hb => (hS1.st β hb).1) h2 h3
 unfold Oper.wp
 rw [call_run h1 F1, Oper.upon_enter]
 refine hC.mono (fun e w' ⟨r, St, o, he, hE, hs1, hs2, hs3, hr⟩ => ?_)
 subst he
 refine ⟨_, hS1.growBlk St hE hs1 hs2 d ⟨gc + k, sz, els⟩ o hf' hs3 (some d) (res d (gc + k)) r (dst_lt hd) (hr _ _ _ _ (by simp [RC.upd]) (.inr rfl)), fun g hg => ?_⟩
 exact hg
end
end Go.Proofs.Ytkmlmboclegpcaa
namespace Go.Proofs.Ytkmlmboclegpcaa
open Go Go.RowKit
set_option maxRecDepth 100000
def LoopN (C : ACtx) (c : Code) (Q : Exit → AS → Prop) : Nat → AS → Prop
 | 0, _ => False
 | n + 1, s => awp C c s (thenA (fun s' => LoopN C c Q n s') Q)
theorem LoopN.step {C : ACtx} {c : Code} {Q : Exit → AS → Prop} {n : Nat} {s : AS} (h : awp C c s (thenA (fun s' => LoopN C c Q n s') Q)) : LoopN C c Q (n + 1) s := h
theorem awp_loopN {C : ACtx} {s : AS} {Q : Exit → AS → Prop} {c : Code} (n : Nat) (h : LoopN C c Q n s) : awp C (.loop c) s Q := by
 intro a w hs
 refine wp_loop_ex (I := fun (t : Nat × AS) a w => SimE C t.2 a w ∧ LoopN C c Q t.1 t.2) (fun t => t.1) (t := (n, s)) ⟨hs, h⟩ (fun t a w ht => ?_)
 obtain ⟨m, s1⟩ := t
 obtain ⟨h1, h2⟩ := ht
 cases m with
 | zero => exact h2.elim
 | succ m =>
  refine wpIn_mono (h2 a w h1) (fun e a' w' ⟨s', k1, k2⟩ => ?_)
  cases e with
  | normal => exact ⟨(m, s'), ⟨k1, k2⟩, Nat.lt_succ_self _⟩
  | _ => exact ⟨s', k1, k2⟩
theorem awp_condAny {C : ACtx} {s : AS} {Q : Exit → AS → Prop} {x : Operand} {c d : Code} (hv : s.ev x = .bany) (ht : awp C c s Q) (hf : awp C d s Q) : awp C (.cond x c d) s Q := by
 intro a w hs
 have he : ∃ b, a.eval x = .bool b := by
  obtain ⟨c', hS, _⟩ := hs
  have := hS.ev x
  rw [hv] at this
  generalize a.eval x = u at this
  cases this
  exact ⟨_, rfl⟩
 obtain ⟨b, he⟩ := he
 exact wpIn_cond_split he (fun e => ht a w hs) (fun e => hf a w hs)
section
variable {C : ACtx} {ops : Array Oper} {K : AS → List (List Nat × List Nat) → Prop} {k : Nat} {rest : List Oper} {fr : List (Nat × AV)} {hp : List (Nat × Option Blk)} {gc : Nat} {fps : List (List Nat × List Nat)}
 {d : Nat} {ty : TypeId} {pos : String} {after : Array Edge} {gd : Option (Nat × Bool)} {x y z : Operand} {v : AV}
def nilAV : AV → Option AV
 | .sl _ _ [] => some .bany
 | .sl _ _ (_ :: _) => some (.val (.bool false))
 | _ => none
theorem run_eqSlice {P : Program} {t e : TypeId} (ht : P.underlying t = some (.slice e)) (w : World) (A : Option Addr) (n c : Nat) (x y : Operand) : (do eqGuard .eql t x y (.slice A n c) (.slice none 0 0); binOp .eql t (.slice A n c) (.slice none 0 0) : Sem Value).run P w = .ok (.bool (A.isNone)) w := by
 have hg : (eqGuard .eql t x y (.slice A n c) (.slice none 0 0)).run P w = .ok () w := by
  unfold eqGuard
  rfl
 rw [Sem.run_bind, hg, Result.andThen_ok]
 have : (Op.equalIn (9999 + 1) t (.slice A n c) (.slice none 0 0)).run P w = .ok A.isNone w := by
  rw [Op.equalIn, Sem.run_bind, run_underlying ht]
  cases A <;> rfl
 have e : (binOp .eql t (.slice A n c) (.slice none 0 0)) = (do pure (.bool (← Op.equalIn (9999 + 1) t (.slice A n c) (.slice none 0 0)))) := rfl
 rw [e, Sem.run_bind, this]
 rfl
theorem ARun.eqNil {t e yt : Nat} {ti : TI} (hx : nilAV (evA fr x) = some v) (ht : C.T t = some ti) (hk : ti.k = .slice e) (hd : Nat.blt d C.n = true) (hg : guardIs ops ⟨fr, hp, gc⟩ ⟨some d, .binOp .eql t x (.const (.slice none 0 0)) yt, ty, pos, after, gd⟩ true)
  (nx : ARun C ops K (k + 1) rest ⟨(d, v) :: fr, hp, gc⟩ (fps ++ [([], [])])) : ARun C ops K k (⟨some d, .binOp .eql t x (.const (.slice none 0 0)) yt, ty, pos, after, gd⟩ :: rest) ⟨fr, hp, gc⟩ fps :=
 ARun.quiet hd hg [] (by simp) (fun s c a w hS hev _ => by
  have hrx := hev x (by simp [Op.operands])
  generalize hv : evA fr x = av at hx hrx
  generalize hux : a.eval x = ux at hrx
  have key : ∀ A n cap, ux = .slice A n cap → (execOp a.eval ⟨some d, .binOp .eql t x (.const (.slice none 0 0)) yt, ty, pos, after, gd⟩).run C.P w = .ok (.value (.bool A.isNone)) w := by
   intro A n cap hu
   have h1 := run_eqSlice (und_slice ht hk) w A n cap x (.const (.slice none 0 0))
   have h2 : a.eval (.const (.slice none 0 0)) = .slice none 0 0 := rfl
   rw [show execOp a.eval ⟨some d, .binOp .eql t x (.const (.slice none 0 0)) yt, ty, pos, after, gd⟩ = (do let v ← (do eqGuard .eql t x (.const (.slice none 0 0)) (a.eval x) (a.eval (.const (.slice none 0 0))); binOp .eql t (a.eval x) (a.eval (.const (.slice none 0 0))) : Sem Value); pure (.value v)) from rfl, hux, hu, h2, Sem.run_bind, h1]
   rfl
  unfold nilAV at hx
  split at hx
  ·obtain rfl := Option.some.inj hx
   cases hrx with
   | sl _ _ _ A cap β o us a1 a2 a3 a4 a5 a6 a7 a8 => exact ⟨_, key _ _ _ rfl, .bany _⟩
  ·obtain rfl := Option.some.inj hx
   cases hrx with
   | sl _ _ _ A cap β o us a1 a2 a3 a4 a5 a6 a7 a8 =>
    obtain ⟨hA, _⟩ := a6 (by simp)
    subst hA
    exact ⟨_, key _ _ _ rfl, .val _⟩
  ·cases hx) nx
theorem RowRep.take {c : RC} {w : World} {gen sz n : Nat} {els0 els : List (List AV)} {o : OB} (h : RowRep c w ⟨gen, sz, els0⟩ o) (ht : els0.take n = els) : RowRep c w ⟨gen, sz, els⟩ o := by
 subst ht
 obtain ⟨h1, h2, h3⟩ := h
 refine ⟨h1, fun el hel => h2 el (List.mem_of_mem_take hel), ?_⟩
 cases ho : o.loc with
 | none =>
  rw [ho] at h3
  simp only at h3 ⊢
  rw [h3, List.take_nil]
 | some β =>
  rw [ho] at h3
  obtain ⟨cur, e, g1, g2, g3⟩ := h3
  refine ⟨cur, e, g1, g2, fun i el f x hi hx => ?_⟩
  simp only at hi
  rw [List.getElem?_take] at hi
  split at hi
  ·exact g3 i el f x hi hx
  ·cases hi
end
end Go.Proofs.Ytkmlmboclegpcaa
namespace Go.Proofs.Ytkmlmboclegpcaa
open Go Go.RowKit
set_option maxRecDepth 100000
theorem SrcA.ownW {fr : List (Nat × AV)} {hp : List (Nat × Option Blk)} {x : Operand} {sz b g n gen : Nat} {els : List (List AV)} (hx : evA fr x = .own b g 0 n) (hb : lkH hp b = some ⟨gen, sz, els⟩) (hg : gen = g) (hn : els.length = n) : SrcA fr hp x sz els [(b, ⟨gen, sz, els⟩)] :=
 .own hx hb hg (by omega) (by subst hn; rw [List.drop_zero, List.take_length])
theorem own_closed_app {α : Type} {f : α → List AV} {l : List α} {el2 : List AV} (h : ∀ a x, x ∈ f a → Closed x) (h2 : ∀ x, x ∈ el2 → Closed x) : ∀ el x, el ∈ l.map f ++ [el2] → x ∈ el → Closed x := fun el x hel hx => by
 rcases List.mem_append.1 hel with h' | h'
 ·obtain ⟨a, _, rfl⟩ := List.mem_map.1 h'
  exact h a x hx
 ·rw [List.mem_singleton.1 h'] at hx
  exact h2 x hx
theorem take_succ' {α : Type} {l : List α} {k : Nat} {x : α} (h : l[k]? = some x) : l.take (k + 1) = l.take k ++ [x] := by
 rw [List.take_add_one, h]; rfl
theorem put_same (a : Act) (t : Nat) : a.put (some t) (a.tmps.getD t undef) = a := by
 have : a.tmps.setIfInBounds t (a.tmps.getD t undef) = a.tmps := by
  apply Array.ext_getElem?
  intro i
  rw [Array.getElem?_setIfInBounds]
  split
  ·rename_i h
   subst h
   split
   ·rename_i h
    simp [Array.getD_eq_getD_getElem?, h]
   ·rename_i h
    rw [Array.getElem?_eq_none (by omega)]
  ·rfl
 unfold Act.put
 simp only [this]
theorem awp_ownNil {C : ACtx} {fr : List (Nat × AV)} {hp : List (Nat × Option Blk)} {gc : Nat} {c : Code} {Q : Exit → AS → Prop} (t sz : Nat) {s0 : Nat} (h : lkA fr t = .sl s0 true []) (hsz : Nat.blt 0 sz = true) (ht : Nat.blt t C.n = true)
  (k : awp C c ⟨(t, .own t gc 0 0) :: fr, (t, some ⟨gc, sz, []⟩) :: hp, gc + 1⟩ Q) : awp C c ⟨fr, hp, gc⟩ Q := by
 refine awp_weaken (fun a w ⟨c0, hS, hu⟩ => ?_) k
 have hr := hS.fr t
 simp only [h] at hr
 have h0 := lt_of_blt hsz
 have := hS.upd (w' := w) t ⟨gc, sz, []⟩ ⟨none, sz, 0⟩ (.inl (fun hg => by have := hu _ hg; simp only at this; omega)) rfl rfl rfl (Nat.le_refl _) (fun _ _ _ => rfl) (fun β hβ => by cases hβ) (fun _ => .inl ⟨rfl, (fun el h => by cases h), rfl⟩) (some t) (.own t gc 0 0) (a.tmps.getD t undef) (dst_lt ht) (fun _ _ => by
  generalize a.tmps.getD t undef = u at hr
  cases hr with
  | sl _ _ _ A cap β o us a1 a2 a3 a4 a5 a6 a7 a8 =>
   have hc := a3 rfl
   simp only [List.length_nil] at hc
   subst hc
   refine .own t gc 0 0 A 0 0 (.inr rfl) (fun q hq => ?_)
   simp [RC.upd] at hq
   subst hq
   exact ⟨rfl, Nat.le_refl _, Nat.zero_le _, fun _ => rfl, h0, .inl rfl⟩)
 rw [put_same] at this
 refine ⟨_, this.congr (fun _ => rfl) (fun _ => rfl), fun g hg => ?_⟩
 rcases hg with h | h
 ·exact Nat.lt_succ_of_lt (hu g h)
 ·simp only at h ⊢
  omega
section
variable {C : ACtx} {ops : Array Oper} {K : AS → List (List Nat × List Nat) → Prop} {k : Nat} {rest : List Oper} {fr : List (Nat × AV)} {hp : List (Nat × Option Blk)} {gc : Nat} {fps : List (List Nat × List Nat)}
 {d : Nat} {ty : TypeId} {pos : String} {after : Array Edge} {gd : Option (Nat × Bool)} {x y z : Operand} {v : AV}
theorem ARun.sliceOwnTo {t e b g j n m : Nat} {blk : Blk} {ti te : TI} {kk : IntKind} {i : Int} (hx : evA fr x = .own b g j n) (hbk : lkH hp b = some blk) (hgg : blk.gen = g) (hy : evA fr y = .val (.int kk i)) (hi : i = (m : Nat)) (hm : m ≤ n) (ht : C.T t = some ti) (hk : ti.k = .slice e) (hte : C.T e = some te) (hs : blk.sz = te.size)
  (hd : Nat.blt d C.n = true) (hg : guardIs ops ⟨fr, hp, gc⟩ ⟨some d, .slice t x none (some y) none, ty, pos, after, gd⟩ true)
  (nx : ARun C ops K (k + 1) rest ⟨(d, .own b g j m) :: fr, hp, gc⟩ (fps ++ [([b], [])])) : ARun C ops K k (⟨some d, .slice t x none (some y) none, ty, pos, after, gd⟩ :: rest) ⟨fr, hp, gc⟩ fps := by
 subst hi
 refine ARun.slice_own hx hbk hgg (.non _) (.som _ hy (by omega)) (Nat.zero_le _) (by omega) ht hk hte hs hd hg ?_
 rw [Int.toNat_natCast, Nat.add_zero, Nat.sub_zero]
 exact nx
theorem ARun.sliceOwnFrom {t e b g j n m : Nat} {blk : Blk} {ti te : TI} {kk : IntKind} {i : Int} (hx : evA fr x = .own b g j n) (hbk : lkH hp b = some blk) (hgg : blk.gen = g) (hy : evA fr y = .val (.int kk i)) (hi : i = (m : Nat)) (hm : m ≤ n) (ht : C.T t = some ti) (hk : ti.k = .slice e) (hte : C.T e = some te) (hs : blk.sz = te.size)
  (hd : Nat.blt d C.n = true) (hg : guardIs ops ⟨fr, hp, gc⟩ ⟨some d, .slice t x (some y) none none, ty, pos, after, gd⟩ true)
  (nx : ARun C ops K (k + 1) rest ⟨(d, .own b g (j + m) (n - m)) :: fr, hp, gc⟩ (fps ++ [([b], [])])) : ARun C ops K k (⟨some d, .slice t x (some y) none none, ty, pos, after, gd⟩ :: rest) ⟨fr, hp, gc⟩ fps := by
 subst hi
 refine ARun.slice_own hx hbk hgg (.som _ hy (by omega)) (.non _) (by omega) (Nat.le_refl _) ht hk hte hs hd hg ?_
 rw [Int.toNat_natCast]
 exact nx
theorem ARun.sliceClip {t e sz : Nat} {full : Bool} {els : List (List AV)} {ti te : TI} {kk kk' : IntKind} (hx : evA fr x = .sl sz full els) (hy : evA fr y = .val (.int kk els.length)) (hz' : evA fr z = .val (.int kk' els.length)) (ht : C.T t = some ti) (hk : ti.k = .slice e) (hte : C.T e = some te) (hz : els = [] ∨ sz = te.size)
  (hd : Nat.blt d C.n = true) (hg : guardIs ops ⟨fr, hp, gc⟩ ⟨some d, .slice t x none (some y) (some z), ty, pos, after, gd⟩ true)
  (nx : ARun C ops K (k + 1) rest ⟨(d, .sl sz true els) :: fr, hp, gc⟩ (fps ++ [([], [])])) : ARun C ops K k (⟨some d, .slice t x none (some y) (some z), ty, pos, after, gd⟩ :: rest) ⟨fr, hp, gc⟩ fps := by
 refine ARun.slice3 hx (.non _) (.som 0 hy (by omega)) (.som 0 hz' (by omega)) (Nat.zero_le _) (by omega) (Nat.le_refl _) (by omega) ht hk hte hz hd hg ?_
 have e1 : (els.drop 0).take (((els.length : Nat) : Int).toNat - 0) = els := by
  rw [Int.toNat_natCast, List.drop_zero, Nat.sub_zero, List.take_length]
 have e2 : (((els.length : Nat) : Int).toNat == ((els.length : Nat) : Int).toNat) = true := by simp
 rw [e1, e2]
 exact nx
end
section
variable {P : Program} {T : Nat → Option TI} {ok : ∀ t ti, T t = some ti → tiOf P t = some ti} {nn : Nat} {w0 : World} {st0 lent : Nat → Prop} {rdd : Option Nat × Bool} {c00 : RC} {ops : Array Oper} {K : AS → List (List Nat × List Nat) → Prop} {k : Nat} {rest : List Oper} {fr : List (Nat × AV)} {hp : List (Nat × Option Blk)} {gc : Nat} {fps : List (List Nat × List Nat)}
 {d : Nat} {ty : TypeId} {pos : String} {after : Array Edge} {gd : Option (Nat × Bool)} {v : AV}
theorem callOX {fx : Operand} {args : Array Operand} {ats : Array TypeId} {f : FuncId} {avs : List AV} {sz : Nat} {els : List (List AV)} {res : Nat → Nat → AV} (bs : List (Nat × Blk)) (hF : FnO P f avs sz els res) (hb : BsOk hp bs) (hf : evA fr fx = .val (.func (.func f) #[] #[])) (ha : FzL bs (args.toList.map (evA fr)) avs)
  (hd : Nat.blt d nn = true) (hg : guardF ops fr ⟨some d, .call ⟨.value fx, args, ats⟩, ty, pos, after, gd⟩ = some true)
  (nx : ARun ⟨P, T, ok, nn, w0, st0, lent, rdd, c00⟩ ops K (k + 1) rest ⟨(d, res d (gc + k)) :: fr, (d, some ⟨gc + k, sz, els⟩) :: (bs.map (fun p => (p.1, none)) ++ hp), gc⟩ (fps ++ [(bs.map (·.1), d :: bs.map (·.1))])) : ARun ⟨P, T, ok, nn, w0, st0, lent, rdd, c00⟩ ops K k (⟨some d, .call ⟨.value fx, args, ats⟩, ty, pos, after, gd⟩ :: rest) ⟨fr, hp, gc⟩ fps :=
 ARun.callO bs hF hf ha hb hd (guardF_spec hg) nx
end
end Go.Proofs.Ytkmlmboclegpcaa
namespace Go.Proofs.Ytkmlmboclegpcaa
open Go Go.RowKit
set_option maxRecDepth 100000
section
variable {C : ACtx} {ops : Array Oper} {K : AS → List (List Nat × List Nat) → Prop} {k : Nat} {rest : List Oper} {fr : List (Nat × AV)} {hp : List (Nat × Option Blk)} {gc : Nat} {fps : List (List Nat × List Nat)}
 {d : Nat} {ty : TypeId} {pos : String} {after : Array Edge} {gd : Option (Nat × Bool)} {x y z : Operand} {v : AV}
theorem map_rep {c : RC} {w : World} {a : Act} {fr : List (Nat × AV)} (l : List Operand) (h : ∀ z, z ∈ l → Rep c w (evA fr z) (a.eval z)) : ∀ (i : Nat) (x : AV) (u : Value), (l.map (evA fr))[i]? = some x → (l.map a.eval)[i]? = some u → Rep c w x u := fun i x u hx hu => by
 rw [List.getElem?_map] at hx hu
 cases hi : l[i]? with
 | none => rw [hi] at hx; cases hx
 | some z =>
  rw [hi] at hx hu
  simp only [Option.map_some, Option.some.injEq] at hx hu
  subst hx
  subst hu
  exact h z (List.mem_of_getElem? hi)
theorem setAts_all : ∀ (l cs : List AV), cs.length = l.length → SetAts l 0 cs cs
 | [], [], _ => .done []
 | [], _ :: _, h => by simp at h
 | _ :: _, [], h => by simp at h
 | x :: l, c :: cs, h => .here (setAts_all l cs (by simpa using h))
theorem ARun.storeEl {t : Nat} {ti : TI} {b g i gen sz : Nat} {els els' : List (List AV)} {cs : List AV} (hx : evA fr x = .ptr b g i 0) (hb : lkH hp b = some ⟨gen, sz, els⟩) (hgg : gen = g) (hi : i < els.length) (hel : ∀ el, el ∈ els → el.length = sz) (ht : C.T t = some ti) (hc : cellsA (evA fr y) = some cs) (hl : cs.length = ti.size) (hs : sz = ti.size) (h0 : Nat.blt 0 ti.size = true)
  (he : els.set i cs = els') (hg : guardIs ops ⟨fr, hp, gc⟩ ⟨none, .store t x y, ty, pos, after, gd⟩ true)
  (nx : ARun C ops K (k + 1) rest ⟨fr, (b, some ⟨gen, sz, els'⟩) :: hp, gc⟩ (fps ++ [([b], [b])])) : ARun C ops K k (⟨none, .store t x y, ty, pos, after, gd⟩ :: rest) ⟨fr, hp, gc⟩ fps := by
 subst he
 have h1 : els[i]? = some els[i] := List.getElem?_eq_getElem hi
 have h2 := hel _ (List.getElem_mem hi)
 exact ARun.store hx hb hgg h1 ht hc hl h0 (setAts_all _ _ (by omega)) hg nx
theorem map_len {α : Type} {f : α → List AV} {l : List α} {n : Nat} (h : ∀ a, (f a).length = n) : ∀ el, el ∈ l.map f → el.length = n := fun el hel => by
 obtain ⟨a, _, rfl⟩ := List.mem_map.1 hel
 exact h a
theorem ARun.makeFunc {f : Fn} {first cap : Array Operand} {fs cs : List AV} (hf : first.toList.map (evA fr) = fs) (hc : cap.toList.map (evA fr) = cs) (hd : Nat.blt d C.n = true) (hg : guardIs ops ⟨fr, hp, gc⟩ ⟨some d, .makeFunc f first cap, ty, pos, after, gd⟩ true)
  (nx : ARun C ops K (k + 1) rest ⟨(d, .clo f fs cs) :: fr, hp, gc⟩ (fps ++ [([], [])])) : ARun C ops K k (⟨some d, .makeFunc f first cap, ty, pos, after, gd⟩ :: rest) ⟨fr, hp, gc⟩ fps :=
 ARun.quiet hd hg [] (by simp) (fun s c a w hS hev _ => by
  subst hf
  subst hc
  refine ⟨.func f (first.map a.eval) (cap.map a.eval), rfl, ?_⟩
  have e1 : first.map a.eval = (first.toList.map a.eval).toArray := by apply Array.ext'; simp
  have e2 : cap.map a.eval = (cap.toList.map a.eval).toArray := by apply Array.ext'; simp
  rw [e1, e2]
  exact .clo f _ _ _ _ (by simp) (by simp) (map_rep first.toList (fun z hz => hev z (by simp [Op.operands]; exact .inl (by simpa using hz)))) (map_rep cap.toList (fun z hz => hev z (by simp [Op.operands]; exact .inr (by simpa using hz))))) nx
theorem rep_append {c : RC} {w : World} {l l' : List AV} {us us' : List Value} (h1 : us.length = l.length) (h2 : ∀ (i : Nat) (x : AV) (u : Value), l[i]? = some x → us[i]? = some u → Rep c w x u) (h3 : ∀ (i : Nat) (x : AV) (u : Value), l'[i]? = some x → us'[i]? = some u → Rep c w x u) :
  ∀ (i : Nat) (x : AV) (u : Value), (l ++ l')[i]? = some x → (us ++ us')[i]? = some u → Rep c w x u := fun i x u hx hu => by
 rcases Nat.lt_or_ge i l.length with h | h
 ·rw [List.getElem?_append_left h] at hx
  rw [List.getElem?_append_left (by omega)] at hu
  exact h2 i x u hx hu
 ·rw [List.getElem?_append_right h] at hx
  rw [List.getElem?_append_right (by omega)] at hu
  rw [h1] at hu
  exact h3 _ x u hx hu
theorem ARun.callC {dst : Option Nat} {fx : Operand} {args : Array Operand} {ats : Array TypeId} {f : FuncId} {first cap avs : List AV} (hF : FnC C.P f avs v) (hf : evA fr fx = .clo (.func f) first cap) (ha : first ++ args.toList.map (evA fr) ++ cap = avs)
  (hd : (match dst with | some d => Nat.blt d C.n | none => true) = true) (hg : guardIs ops ⟨fr, hp, gc⟩ ⟨dst, .call ⟨.value fx, args, ats⟩, ty, pos, after, gd⟩ true)
  (nx : ARun C ops K (k + 1) rest ⟨putFr fr dst v, hp, gc⟩ (fps ++ [([], [])])) : ARun C ops K k (⟨dst, .call ⟨.value fx, args, ats⟩, ty, pos, after, gd⟩ :: rest) ⟨fr, hp, gc⟩ fps := by
 refine ARun.step v [] [] hg (by simp) ?_ nx
 intro s c a w hS _ hargs _
 have hdst : ∀ e, dst = some e → e < C.n := by
  intro e he
  subst he
  exact lt_of_blt hd
 have hev : ∀ z ∈ #[fx] ++ args, Rep c w (evA fr z) (a.eval z) := by
  intro z hz
  have hz' : z ∈ (Op.call ⟨.value fx, args, ats⟩).operands.toList := by simpa [Op.operands, Call.operands] using hz
  rw [← args_ev hargs z hz']
  exact hS.ev z
 have h1 := hev fx (by simp)
 rw [hf] at h1
 obtain ⟨F1, F2⟩ := hF
 generalize hux : a.eval fx = ux at h1
 cases h1 with
 | clo _ _ _ us vs hl hl' hr hr' =>
  have hm := map_rep (c := c) (w := w) (a := a) (fr := fr) args.toList (fun z hz => hev z (Array.mem_append.2 (.inr (Array.mem_toList_iff.1 hz))))
  have hall := rep_append (l := first ++ args.toList.map (evA fr)) (l' := cap) (us := us ++ args.toList.map a.eval) (us' := vs) (by simp [hl]) (rep_append hl hr hm) hr'
  rw [ha] at hall
  have hlen : (us ++ args.toList.map a.eval ++ vs).length = avs.length := by rw [← ha]; simp [hl, hl']
  have hC := F2 w c.st (us ++ args.toList.map a.eval ++ vs) (fun β hb => (hS.st β hb).1) hlen (fun i x u hx hu => (hall i x u hx hu).mono (c := c) (c' := RC.pure c.st) (w' := w) (Mono.mk (fun β hb => ⟨hb, rfl⟩) (fun _ _ => trivial) (fun b g o _ h => by cases h)))
  have hrun : (execOp a.eval ⟨dst, .call ⟨.value fx, args, ats⟩, ty, pos, after, gd⟩).run C.P w = .ok (.enter f (us ++ args.toList.map a.eval ++ vs).toArray) w := by
   have e : us.toArray ++ args.map a.eval ++ vs.toArray = (us ++ args.toList.map a.eval ++ vs).toArray := by
    apply Array.ext'
    simp
   rw [← e]
   simp [execOp, resolve, hux, Deferred.ofValue, invoke, F1]
  unfold Oper.wp
  rw [hrun, Oper.upon_enter]
  refine hC.mono (fun e w' ⟨r, St, he, hE, hs1, hs2, hr⟩ => ?_)
  subst he
  exact ⟨_, hS.grow St hE hs1 hs2 dst v r hdst (fun _ _ => hr _ _), fun g hg => .inl hg⟩
end
section
variable {P : Program} {T : Nat → Option TI} {ok : ∀ t ti, T t = some ti → tiOf P t = some ti} {nn : Nat} {w0 : World} {st0 lent : Nat → Prop} {rdd : Option Nat × Bool} {c00 : RC} {ops : Array Oper} {K : AS → List (List Nat × List Nat) → Prop} {k : Nat} {rest : List Oper} {fr : List (Nat × AV)} {hp : List (Nat × Option Blk)} {gc : Nat} {fps : List (List Nat × List Nat)}
 {d : Nat} {ty : TypeId} {pos : String} {after : Array Edge} {gd : Option (Nat × Bool)} {v : AV}
theorem callCX {dst : Option Nat} {fx : Operand} {args : Array Operand} {ats : Array TypeId} {f : FuncId} {first cap avs : List AV} (hF : FnC P f avs v) (hf : evA fr fx = .clo (.func f) first cap) (ha : first ++ args.toList.map (evA fr) ++ cap = avs)
  (hd : (match dst with | some d => Nat.blt d nn | none => true) = true) (hg : guardF ops fr ⟨dst, .call ⟨.value fx, args, ats⟩, ty, pos, after, gd⟩ = some true)
  (nx : ARun ⟨P, T, ok, nn, w0, st0, lent, rdd, c00⟩ ops K (k + 1) rest ⟨putFr fr dst v, hp, gc⟩ (fps ++ [([], [])])) : ARun ⟨P, T, ok, nn, w0, st0, lent, rdd, c00⟩ ops K k (⟨dst, .call ⟨.value fx, args, ats⟩, ty, pos, after, gd⟩ :: rest) ⟨fr, hp, gc⟩ fps :=
 ARun.callC hF hf ha hd (guardF_spec hg) nx
end
end Go.Proofs.Ytkmlmboclegpcaa
namespace Go.Proofs.Ytkmlmboclegpcaa
open Go Go.RowKit
set_option maxRecDepth 100000
theorem beq_int (x : Int) : (x == x) = true := beq_self_eq_true x
theorem bne_int (x : Int) : (x != x) = false := bne_self_eq_false x
section
variable {C : ACtx} {ops : Array Oper} {K : AS → List (List Nat × List Nat) → Prop} {k : Nat} {rest : List Oper} {fr : List (Nat × AV)} {hp : List (Nat × Option Blk)} {gc : Nat} {fps : List (List Nat × List Nat)}
 {d : Nat} {ty : TypeId} {pos : String} {after : Array Edge} {gd : Option (Nat × Bool)} {x y z : Operand} {v : AV}
end
end Go.Proofs.Ytkmlmboclegpcaa
namespace Go.Proofs.Ytkmlmboclegpcaa
open Go Go.RowKit
set_option maxRecDepth 100000
section
variable {C : ACtx} {ops : Array Oper} {K : AS → List (List Nat × List Nat) → Prop} {k : Nat} {rest : List Oper} {fr : List (Nat × AV)} {hp : List (Nat × Option Blk)} {gc : Nat} {fps : List (List Nat × List Nat)}
 {d : Nat} {ty : TypeId} {pos : String} {after : Array Edge} {gd : Option (Nat × Bool)} {x y z : Operand} {v : AV}
end
def isV : AV → Bool
 | .val _ => true
 | _ => false
def allV : List (List AV) → Bool
 | [] => true
 | el :: l => el.all isV && allV l
theorem clo_all : ∀ {els : List (List AV)}, allV els = true → ∀ el x, el ∈ els → x ∈ el → Closed x
 | [], _, el, x, h, _ => by cases h
 | e :: l, h, el, x, hel, hx => by
  rw [allV, Bool.and_eq_true] at h
  rcases List.mem_cons.1 hel with rfl | hel
  ·have := List.all_eq_true.1 h.1 x hx
   unfold isV at this
   split at this
   ·exact .val _
   ·cases this
  ·exact clo_all h.2 el x hel hx
end Go.Proofs.Ytkmlmboclegpcaa
namespace Go.Proofs.Ytkmlmboclegpcaa
open Go Go.RowKit Go.ChangeShapes Go.WideShapes Go.Deep
set_option maxRecDepth 100000
section
variable {P : Program} {H : Type} {encT : TypeId × Value → H} {w : World} {base : Nat} {spare : Nat → Bool} {held : Bool}
theorem Opens.map {t : TypeId} {α β : Type} {enc : α → List AV} {Q : α → Prop} {enc' : β → List AV} {Q' : β → Prop} (h : Opens encT P w base spare held t enc Q) (f : α → β) (he : ∀ y, Q y → enc y = enc' (f y)) (hq : ∀ y, Q y → Q' (f y)) : Opens encT P w base spare held t enc' Q' := fun n cs x hx => by
 obtain ⟨y, h1, h2⟩ := h n cs x hx
 exact ⟨f y, by rw [← he y h2]; exact h1, hq y h2⟩
end
end Go.Proofs.Ytkmlmboclegpcaa
