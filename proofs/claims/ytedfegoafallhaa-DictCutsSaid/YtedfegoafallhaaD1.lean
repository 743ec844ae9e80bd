/- What is read as a row: slices that never turn, and those of the call's own; 'copy'. -/
import Derived.Test.YtedfegoafallhaaB7
namespace Go.Proofs.Ytedfegoafallhaa
set_option linter.unusedVariables false
set_option linter.unusedSimpArgs false
open Go Go.RowKit

/-- A slice that is read: its elements, and the blocks that are looked at. -/
inductive SrcA (fr : List (Nat × AV)) (hp : List (Nat × Option Blk)) (x : Operand) (sz : Nat) : List (List AV) → List (Nat × Blk) → Prop where
  | sl {sz' : Nat} {full : Bool} {els : List (List AV)} (hx : evA fr x = .sl sz' full els) (hs : els = [] ∨ sz' = sz) : SrcA fr hp x sz els []
  | own {b g lo n gen : Nat} {els els' : List (List AV)} (hx : evA fr x = .own b g lo n) (hb : lkH hp b = some ⟨gen, sz, els⟩) (hg : gen = g) (hl : lo + n ≤ els.length) (he : (els.drop lo).take n = els') : SrcA fr hp x sz els' [(b, ⟨gen, sz, els⟩)]

theorem News.own {C : ACtx} {s : AS} {c : RC} {a : Act} {w : World} (hS : Sim C s c a w) {b g lo n sz : Nat} {els : List (List AV)} {u : Value} (hb : lkH s.hp b = some ⟨g, sz, els⟩) (hl : lo + n ≤ els.length) (r : Rep c w (.own b g lo n) u) :
    ∃ A cap vs, News c w sz ((els.drop lo).take n) u A cap vs ∧ n ≤ cap ∧ cap ≤ maxLen ∧ (A = none → cap = 0) := by
  obtain ⟨o, h1, hB⟩ := hS.hp b _ hb
  simp only at h1
  have hlen : ((els.drop lo).take n).length = n := by rw [List.length_take, List.length_drop]; omega
  cases r with
  | own _ _ _ _ A m cap hu hp =>
    obtain ⟨rfl, k2, k3, k4, k0, k5⟩ := hp o h1
    obtain ⟨h2, h3, h4⟩ := hB.row k0
    simp only at h2 h3 h4
    have hget : ∀ (i : Nat) (el : List AV), ((els.drop lo).take m)[i]? = some el → i < m ∧ els[lo + i]? = some el := by
      intro i el hi
      rw [List.getElem?_take] at hi
      split at hi
      · rw [List.getElem?_drop] at hi; exact ⟨by assumption, hi⟩
      · cases hi
    rcases k5 with hcap | ⟨β, k5, k6, k7⟩
    · subst hcap
      have hn0 : m = 0 := by omega
      subst hn0
      exact ⟨A, 0, [], ⟨by simp, by simp, by simp, fun h => absurd (by simp) h, by simp, fun i el f x hi => by simp at hi⟩, k2, k3, k4⟩
    · rw [k5] at h4
      obtain ⟨cur, e, q1, q2, q3⟩ := h4
      have hfit : lo * sz + m * sz ≤ cur.size := by
        have k8 : (lo + m) * sz ≤ (lo + cap) * sz := Nat.mul_le_mul_right _ (by omega)
        rw [h2] at k7
        rw [← Nat.add_mul]
        omega
      have hcl : cur.toList.length = cur.size := Array.length_toList
      have hvs : ∀ j, j < m * sz → ((cur.toList.drop (lo * sz)).take (m * sz))[j]? = cur[lo * sz + j]? := by
        intro j hj
        rw [List.getElem?_take, if_pos hj, List.getElem?_drop]
        simp
      have hvl : ((cur.toList.drop (lo * sz)).take (m * sz)).length = m * sz := by rw [List.length_take, List.length_drop, hcl]; omega
      refine ⟨A, cap, (cur.toList.drop (lo * sz)).take (m * sz), ⟨by rw [hlen], by rw [hlen]; exact hvl, fun v hv => ?_, fun hne => ⟨⟨β, lo * sz, none⟩, by rw [k6, h2], fun j v hj => ?_⟩, fun el hel => ?_, fun i el f x hi hx => ?_⟩, k2, k3, k4⟩
      · obtain ⟨j, hj⟩ := List.getElem?_of_mem hv
        have hjl : j < m * sz := by rw [← hvl]; exact (List.getElem?_eq_some_iff.1 hj).1
        rw [hvs j hjl] at hj
        have hsz : 0 < sz := by
          rcases Nat.eq_zero_or_pos sz with h | h
          · rw [h] at hjl; omega
          · exact h
        have hi : lo + j / sz < els.length := by
          have : j / sz < m := by rw [Nat.div_lt_iff_lt_mul hsz]; exact hjl
          omega
        have hel := List.getElem?_eq_getElem hi
        have hf : j % sz < (els[lo + j / sz]).length := by rw [h3 _ (List.getElem_mem _)]; exact Nat.mod_lt _ hsz
        obtain ⟨u, r1, r2, _⟩ := q3 _ _ _ _ hel (List.getElem?_eq_getElem hf)
        have e1 : (lo + j / sz) * sz + j % sz = lo * sz + j := by
          rw [Nat.add_mul, Nat.add_assoc, Nat.mul_comm (j / sz), Nat.div_add_mod]
        rw [e1, hj] at r1
        obtain rfl := Option.some.inj r1
        exact r2
      · have hjl : j < m * sz := by rw [← hvl]; exact (List.getElem?_eq_some_iff.1 hj).1
        rw [hvs j hjl] at hj
        rw [add_lit, cell_row q1]
        exact hj
      · obtain ⟨i, hi⟩ := List.getElem?_of_mem hel
        exact h3 el (List.mem_of_getElem? (hget i el hi).2)
      · obtain ⟨him, hi'⟩ := hget i el hi
        obtain ⟨u, r1, r2, r3⟩ := q3 _ _ _ _ hi' hx
        have hf : f < sz := by rw [← h3 el (List.mem_of_getElem? hi')]; exact (List.getElem?_eq_some_iff.1 hx).1
        refine ⟨u, ?_, r2, r3⟩
        have : (i + 1) * sz ≤ m * sz := Nat.mul_le_mul_right _ him
        rw [Nat.add_mul] at this
        rw [hvs _ (by omega), ← r1, Nat.add_mul, Nat.add_assoc]

theorem SrcA.news {C : ACtx} {s : AS} {c : RC} {a : Act} {w : World} (hS : Sim C s c a w) {fr : List (Nat × AV)} {hp : List (Nat × Option Blk)} {x : Operand} {sz : Nat} {els : List (List AV)} {rd : List (Nat × Blk)} (h : SrcA fr hp x sz els rd)
    (hr : Rep c w (evA fr x) (a.eval x)) (hrd : ∀ p, p ∈ rd → lkH s.hp p.1 = some p.2) : ∃ A cap vs, News c w sz els (a.eval x) A cap vs ∧ els.length ≤ cap ∧ cap ≤ maxLen ∧ (A = none → cap = 0) := by
  cases h with
  | sl hx hs =>
    rw [hx] at hr
    obtain ⟨A, cap, vs, h1, _, h2, h3, h4⟩ := News.of hr hs
    exact ⟨A, cap, vs, h1, h2, h3, h4⟩
  | @own b g lo n gen els' _ hx hb hg hl he =>
    subst he
    subst hg
    rw [hx] at hr
    obtain ⟨A, cap, vs, h1, h2, h3, h4⟩ := News.own hS (hrd (b, ⟨gen, sz, els'⟩) (by simp)) hl hr
    exact ⟨A, cap, vs, h1, by rw [List.length_take, List.length_drop]; omega, h3, h4⟩
theorem SrcA.lie {fr : List (Nat × AV)} {hp : List (Nat × Option Blk)} {x : Operand} {sz : Nat} {els : List (List AV)} {rd : List (Nat × Blk)} (h : SrcA fr hp x sz els rd) : ∀ p, p ∈ rd → lkH hp p.1 = some p.2 := by
  cases h with
  | sl => intro p hp; cases hp
  | own hx hb hg hl he =>
    intro p hp
    rw [List.mem_singleton.1 hp]
    exact hb

/-- A row with others laid over it. -/
def overL {α : Type} (l : List α) (lo : Nat) (l2 : List α) : List α := l.take lo ++ (l2 ++ l.drop (lo + l2.length))
theorem overL_length {α : Type} {l l2 : List α} {lo : Nat} (h : lo + l2.length ≤ l.length) : (overL l lo l2).length = l.length := by
  unfold overL
  simp only [List.length_append, List.length_take, List.length_drop]
  omega
theorem overL_get {α : Type} {l l2 : List α} {lo : Nat} (h : lo + l2.length ≤ l.length) (j : Nat) : (overL l lo l2)[j]? = if j < lo then l[j]? else if j < lo + l2.length then l2[j - lo]? else l[j]? := by
  unfold overL
  rw [← List.append_assoc]
  exact list_over l l2 lo h j
theorem overL_map {α β : Type} (f : α → β) (l l2 : List α) (lo : Nat) : overL (l.map f) lo (l2.map f) = (overL l lo l2).map f := by
  unfold overL
  simp [List.map_take, List.map_drop]

section
variable {C : ACtx} {ops : Array Oper} {K : AS → List (List Nat × List Nat) → Prop} {k : Nat} {rest : List Oper} {fr : List (Nat × AV)} {hp : List (Nat × Option Blk)} {gc : Nat} {fps : List (List Nat × List Nat)}
  {d : Nat} {ty : TypeId} {pos : String} {after : Array Edge} {gd : Option (Nat × Bool)} {x y z : Operand} {v : AV}

theorem fst_map_rd {fr : List (Nat × AV)} {hp : List (Nat × Option Blk)} {x : Operand} {sz : Nat} {els : List (List AV)} {rd : List (Nat × Blk)} (_ : SrcA fr hp x sz els rd) : True := trivial

/-- 'copy' onto a slice of the call's own. -/
theorem ARun.copy {dst : Option Nat} {t t2 e b g lo n gen sz : Nat} {ti te : TI} {els els2 : List (List AV)} {rd : List (Nat × Blk)} (hx : evA fr x = .own b g lo n) (hbk : lkH hp b = some ⟨gen, sz, els⟩) (hgg : gen = g) (hn : lo + n ≤ els.length) (hy : SrcA fr hp y sz els2 rd) (ht : C.T t = some ti) (hk : ti.k = .slice e) (hte : C.T e = some te)
    (h1 : sz = te.size) (hd : (match dst with | some d => Nat.blt d C.n | none => true) = true) (hg : guardIs ops ⟨fr, hp, gc⟩ ⟨dst, .call ⟨.builtin .copy, #[x, y], #[t, t2]⟩, ty, pos, after, gd⟩ true)
    (nx : ARun C ops K (k + 1) rest ⟨putFr fr dst (.val (.int .i64 (min els2.length n : Nat))), (b, some ⟨gen, sz, overL els lo (els2.take n)⟩) :: hp, gc⟩ (fps ++ [(b :: rd.map (·.1), [b])])) :
    ARun C ops K k (⟨dst, .call ⟨.builtin .copy, #[x, y], #[t, t2]⟩, ty, pos, after, gd⟩ :: rest) ⟨fr, hp, gc⟩ fps := by
  have hl := hy.lie
  refine ARun.step (.val (.int .i64 (min els2.length n : Nat))) ((b, ⟨gen, sz, els⟩) :: rd) [(b, some ⟨gen, sz, overL els lo (els2.take n)⟩)] hg (fun p hp' => ?_) ?_ nx
  · rcases List.mem_cons.1 hp' with rfl | h
    · exact hbk
    · exact hl p h
  subst hgg
  intro s c a w hS hf hargs hrd
  have hev : ∀ z ∈ #[x, y], Rep c w (evA fr z) (a.eval z) := by
    intro z hz
    have hz' : z ∈ (Op.call ⟨.builtin .copy, #[x, y], #[t, t2]⟩).operands.toList := by simpa [Op.operands, Call.operands] using hz
    rw [← args_ev hargs z hz']
    exact hS.ev z
  have hrx := hev x (by simp)
  have hry := hev y (by simp)
  rw [hx] at hrx
  have hbb := hrd (b, ⟨gen, sz, els⟩) (by simp)
  obtain ⟨o, ho, hB⟩ := hS.hp b _ hbb
  simp only at ho
  obtain ⟨A2, cap2, news, N2, hc2, _, hA2⟩ := hy.news hS hry (fun p hp' => hrd p (by simp [hp']))
  have hdst : ∀ e, dst = some e → e < C.n := by
    intro e he
    subst he
    exact lt_of_blt hd
  have hin := und_slice ht hk
  have hsz := run_sizeOf hte w
  have hun := run_underlying' hin w
  generalize hux : a.eval x = ux at hrx
  cases hrx with
  | own _ _ _ _ A m cap hu hp' =>
    obtain ⟨rfl, k2, k3, k4, k0, k5⟩ := hp' o ho
    obtain ⟨hosz, hoz, holoc⟩ := hB.row k0
    simp only at hosz hoz holoc
    have hmin : (els2.take m).length = min els2.length m := by rw [List.length_take]; omega
    have hfit : lo + (els2.take m).length ≤ els.length := by omega
    -- the cells that are taken
    have hnl : (news.take (min els2.length m * sz)).length = min els2.length m * sz := by
      rw [List.length_take, N2.len]
      have : min els2.length m * sz ≤ els2.length * sz := Nat.mul_le_mul_right _ (Nat.min_le_left _ _)
      omega
    have hfirst : (Builtin.firstCells sz (min els2.length m) (.slice A2 els2.length cap2)).run C.P w = .ok (news.take (min els2.length m * sz)).toArray w := by
      cases A2 with
      | none =>
        have h0 := hA2 rfl
        have : els2.length = 0 := by omega
        simp [Builtin.firstCells, this]
      | some ad =>
        by_cases he : els2 = []
        · subst he
          simp [Builtin.firstCells, loadCells, loadCellsFrom]
        · obtain ⟨ad', e1, e2⟩ := N2.lie he
          obtain rfl := Option.some.inj e1
          exact run_firstCells_some (P := C.P) w sz (min els2.length m) ad els2.length cap2 _ hnl (fun j u hj => e2 j u (by rw [List.getElem?_take] at hj; split at hj; exact hj; cases hj))
    have hfirst' : (Builtin.firstCells te.size (min els2.length m) (.slice A2 els2.length cap2)).run C.P w = .ok (news.take (min els2.length m * sz)).toArray w := by rw [← h1]; exact hfirst
    have hrun0 : ∀ w', (match A with | some ad => (storeCells ad (news.take (min els2.length m * sz)) : Sem Unit) | none => pure ()).run C.P w = .ok () w' → (execOp a.eval ⟨dst, .call ⟨.builtin .copy, #[x, y], #[t, t2]⟩, ty, pos, after, gd⟩).run C.P w = .ok (.value (.int .i64 (min els2.length m : Nat))) w' := by
      intro w' h
      have : (Builtin.copy_ #[t, t2] ty #[.slice A m cap, .slice A2 els2.length cap2]).run C.P w = .ok (.int .i64 (min els2.length m : Nat)) w' := by
        cases A with
        | none =>
          simp only [Sem.run_pure, Result.ok.injEq, true_and] at h
          subst h
          simp [Builtin.copy_, hun, hsz, Builtin.lenOf, hfirst', goInt]
        | some ad =>
          simp only at h
          simp [Builtin.copy_, hun, hsz, Builtin.lenOf, hfirst', goInt, h]
      simp [execOp, resolve, invoke, builtin, hux, N2.val, this]
    rcases k5 with k5 | ⟨β, k5, k6, k7⟩
    · subst k5
      have hm0 : m = 0 := by omega
      subst hm0
      have hz : overL els lo (els2.take 0) = els := by simp [overL]
      have hw : (match A with | some ad => (storeCells ad (news.take (min els2.length 0 * sz)) : Sem Unit) | none => pure ()).run C.P w = .ok () w := by
        cases A <;> simp [storeCells]
      refine wp_value (hrun0 _ hw) ⟨c, ?_, fun g' hg' => .inl hg'⟩
      rw [hz]
      have := hS.put dst (.val (.int .i64 (min els2.length 0 : Nat))) (.int .i64 (min els2.length 0 : Nat)) hdst (fun _ => .val _)
      refine this.congr (fun _ => rfl) (fun b' => ?_)
      simp only [AS.app, List.nil_append, List.cons_append, lkH_cons]
      split
      · rename_i hbe; rw [hbe]; exact hbb
      · rfl
    · rw [k5] at holoc
      obtain ⟨cur, e', q1, q2, q3⟩ := holoc
      have hcs : (lo + m) * sz ≤ cur.size := by
        have k8 : (lo + m) * sz ≤ (lo + cap) * sz := Nat.mul_le_mul_right _ (by omega)
        rw [hosz] at k7
        omega
      have hle : min els2.length m * sz ≤ m * sz := Nat.mul_le_mul_right _ (Nat.min_le_right _ _)
      rw [Nat.add_mul] at hcs
      have hst := RowAt.store C.P (lo * sz) (news.take (min els2.length m * sz)) 0 q1 (by rw [hnl]; omega) (fun u hu => N2.one u (List.mem_of_mem_take hu))
      simp only [Nat.add_zero] at hst
      have hw : (match A with | some ad => (storeCells ad (news.take (min els2.length m * sz)) : Sem Unit) | none => pure ()).run C.P w = .ok () (w.setRow β (cur.toList.take (lo * sz) ++ news.take (min els2.length m * sz) ++ cur.toList.drop (lo * sz + (news.take (min els2.length m * sz)).length)).toArray) := by
        rw [k6, hosz]
        exact hst
      refine wp_value (hrun0 _ hw) ⟨_, hS.upd (w' := w.setRow β _) b ⟨gen, sz, overL els lo (els2.take m)⟩ o (.inr ho) rfl rfl rfl (by simp) (fun β' _ hne => setRow_other w β β' _ (fun e => hne (by rw [k5, e]))) (fun β' hβ => .inr ⟨gen, o, ho, hβ⟩) (fun hmono => .inl ⟨hosz, fun el hel => ?_, ?_⟩) dst _ _ hdst (fun _ _ => .val _), fun g' hg' => ?_⟩
      · unfold overL at hel
        rcases List.mem_append.1 hel with h | h
        · exact hoz el (List.mem_of_mem_take h)
        · rcases List.mem_append.1 h with h | h
          · exact N2.hsz el (List.mem_of_mem_take h)
          · exact hoz el (List.mem_of_mem_drop h)
      · rw [k5]
        simp only
        have e1 : cur.toList.length = cur.size := Array.length_toList
        refine row_intro (e := e') q1 q2 ?_ (fun i el f x hi hx => ?_)
        · simp only [List.size_toArray, List.length_append, List.length_take, List.length_drop, hnl]
          rw [e1, ← q2]
          simp only [List.length_take] at hnl
          omega
        · have hget : ∀ j, (cur.toList.take (lo * sz) ++ news.take (min els2.length m * sz) ++ cur.toList.drop (lo * sz + (news.take (min els2.length m * sz)).length)).toArray[j]? = if j < lo * sz then cur.toList[j]? else if j < lo * sz + min els2.length m * sz then news[j - lo * sz]? else cur.toList[j]? := by
            intro j
            rw [List.getElem?_toArray, list_over _ _ _ (by rw [e1, hnl]; omega) j, hnl]
            split
            · rfl
            · split
              · rw [List.getElem?_take, if_pos (by omega)]
              · rfl
          rw [hget]
          rw [overL_get hfit, hmin] at hi
          have hf2 : f < sz := by
            have hx' := (List.getElem?_eq_some_iff.1 hx).1
            have : el.length = sz := by
              split at hi
              · exact hoz el (List.mem_of_getElem? hi)
              · split at hi
                · rw [List.getElem?_take] at hi
                  split at hi
                  · exact N2.hsz el (List.mem_of_getElem? hi)
                  · cases hi
                · exact hoz el (List.mem_of_getElem? hi)
            omega
          by_cases hi1 : i < lo
          · rw [if_pos hi1] at hi
            have : (i + 1) * sz ≤ lo * sz := Nat.mul_le_mul_right _ hi1
            rw [Nat.add_mul] at this
            rw [if_pos (by omega)]
            obtain ⟨u, r1, r2, r3⟩ := q3 i el f x hi hx
            exact ⟨u, by simpa using r1, r2, r3.mono hmono⟩
          · rw [if_neg hi1] at hi
            have hge : lo * sz ≤ i * sz := Nat.mul_le_mul_right _ (by omega)
            by_cases hi2 : i < lo + min els2.length m
            · rw [if_pos hi2, List.getElem?_take, if_pos (by omega)] at hi
              have : (i + 1) * sz ≤ (lo + min els2.length m) * sz := Nat.mul_le_mul_right _ hi2
              rw [Nat.add_mul, Nat.add_mul] at this
              rw [if_neg (by omega), if_pos (by omega)]
              obtain ⟨u, r1, r2, r3⟩ := N2.rep _ el f x hi hx
              refine ⟨u, ?_, r2, r3.mono hmono⟩
              rw [← r1]
              congr 1
              rw [Nat.sub_mul]
              omega
            · rw [if_neg hi2] at hi
              have : (lo + min els2.length m) * sz ≤ i * sz := Nat.mul_le_mul_right _ (by omega)
              rw [Nat.add_mul] at this
              rw [if_neg (by omega), if_neg (by omega)]
              obtain ⟨u, r1, r2, r3⟩ := q3 i el f x hi hx
              exact ⟨u, by simpa using r1, r2, r3.mono hmono⟩
      · rcases hg' with h | h
        · exact .inl h
        · left
          simp only at h
          rw [h]
          exact (hS.al b gen _ ho).1
end
end Go.Proofs.Ytedfegoafallhaa
