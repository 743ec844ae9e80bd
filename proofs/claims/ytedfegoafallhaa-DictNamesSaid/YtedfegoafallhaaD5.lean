/- Nothing as a row of the call's own; slices by their parts; whole rows that are read. -/
import Derived.Test.YtedfegoafallhaaD4
namespace Go.Proofs.Ytedfegoafallhaa
set_option linter.unusedVariables false
set_option linter.unusedSimpArgs false
open Go Go.RowKit
set_option maxRecDepth 100000

theorem SrcA.ownW {fr : List (Nat × AV)} {hp : List (Nat × Option Blk)} {x : Operand} {sz b g n gen : Nat} {els : List (List AV)} (hx : evA fr x = .own b g 0 n) (hb : lkH hp b = some ⟨gen, sz, els⟩) (hg : gen = g) (hn : els.length = n) : SrcA fr hp x sz els [(b, ⟨gen, sz, els⟩)] :=
  .own hx hb hg (by omega) (by subst hn; rw [List.drop_zero, List.take_length])

theorem own_closed_app {α : Type} {f : α → List AV} {l : List α} {el2 : List AV} (h : ∀ a x, x ∈ f a → Closed x) (h2 : ∀ x, x ∈ el2 → Closed x) : ∀ el x, el ∈ l.map f ++ [el2] → x ∈ el → Closed x := fun el x hel hx => by
  rcases List.mem_append.1 hel with h' | h'
  · obtain ⟨a, _, rfl⟩ := List.mem_map.1 h'
    exact h a x hx
  · rw [List.mem_singleton.1 h'] at hx
    exact h2 x hx
theorem take_succ' {α : Type} {l : List α} {k : Nat} {x : α} (h : l[k]? = some x) : l.take (k + 1) = l.take k ++ [x] := by
  rw [List.take_add_one, h]; rfl
theorem put_same (a : Act) (t : Nat) : a.put (some t) (a.tmps.getD t undef) = a := by
  have : a.tmps.setIfInBounds t (a.tmps.getD t undef) = a.tmps := by
    apply Array.ext_getElem?
    intro i
    rw [Array.getElem?_setIfInBounds]
    split
    · rename_i h
      subst h
      split
      · rename_i h
        simp [Array.getD_eq_getD_getElem?, h]
      · rename_i h
        rw [Array.getElem?_eq_none (by omega)]
    · rfl
  unfold Act.put
  simp only [this]

/-- A slice of nothing is a row of the call's own that has no elements. -/
theorem awp_ownNil {C : ACtx} {fr : List (Nat × AV)} {hp : List (Nat × Option Blk)} {gc : Nat} {c : Code} {Q : Exit → AS → Prop} (t sz : Nat) {s0 : Nat} (h : lkA fr t = .sl s0 true []) (hsz : Nat.blt 0 sz = true) (ht : Nat.blt t C.n = true)
    (k : awp C c ⟨(t, .own t gc 0 0) :: fr, (t, some ⟨gc, sz, []⟩) :: hp, gc + 1⟩ Q) : awp C c ⟨fr, hp, gc⟩ Q := by
  refine awp_weaken (fun a w ⟨c0, hS, hu⟩ => ?_) k
  have hr := hS.fr t
  simp only [h] at hr
  have h0 := lt_of_blt hsz
  have := hS.upd (w' := w) t ⟨gc, sz, []⟩ ⟨none, sz, 0⟩ (.inl (fun hg => by have := hu _ hg; simp only at this; omega)) rfl rfl rfl (Nat.le_refl _) (fun _ _ _ => rfl) (fun β hβ => by cases hβ) (fun _ => .inl ⟨rfl, (fun el h => by cases h), rfl⟩) (some t) (.own t gc 0 0) (a.tmps.getD t undef) (dst_lt ht) (fun _ _ => by
    generalize a.tmps.getD t undef = u at hr
    cases hr with
    | sl _ _ _ A cap β o us a1 a2 a3 a4 a5 a6 a7 a8 =>
      have hc := a3 rfl
      simp only [List.length_nil] at hc
      subst hc
      refine .own t gc 0 0 A 0 0 (.inr rfl) (fun q hq => ?_)
      simp [RC.upd] at hq
      subst hq
      exact ⟨rfl, Nat.le_refl _, Nat.zero_le _, fun _ => rfl, h0, .inl rfl⟩)
  rw [put_same] at this
  refine ⟨_, this.congr (fun _ => rfl) (fun _ => rfl), fun g hg => ?_⟩
  rcases hg with h | h
  · exact Nat.lt_succ_of_lt (hu g h)
  · simp only at h ⊢
    omega

section
variable {C : ACtx} {ops : Array Oper} {K : AS → List (List Nat × List Nat) → Prop} {k : Nat} {rest : List Oper} {fr : List (Nat × AV)} {hp : List (Nat × Option Blk)} {gc : Nat} {fps : List (List Nat × List Nat)}
  {d : Nat} {ty : TypeId} {pos : String} {after : Array Edge} {gd : Option (Nat × Bool)} {x y z : Operand} {v : AV}
/-- 's[l:]' where s falls into two. -/
theorem ARun.sliceFrom {t e sz : Nat} {full : Bool} {els pre post : List (List AV)} {ti te : TI} {kk : IntKind} {i : Int} (hx : evA fr x = .sl sz full els) (hs : els = pre ++ post) (hy : evA fr y = .val (.int kk i)) (hi : i = (pre.length : Nat)) (ht : C.T t = some ti) (hk : ti.k = .slice e) (hte : C.T e = some te) (hz : sz = te.size)
    (hd : Nat.blt d C.n = true) (hg : guardIs ops ⟨fr, hp, gc⟩ ⟨some d, .slice t x (some y) none none, ty, pos, after, gd⟩ true)
    (nx : ARun C ops K (k + 1) rest ⟨(d, .sl sz full post) :: fr, hp, gc⟩ (fps ++ [([], [])])) : ARun C ops K k (⟨some d, .slice t x (some y) none none, ty, pos, after, gd⟩ :: rest) ⟨fr, hp, gc⟩ fps := by
  subst hs
  subst hi
  refine ARun.slice hx (.som 0 hy (by omega)) (.non _) ?_ (Nat.le_refl _) ht hk hte (.inr hz) hd hg ?_
  · rw [Int.toNat_natCast, List.length_append]; omega
  · have e1 : (List.drop ((pre.length : Nat) : Int).toNat (pre ++ post)).take ((pre ++ post).length - ((pre.length : Nat) : Int).toNat) = post := by
      rw [Int.toNat_natCast, List.drop_left, List.length_append, Nat.add_sub_cancel_left, List.take_length]
    rw [e1]
    simpa using nx
/-- 's[:h]' where s falls into two. -/
theorem ARun.sliceTo {t e sz : Nat} {full : Bool} {els pre post : List (List AV)} {ti te : TI} {kk : IntKind} {i : Int} (hx : evA fr x = .sl sz full els) (hs : els = pre ++ post) (hy : evA fr y = .val (.int kk i)) (hi : i = (pre.length : Nat)) (ht : C.T t = some ti) (hk : ti.k = .slice e) (hte : C.T e = some te) (hz : sz = te.size)
    (hd : Nat.blt d C.n = true) (hg : guardIs ops ⟨fr, hp, gc⟩ ⟨some d, .slice t x none (some y) none, ty, pos, after, gd⟩ true)
    (nx : ARun C ops K (k + 1) rest ⟨(d, .sl sz false pre) :: fr, hp, gc⟩ (fps ++ [([], [])])) : ARun C ops K k (⟨some d, .slice t x none (some y) none, ty, pos, after, gd⟩ :: rest) ⟨fr, hp, gc⟩ fps := by
  subst hs
  subst hi
  have h2 : ((pre.length : Nat) : Int).toNat ≤ (pre ++ post).length := by rw [Int.toNat_natCast, List.length_append]; omega
  refine ARun.step (.sl sz false pre) [] [] hg (by simp) ?_ nx
  refine does_quiet (dst_lt hd) (fun s c a w hS hev _ => ?_)
  have h1' := hev x (by simp [Op.operands])
  rw [hx] at h1'
  obtain ⟨A, cap, hu⟩ : ∃ A cap, a.eval x = .slice A (pre ++ post).length cap := by
    generalize a.eval x = u at h1'
    cases h1'
    exact ⟨_, _, rfl⟩
  rw [hu] at h1'
  have hcap : (pre ++ post).length ≤ cap := by
    generalize hcs : Value.slice A (pre ++ post).length cap = u at h1'
    cases h1'
    simp only [Value.slice.injEq] at hcs
    obtain ⟨rfl, _, rfl⟩ := hcs
    assumption
  have hb := run_sliceBounds' (P := C.P) (isSlice := true) (len := (pre ++ post).length) (cap := cap) (l := 0) (Bnd.non (fr := fr) 0) (Bnd.som _ hy (by omega)) (fun z hz => by cases hz) (fun z hz => by cases hz; exact hev y (by simp [Op.operands])) (by omega) (by omega)
  simp only [Option.map_none, Option.map_some] at hb
  have hr := run_sliceAt ht hk hte w A (pre ++ post).length cap 0 _ cap _ _ _ hb
  refine ⟨_, show (execOp a.eval ⟨some d, .slice t x none (some y) none, ty, pos, after, gd⟩).run C.P w = .ok (.value _) w from by
    rw [show execOp a.eval ⟨some d, .slice t x none (some y) none, ty, pos, after, gd⟩ = (do let v ← Instr.sliceAt t (a.eval x) none (some (a.eval y)) none; pure (.value v)) from rfl, Sem.run_bind, hu, hr]
    rfl, ?_⟩
  have hc := sl_cut (full' := false) h1' (Nat.zero_le _) h2 (by omega) (Nat.le_refl _) (fun hf => by cases hf) te.size (.inr hz)
  have e1 : ((pre ++ post).drop 0).take (((pre.length : Nat) : Int).toNat - 0) = pre := by
    rw [Int.toNat_natCast, List.drop_zero, Nat.sub_zero, List.take_left]
  rw [e1] at hc
  exact hc
/-- 's[l:h]' where s falls into three. -/
theorem ARun.sliceMid {t e sz : Nat} {full : Bool} {els pre mid post : List (List AV)} {ti te : TI} {kk kk' : IntKind} {i i' : Int} (hx : evA fr x = .sl sz full els) (hs : els = pre ++ (mid ++ post)) (hy : evA fr y = .val (.int kk i)) (hi : i = (pre.length : Nat)) (hz' : evA fr z = .val (.int kk' i')) (hi' : i' = ((pre.length + mid.length : Nat) : Int)) (ht : C.T t = some ti) (hk : ti.k = .slice e) (hte : C.T e = some te) (hz : sz = te.size)
    (hd : Nat.blt d C.n = true) (hg : guardIs ops ⟨fr, hp, gc⟩ ⟨some d, .slice t x (some y) (some z) none, ty, pos, after, gd⟩ true)
    (nx : ARun C ops K (k + 1) rest ⟨(d, .sl sz false mid) :: fr, hp, gc⟩ (fps ++ [([], [])])) : ARun C ops K k (⟨some d, .slice t x (some y) (some z) none, ty, pos, after, gd⟩ :: rest) ⟨fr, hp, gc⟩ fps := by
  subst hs
  subst hi
  subst hi'
  have hN : (pre ++ (mid ++ post)).length = pre.length + mid.length + post.length := by simp only [List.length_append]; omega
  refine ARun.step (.sl sz false mid) [] [] hg (by simp) ?_ nx
  refine does_quiet (dst_lt hd) (fun s c a w hS hev _ => ?_)
  have h1' := hev x (by simp [Op.operands])
  rw [hx] at h1'
  obtain ⟨A, cap, hu⟩ : ∃ A cap, a.eval x = .slice A (pre ++ (mid ++ post)).length cap := by
    generalize a.eval x = u at h1'
    cases h1'
    exact ⟨_, _, rfl⟩
  rw [hu] at h1'
  have hcap : (pre ++ (mid ++ post)).length ≤ cap := by
    generalize hcs : Value.slice A (pre ++ (mid ++ post)).length cap = u at h1'
    cases h1'
    simp only [Value.slice.injEq] at hcs
    obtain ⟨rfl, _, rfl⟩ := hcs
    assumption
  have hb := run_sliceBounds' (P := C.P) (isSlice := true) (len := (pre ++ (mid ++ post)).length) (cap := cap) (Bnd.som 0 hy (by omega)) (Bnd.som _ hz' (by omega)) (fun z hz => by cases hz; exact hev y (by simp [Op.operands])) (fun z' hz => by cases hz; exact hev z (by simp [Op.operands])) (by omega) (by omega)
  simp only [Option.map_some] at hb
  have hr := run_sliceAt ht hk hte w A (pre ++ (mid ++ post)).length cap _ _ cap _ _ _ hb
  refine ⟨_, show (execOp a.eval ⟨some d, .slice t x (some y) (some z) none, ty, pos, after, gd⟩).run C.P w = .ok (.value _) w from by
    rw [show execOp a.eval ⟨some d, .slice t x (some y) (some z) none, ty, pos, after, gd⟩ = (do let v ← Instr.sliceAt t (a.eval x) (some (a.eval y)) (some (a.eval z)) none; pure (.value v)) from rfl, Sem.run_bind, hu, hr]
    rfl, ?_⟩
  have hc := sl_cut (full' := false) h1' (l := ((pre.length : Nat) : Int).toNat) (h := ((pre.length + mid.length : Nat) : Int).toNat) (m := cap) (by omega) (by omega) (by omega) (Nat.le_refl _) (fun hf => by cases hf) te.size (.inr hz)
  have e1 : ((pre ++ (mid ++ post)).drop ((pre.length : Nat) : Int).toNat).take (((pre.length + mid.length : Nat) : Int).toNat - ((pre.length : Nat) : Int).toNat) = mid := by
    rw [Int.toNat_natCast, Int.toNat_natCast, List.drop_left, Nat.add_sub_cancel_left, List.take_left]
  rw [e1] at hc
  exact hc
/-- 's[:0]' of nothing. -/
theorem ARun.sliceEmpty {t e sz : Nat} {full : Bool} {ti te : TI} {kk : IntKind} {i : Int} (hx : evA fr x = .sl sz full []) (hy : evA fr y = .val (.int kk i)) (hi : i = 0) (ht : C.T t = some ti) (hk : ti.k = .slice e) (hte : C.T e = some te)
    (hd : Nat.blt d C.n = true) (hg : guardIs ops ⟨fr, hp, gc⟩ ⟨some d, .slice t x none (some y) none, ty, pos, after, gd⟩ true)
    (nx : ARun C ops K (k + 1) rest ⟨(d, .sl sz full []) :: fr, hp, gc⟩ (fps ++ [([], [])])) : ARun C ops K k (⟨some d, .slice t x none (some y) none, ty, pos, after, gd⟩ :: rest) ⟨fr, hp, gc⟩ fps := by
  subst hi
  refine ARun.slice hx (.non _) (.som _ hy (by omega)) (Nat.zero_le _) (by simp) ht hk hte (.inl rfl) hd hg ?_
  have e1 : (([] : List (List AV)).drop 0).take ((0 : Int).toNat - 0) = [] := by simp
  have e2 : (full && (0 : Int).toNat == ([] : List (List AV)).length) = full := by simp
  rw [e1, e2]
  exact nx
/-- 's[:m]' of a row of the call's own. -/
theorem ARun.sliceOwnTo {t e b g j n m : Nat} {blk : Blk} {ti te : TI} {kk : IntKind} {i : Int} (hx : evA fr x = .own b g j n) (hbk : lkH hp b = some blk) (hgg : blk.gen = g) (hy : evA fr y = .val (.int kk i)) (hi : i = (m : Nat)) (hm : m ≤ n) (ht : C.T t = some ti) (hk : ti.k = .slice e) (hte : C.T e = some te) (hs : blk.sz = te.size)
    (hd : Nat.blt d C.n = true) (hg : guardIs ops ⟨fr, hp, gc⟩ ⟨some d, .slice t x none (some y) none, ty, pos, after, gd⟩ true)
    (nx : ARun C ops K (k + 1) rest ⟨(d, .own b g j m) :: fr, hp, gc⟩ (fps ++ [([b], [])])) : ARun C ops K k (⟨some d, .slice t x none (some y) none, ty, pos, after, gd⟩ :: rest) ⟨fr, hp, gc⟩ fps := by
  subst hi
  refine ARun.slice_own hx hbk hgg (.non _) (.som _ hy (by omega)) (Nat.zero_le _) (by omega) ht hk hte hs hd hg ?_
  rw [Int.toNat_natCast, Nat.add_zero, Nat.sub_zero]
  exact nx
/-- 's[m:]' of a row of the call's own. -/
theorem ARun.sliceOwnFrom {t e b g j n m : Nat} {blk : Blk} {ti te : TI} {kk : IntKind} {i : Int} (hx : evA fr x = .own b g j n) (hbk : lkH hp b = some blk) (hgg : blk.gen = g) (hy : evA fr y = .val (.int kk i)) (hi : i = (m : Nat)) (hm : m ≤ n) (ht : C.T t = some ti) (hk : ti.k = .slice e) (hte : C.T e = some te) (hs : blk.sz = te.size)
    (hd : Nat.blt d C.n = true) (hg : guardIs ops ⟨fr, hp, gc⟩ ⟨some d, .slice t x (some y) none none, ty, pos, after, gd⟩ true)
    (nx : ARun C ops K (k + 1) rest ⟨(d, .own b g (j + m) (n - m)) :: fr, hp, gc⟩ (fps ++ [([b], [])])) : ARun C ops K k (⟨some d, .slice t x (some y) none none, ty, pos, after, gd⟩ :: rest) ⟨fr, hp, gc⟩ fps := by
  subst hi
  refine ARun.slice_own hx hbk hgg (.som _ hy (by omega)) (.non _) (by omega) (Nat.le_refl _) ht hk hte hs hd hg ?_
  rw [Int.toNat_natCast]
  exact nx
/-- 's[:len(s):len(s)]'. -/
theorem ARun.sliceClip {t e sz : Nat} {full : Bool} {els : List (List AV)} {ti te : TI} {kk kk' : IntKind} (hx : evA fr x = .sl sz full els) (hy : evA fr y = .val (.int kk els.length)) (hz' : evA fr z = .val (.int kk' els.length)) (ht : C.T t = some ti) (hk : ti.k = .slice e) (hte : C.T e = some te) (hz : els = [] ∨ sz = te.size)
    (hd : Nat.blt d C.n = true) (hg : guardIs ops ⟨fr, hp, gc⟩ ⟨some d, .slice t x none (some y) (some z), ty, pos, after, gd⟩ true)
    (nx : ARun C ops K (k + 1) rest ⟨(d, .sl sz true els) :: fr, hp, gc⟩ (fps ++ [([], [])])) : ARun C ops K k (⟨some d, .slice t x none (some y) (some z), ty, pos, after, gd⟩ :: rest) ⟨fr, hp, gc⟩ fps := by
  refine ARun.slice3 hx (.non _) (.som 0 hy (by omega)) (.som 0 hz' (by omega)) (Nat.zero_le _) (by omega) (Nat.le_refl _) (by omega) ht hk hte hz hd hg ?_
  have e1 : (els.drop 0).take (((els.length : Nat) : Int).toNat - 0) = els := by
    rw [Int.toNat_natCast, List.drop_zero, Nat.sub_zero, List.take_length]
  have e2 : (((els.length : Nat) : Int).toNat == ((els.length : Nat) : Int).toNat) = true := by simp
  rw [e1, e2]
  exact nx
end

section
variable {P : Program} {T : Nat → Option TI} {ok : ∀ t ti, T t = some ti → tiOf P t = some ti} {nn : Nat} {w0 : World} {st0 lent : Nat → Prop} {rdd : Option Nat × Bool} {c00 : RC} {ops : Array Oper} {K : AS → List (List Nat × List Nat) → Prop} {k : Nat} {rest : List Oper} {fr : List (Nat × AV)} {hp : List (Nat × Option Blk)} {gc : Nat} {fps : List (List Nat × List Nat)}
  {d : Nat} {ty : TypeId} {pos : String} {after : Array Edge} {gd : Option (Nat × Bool)} {v : AV}
theorem callGX {dst : Option Nat} {fx : Operand} {args : Array Operand} {ats : Array TypeId} {f : FuncId} {avs : List AV} (bs : List (Nat × Blk)) (hF : FnC P f avs v) (hb : BsOk hp bs) (hf : evA fr fx = .val (.func (.func f) #[] #[])) (ha : FzL bs (args.toList.map (evA fr)) avs)
    (hd : (match dst with | some d => Nat.blt d nn | none => true) = true) (hg : guardF ops fr ⟨dst, .call ⟨.value fx, args, ats⟩, ty, pos, after, gd⟩ = some true)
    (nx : ARun ⟨P, T, ok, nn, w0, st0, lent, rdd, c00⟩ ops K (k + 1) rest ⟨putFr fr dst v, bs.map (fun p => (p.1, none)) ++ hp, gc⟩ (fps ++ [(bs.map (·.1), bs.map (·.1))])) : ARun ⟨P, T, ok, nn, w0, st0, lent, rdd, c00⟩ ops K k (⟨dst, .call ⟨.value fx, args, ats⟩, ty, pos, after, gd⟩ :: rest) ⟨fr, hp, gc⟩ fps :=
  ARun.callG bs hF hf ha hb hd (guardF_spec hg) nx
theorem callOX {fx : Operand} {args : Array Operand} {ats : Array TypeId} {f : FuncId} {avs : List AV} {sz : Nat} {els : List (List AV)} {res : Nat → Nat → AV} (bs : List (Nat × Blk)) (hF : FnO P f avs sz els res) (hb : BsOk hp bs) (hf : evA fr fx = .val (.func (.func f) #[] #[])) (ha : FzL bs (args.toList.map (evA fr)) avs)
    (hd : Nat.blt d nn = true) (hg : guardF ops fr ⟨some d, .call ⟨.value fx, args, ats⟩, ty, pos, after, gd⟩ = some true)
    (nx : ARun ⟨P, T, ok, nn, w0, st0, lent, rdd, c00⟩ ops K (k + 1) rest ⟨(d, res d (gc + k)) :: fr, (d, some ⟨gc + k, sz, els⟩) :: (bs.map (fun p => (p.1, none)) ++ hp), gc⟩ (fps ++ [(bs.map (·.1), d :: bs.map (·.1))])) : ARun ⟨P, T, ok, nn, w0, st0, lent, rdd, c00⟩ ops K k (⟨some d, .call ⟨.value fx, args, ats⟩, ty, pos, after, gd⟩ :: rest) ⟨fr, hp, gc⟩ fps :=
  ARun.callO bs hF hf ha hb hd (guardF_spec hg) nx
end
/-- The nought of a struct. -/
theorem zeroAgg {C : ACtx} {t : Nat} {te : TI} (ht : C.T t = some te) (hz1 : te.zero.all Value.oneCell' = true) (hl : te.zero.length ≠ 1) : ∃ z, C.P.info? t = some z ∧ ∃ zz, z.zero = some zz ∧ ∀ c w, Rep c w (.agg (te.zero.map zv)) zz := by
  obtain ⟨u, i, z, hu, hi, hz, rfl⟩ := ti_get ht
  refine ⟨i, hi, z, hz, fun c w => ?_⟩
  simp only at hl hz1
  obtain ⟨q1, q2⟩ := zeros_rep (c := c) (w := w) (z := z.cells) rfl hz1
  have hz' : z = .agg z.cells := by
    cases z <;> first | rfl | (exfalso; apply hl; simp [Value.cells]; done)
  have h3 := agg_rep q1 q2
  rw [← hz'] at h3
  exact h3
theorem clo_nil : ∀ el x, el ∈ ([] : List (List AV)) → x ∈ el → Closed x := fun el x h => by cases h
end Go.Proofs.Ytedfegoafallhaa
