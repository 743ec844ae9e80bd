/- Function values: made, and called. -/
import Derived.Test.YtedfegoafallhaaD5
namespace Go.Proofs.Ytedfegoafallhaa
set_option linter.unusedVariables false
set_option linter.unusedSimpArgs false
open Go Go.RowKit
set_option maxRecDepth 100000

section
variable {C : ACtx} {ops : Array Oper} {K : AS → List (List Nat × List Nat) → Prop} {k : Nat} {rest : List Oper} {fr : List (Nat × AV)} {hp : List (Nat × Option Blk)} {gc : Nat} {fps : List (List Nat × List Nat)}
  {d : Nat} {ty : TypeId} {pos : String} {after : Array Edge} {gd : Option (Nat × Bool)} {x y z : Operand} {v : AV}

theorem map_rep {c : RC} {w : World} {a : Act} {fr : List (Nat × AV)} (l : List Operand) (h : ∀ z, z ∈ l → Rep c w (evA fr z) (a.eval z)) : ∀ (i : Nat) (x : AV) (u : Value), (l.map (evA fr))[i]? = some x → (l.map a.eval)[i]? = some u → Rep c w x u := fun i x u hx hu => by
  rw [List.getElem?_map] at hx hu
  cases hi : l[i]? with
  | none => rw [hi] at hx; cases hx
  | some z =>
    rw [hi] at hx hu
    simp only [Option.map_some, Option.some.injEq] at hx hu
    subst hx
    subst hu
    exact h z (List.mem_of_getElem? hi)

/-- 'make', of so many. -/
theorem ARun.makeSliceN {t e : Nat} {ti te : TI} {kx ky : IntKind} {i j : Int} {n : Nat} (hx : evA fr x = .val (.int kx i)) (hi : i = (n : Nat)) (hy : evA fr y = .val (.int ky j)) (hj : j = (n : Nat)) (ht : C.T t = some ti) (hk : ti.k = .slice e) (hte : C.T e = some te) (hz1 : te.zero.all Value.oneCell' = true) (hzl : te.zero.length = te.size) (h0 : Nat.blt 0 te.size = true)
    (hb : (te.bytes : Int) * n ≤ 281474976710656) (hd : Nat.blt d C.n = true) (hg : guardIs ops ⟨fr, hp, gc⟩ ⟨some d, .makeSlice t x y, ty, pos, after, gd⟩ true) (hm : (n : Int) ≤ 9223372036854775807)
    (nx : ARun C ops K (k + 1) rest ⟨(d, .own d (gc + k) 0 n) :: fr, (d, some ⟨gc + k, te.size, List.replicate n (te.zero.map zv)⟩) :: hp, gc⟩ (fps ++ [([], [d])])) : ARun C ops K k (⟨some d, .makeSlice t x y, ty, pos, after, gd⟩ :: rest) ⟨fr, hp, gc⟩ fps := by
  subst hi
  subst hj
  refine ARun.makeSlice hx hy (by omega) (Int.le_refl _) ht hk hte hz1 hzl h0 hb hm hd hg ?_
  rw [Int.toNat_natCast]
  exact nx
/-- 'copy', told what comes of it. -/
theorem ARun.copyE {d : Nat} {t t2 e b g lo n gen sz : Nat} {ti te : TI} {els els2 els' : List (List AV)} {rd : List (Nat × Blk)} (hx : evA fr x = .own b g lo n) (hbk : lkH hp b = some ⟨gen, sz, els⟩) (hgg : gen = g) (hn : lo + n ≤ els.length) (hy : SrcA fr hp y sz els2 rd) (ht : C.T t = some ti) (hk : ti.k = .slice e) (hte : C.T e = some te)
    (h1 : sz = te.size) (he : overL els lo (els2.take n) = els') (hd : Nat.blt d C.n = true) (hg : guardIs ops ⟨fr, hp, gc⟩ ⟨some d, .call ⟨.builtin .copy, #[x, y], #[t, t2]⟩, ty, pos, after, gd⟩ true)
    (nx : ARun C ops K (k + 1) rest ⟨(d, .val (.int .i64 (min els2.length n : Nat))) :: fr, (b, some ⟨gen, sz, els'⟩) :: hp, gc⟩ (fps ++ [(b :: rd.map (·.1), [b])])) :
    ARun C ops K k (⟨some d, .call ⟨.builtin .copy, #[x, y], #[t, t2]⟩, ty, pos, after, gd⟩ :: rest) ⟨fr, hp, gc⟩ fps := by
  subst he
  exact ARun.copy hx hbk hgg hn hy ht hk hte h1 hd hg nx

theorem setAts_all : ∀ (l cs : List AV), cs.length = l.length → SetAts l 0 cs cs
  | [], [], _ => .done []
  | [], _ :: _, h => by simp at h
  | _ :: _, [], h => by simp at h
  | x :: l, c :: cs, h => .here (setAts_all l cs (by simpa using h))
/-- A whole element of a row is written. -/
theorem ARun.storeEl {t : Nat} {ti : TI} {b g i gen sz : Nat} {els els' : List (List AV)} {cs : List AV} (hx : evA fr x = .ptr b g i 0) (hb : lkH hp b = some ⟨gen, sz, els⟩) (hgg : gen = g) (hi : i < els.length) (hel : ∀ el, el ∈ els → el.length = sz) (ht : C.T t = some ti) (hc : cellsA (evA fr y) = some cs) (hl : cs.length = ti.size) (hs : sz = ti.size) (h0 : Nat.blt 0 ti.size = true)
    (he : els.set i cs = els') (hg : guardIs ops ⟨fr, hp, gc⟩ ⟨none, .store t x y, ty, pos, after, gd⟩ true)
    (nx : ARun C ops K (k + 1) rest ⟨fr, (b, some ⟨gen, sz, els'⟩) :: hp, gc⟩ (fps ++ [([b], [b])])) : ARun C ops K k (⟨none, .store t x y, ty, pos, after, gd⟩ :: rest) ⟨fr, hp, gc⟩ fps := by
  subst he
  have h1 : els[i]? = some els[i] := List.getElem?_eq_getElem hi
  have h2 := hel _ (List.getElem_mem hi)
  exact ARun.store hx hb hgg h1 ht hc hl h0 (setAts_all _ _ (by omega)) hg nx
theorem map_len {α : Type} {f : α → List AV} {l : List α} {n : Nat} (h : ∀ a, (f a).length = n) : ∀ el, el ∈ l.map f → el.length = n := fun el hel => by
  obtain ⟨a, _, rfl⟩ := List.mem_map.1 hel
  exact h a

/-- A function value. -/
theorem ARun.makeFunc {f : Fn} {first cap : Array Operand} {fs cs : List AV} (hf : first.toList.map (evA fr) = fs) (hc : cap.toList.map (evA fr) = cs) (hd : Nat.blt d C.n = true) (hg : guardIs ops ⟨fr, hp, gc⟩ ⟨some d, .makeFunc f first cap, ty, pos, after, gd⟩ true)
    (nx : ARun C ops K (k + 1) rest ⟨(d, .clo f fs cs) :: fr, hp, gc⟩ (fps ++ [([], [])])) : ARun C ops K k (⟨some d, .makeFunc f first cap, ty, pos, after, gd⟩ :: rest) ⟨fr, hp, gc⟩ fps :=
  ARun.quiet hd hg [] (by simp) (fun s c a w hS hev _ => by
    subst hf
    subst hc
    refine ⟨.func f (first.map a.eval) (cap.map a.eval), rfl, ?_⟩
    have e1 : first.map a.eval = (first.toList.map a.eval).toArray := by apply Array.ext'; simp
    have e2 : cap.map a.eval = (cap.toList.map a.eval).toArray := by apply Array.ext'; simp
    rw [e1, e2]
    exact .clo f _ _ _ _ (by simp) (by simp) (map_rep first.toList (fun z hz => hev z (by simp [Op.operands]; exact .inl (by simpa using hz)))) (map_rep cap.toList (fun z hz => hev z (by simp [Op.operands]; exact .inr (by simpa using hz))))) nx

theorem rep_append {c : RC} {w : World} {l l' : List AV} {us us' : List Value} (h1 : us.length = l.length) (h2 : ∀ (i : Nat) (x : AV) (u : Value), l[i]? = some x → us[i]? = some u → Rep c w x u) (h3 : ∀ (i : Nat) (x : AV) (u : Value), l'[i]? = some x → us'[i]? = some u → Rep c w x u) :
    ∀ (i : Nat) (x : AV) (u : Value), (l ++ l')[i]? = some x → (us ++ us')[i]? = some u → Rep c w x u := fun i x u hx hu => by
  rcases Nat.lt_or_ge i l.length with h | h
  · rw [List.getElem?_append_left h] at hx
    rw [List.getElem?_append_left (by omega)] at hu
    exact h2 i x u hx hu
  · rw [List.getElem?_append_right h] at hx
    rw [List.getElem?_append_right (by omega)] at hu
    rw [h1] at hu
    exact h3 _ x u hx hu

/-- A call of a function value. -/
theorem ARun.callC {dst : Option Nat} {fx : Operand} {args : Array Operand} {ats : Array TypeId} {f : FuncId} {first cap avs : List AV} (hF : FnC C.P f avs v) (hf : evA fr fx = .clo (.func f) first cap) (ha : first ++ args.toList.map (evA fr) ++ cap = avs)
    (hd : (match dst with | some d => Nat.blt d C.n | none => true) = true) (hg : guardIs ops ⟨fr, hp, gc⟩ ⟨dst, .call ⟨.value fx, args, ats⟩, ty, pos, after, gd⟩ true)
    (nx : ARun C ops K (k + 1) rest ⟨putFr fr dst v, hp, gc⟩ (fps ++ [([], [])])) : ARun C ops K k (⟨dst, .call ⟨.value fx, args, ats⟩, ty, pos, after, gd⟩ :: rest) ⟨fr, hp, gc⟩ fps := by
  refine ARun.step v [] [] hg (by simp) ?_ nx
  intro s c a w hS _ hargs _
  have hdst : ∀ e, dst = some e → e < C.n := by
    intro e he
    subst he
    exact lt_of_blt hd
  have hev : ∀ z ∈ #[fx] ++ args, Rep c w (evA fr z) (a.eval z) := by
    intro z hz
    have hz' : z ∈ (Op.call ⟨.value fx, args, ats⟩).operands.toList := by simpa [Op.operands, Call.operands] using hz
    rw [← args_ev hargs z hz']
    exact hS.ev z
  have h1 := hev fx (by simp)
  rw [hf] at h1
  obtain ⟨F1, F2⟩ := hF
  generalize hux : a.eval fx = ux at h1
  cases h1 with
  | clo _ _ _ us vs hl hl' hr hr' =>
    have hm := map_rep (c := c) (w := w) (a := a) (fr := fr) args.toList (fun z hz => hev z (Array.mem_append.2 (.inr (Array.mem_toList_iff.1 hz))))
    have hall := rep_append (l := first ++ args.toList.map (evA fr)) (l' := cap) (us := us ++ args.toList.map a.eval) (us' := vs) (by simp [hl]) (rep_append hl hr hm) hr'
    rw [ha] at hall
    have hlen : (us ++ args.toList.map a.eval ++ vs).length = avs.length := by rw [← ha]; simp [hl, hl']
    have hC := F2 w c.st (us ++ args.toList.map a.eval ++ vs) (fun β hb => (hS.st β hb).1) hlen (fun i x u hx hu => (hall i x u hx hu).mono (c := c) (c' := RC.pure c.st) (w' := w) (Mono.mk (fun β hb => ⟨hb, rfl⟩) (fun _ _ => trivial) (fun b g o _ h => by cases h)))
    have hrun : (execOp a.eval ⟨dst, .call ⟨.value fx, args, ats⟩, ty, pos, after, gd⟩).run C.P w = .ok (.enter f (us ++ args.toList.map a.eval ++ vs).toArray) w := by
      have e : us.toArray ++ args.map a.eval ++ vs.toArray = (us ++ args.toList.map a.eval ++ vs).toArray := by
        apply Array.ext'
        simp
      rw [← e]
      simp [execOp, resolve, hux, Deferred.ofValue, invoke, F1]
    unfold Oper.wp
    rw [hrun, Oper.upon_enter]
    refine hC.mono (fun e w' ⟨r, St, he, hE, hs1, hs2, hr⟩ => ?_)
    subst he
    exact ⟨_, hS.grow St hE hs1 hs2 dst v r hdst (fun _ _ => hr _ _), fun g hg => .inl hg⟩
end
section
variable {P : Program} {T : Nat → Option TI} {ok : ∀ t ti, T t = some ti → tiOf P t = some ti} {nn : Nat} {w0 : World} {st0 lent : Nat → Prop} {rdd : Option Nat × Bool} {c00 : RC} {ops : Array Oper} {K : AS → List (List Nat × List Nat) → Prop} {k : Nat} {rest : List Oper} {fr : List (Nat × AV)} {hp : List (Nat × Option Blk)} {gc : Nat} {fps : List (List Nat × List Nat)}
  {d : Nat} {ty : TypeId} {pos : String} {after : Array Edge} {gd : Option (Nat × Bool)} {v : AV}
theorem callCX {dst : Option Nat} {fx : Operand} {args : Array Operand} {ats : Array TypeId} {f : FuncId} {first cap avs : List AV} (hF : FnC P f avs v) (hf : evA fr fx = .clo (.func f) first cap) (ha : first ++ args.toList.map (evA fr) ++ cap = avs)
    (hd : (match dst with | some d => Nat.blt d nn | none => true) = true) (hg : guardF ops fr ⟨dst, .call ⟨.value fx, args, ats⟩, ty, pos, after, gd⟩ = some true)
    (nx : ARun ⟨P, T, ok, nn, w0, st0, lent, rdd, c00⟩ ops K (k + 1) rest ⟨putFr fr dst v, hp, gc⟩ (fps ++ [([], [])])) : ARun ⟨P, T, ok, nn, w0, st0, lent, rdd, c00⟩ ops K k (⟨dst, .call ⟨.value fx, args, ats⟩, ty, pos, after, gd⟩ :: rest) ⟨fr, hp, gc⟩ fps :=
  ARun.callC hF hf ha hd (guardF_spec hg) nx
end
end Go.Proofs.Ytedfegoafallhaa
