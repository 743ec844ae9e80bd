/- Arguments that read as less than is known of them. -/
import Derived.Test.YtedfegoafallhaaB6
namespace Go.Proofs.Ytedfegoafallhaa
set_option linter.unusedVariables false
set_option linter.unusedSimpArgs false
open Go Go.RowKit

inductive Wk : AV → AV → Prop where
  | same (v : AV) : Wk v v
  | nil (sz sz' : Nat) (full : Bool) : Wk (.sl sz full []) (.sl sz' false [])
  | weak (sz : Nat) (full : Bool) (els : List (List AV)) : Wk (.sl sz full els) (.sl sz false els)
  | agg {es es' : List AV} (hl : es'.length = es.length) (hr : ∀ (i : Nat) (x x' : AV), es[i]? = some x → es'[i]? = some x' → Wk x x') : Wk (.agg es) (.agg es')
theorem Wk.rep {c : RC} {w : World} {v v' : AV} (h : Wk v v') : ∀ {u : Value}, Rep c w v u → Rep c w v' u := by
  induction h with
  | same v => exact fun r => r
  | nil sz sz' full =>
    intro u r
    cases r with
    | sl _ _ _ A cap β o us hn hm hf h0 hz hA hc hr => exact .sl sz' false [] A cap β o us hn hm (by simp) h0 (by simp) (fun h => absurd rfl h) (fun i el f x hi => by simp at hi) (fun i el f x hi => by simp at hi)
  | weak sz full els =>
    intro u r
    cases r with
    | sl _ _ _ A cap β o us hn hm hf h0 hz hA hc hr => exact .sl sz false els A cap β o us hn hm (by simp) h0 hz hA hc hr
  | @agg es es' hl _ ih =>
    intro u r
    cases r with
    | agg _ us hl' h1 hr =>
      refine .agg es' us (hl'.trans hl.symm) h1 (fun i x' u hx hu => ?_)
      have hi : i < es.length := by rw [← hl]; exact (List.getElem?_eq_some_iff.1 hx).1
      exact ih i es[i] x' (List.getElem?_eq_getElem hi) hx (hr i _ u (List.getElem?_eq_getElem hi) hu)
def WkL (es es' : List AV) : Prop := es'.length = es.length ∧ ∀ (i : Nat) (x x' : AV), es[i]? = some x → es'[i]? = some x' → Wk x x'
theorem WkL.nil : WkL [] [] := ⟨rfl, fun i x x' h => by simp at h⟩
theorem WkL.cons {x x' : AV} {es es' : List AV} (h : Wk x x') (t : WkL es es') : WkL (x :: es) (x' :: es') :=
  ⟨by simp [t.1], fun i y y' hy hy' => by
    cases i with
    | zero =>
      simp only [List.getElem?_cons_zero, Option.some.injEq] at hy hy'
      subst hy
      subst hy'
      exact h
    | succ i => exact t.2 i y y' (by simpa using hy) (by simpa using hy')⟩
theorem Wk.aggL {es es' : List AV} (h : WkL es es') : Wk (.agg es) (.agg es') := .agg h.1 h.2
theorem Wk.nilSl {sz sz' : Nat} {full : Bool} : Wk (.sl sz full []) (.sl sz' false []) := .nil sz sz' full

theorem FnC.wk {P : Program} {f : FuncId} {avs avs' : List AV} {v : AV} (h : FnC P f avs v) (hw : WkL avs' avs) : FnC P f avs' v := by
  obtain ⟨h1, h2⟩ := h
  refine ⟨h1, fun w st us hst hl hr => h2 w st us hst (hl.trans hw.1.symm) (fun i x u hx hu => ?_)⟩
  have hi : i < avs'.length := by rw [← hw.1]; exact (List.getElem?_eq_some_iff.1 hx).1
  exact (hw.2 i avs'[i] x (List.getElem?_eq_getElem hi) hx).rep (hr i _ u (List.getElem?_eq_getElem hi) hu)

section
variable {P : Program} {T : Nat → Option TI} {ok : ∀ t ti, T t = some ti → tiOf P t = some ti} {nn : Nat} {w0 : World} {st0 lent : Nat → Prop} {rdd : Option Nat × Bool} {c00 : RC} {ops : Array Oper} {K : AS → List (List Nat × List Nat) → Prop} {k : Nat} {rest : List Oper} {fr : List (Nat × AV)} {hp : List (Nat × Option Blk)} {gc : Nat} {fps : List (List Nat × List Nat)}
  {d : Nat} {ty : TypeId} {pos : String} {after : Array Edge} {gd : Option (Nat × Bool)} {v : AV}
theorem callW {fx : Operand} {args : Array Operand} {ats : Array TypeId} {f : FuncId} {avs : List AV} (hF : FnC P f avs v) (hf : evA fr fx = .val (.func (.func f) #[] #[])) (hw : WkL (args.toList.map (evA fr)) avs)
    (hd : Nat.blt d nn = true) (hg : guardF ops fr ⟨some d, .call ⟨.value fx, args, ats⟩, ty, pos, after, gd⟩ = some true)
    (nx : ARun ⟨P, T, ok, nn, w0, st0, lent, rdd, c00⟩ ops K (k + 1) rest ⟨(d, v) :: fr, hp, gc⟩ (fps ++ [([], [])])) : ARun ⟨P, T, ok, nn, w0, st0, lent, rdd, c00⟩ ops K k (⟨some d, .call ⟨.value fx, args, ats⟩, ty, pos, after, gd⟩ :: rest) ⟨fr, hp, gc⟩ fps :=
  callX (hF.wk hw) hf rfl hd hg nx
end
end Go.Proofs.Ytedfegoafallhaa
