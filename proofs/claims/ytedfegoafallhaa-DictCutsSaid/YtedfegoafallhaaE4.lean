/- Functions that hand on elements one by one: the call, and the whole function. -/
import Derived.Test.YtedfegoafallhaaE3
namespace Go.Proofs.Ytedfegoafallhaa
set_option linter.unusedVariables false
set_option linter.unusedSimpArgs false
open Go Go.RowKit
set_option maxRecDepth 100000

theorem wanted_of {C : ACtx} {ops : Array Oper} {s : AS} {c : RC} {a : Act} {w : World} {o : Oper} {b : Bool} (hS : Sim C s c a w) (hg : guardIs ops s o b) : Region.wanted o (yielded ops a.tmps) = b := by
  unfold Region.wanted
  unfold guardIs at hg
  split at hg
  · rename_i hgn
    rw [hgn, hg]
  · rename_i j want hgn
    obtain ⟨oj, d, q1, q2, q3⟩ := hg
    rw [hgn]
    rcases q3.symm with ⟨vs, q4, q5⟩ | ⟨b, q4, q5⟩
    · have hr := hS.fr d
      rw [q4] at hr
      have hd' : a.tmps[d]? = none ∨ a.tmps[d]? = some (.tuple vs) := by
        rw [Array.getD_eq_getD_getElem?] at hr
        cases hg : a.tmps[d]? with
        | none => exact .inl rfl
        | some u => rw [hg] at hr; cases hr; exact .inr rfl
      have : yielded ops a.tmps j = none := by
        unfold yielded
        rw [q1]
        rcases hd' with h | h <;> simp [q2, h]
      simp only [this, q5]
      rfl
    have hr := hS.fr d
    rw [q4] at hr
    have hd' : a.tmps[d]? = some (.bool b) := by
      rw [Array.getD_eq_getD_getElem?] at hr
      cases hg : a.tmps[d]? with
      | none => rw [hg] at hr; cases hr
      | some u => rw [hg] at hr; cases hr; rfl
    have : yielded ops a.tmps j = some b := by
      unfold yielded
      rw [q1]
      simp [q2, hd']
    simp only [this, q5]
    cases b <;> cases want <;> rfl

theorem pre_seq {C : ACtx} {ops : Array Oper} {K : AS → List (List Nat × List Nat) → Prop} {k : Nat} {l : List Oper} {s : AS} {Q : Exit → Act → World → Prop} (hops : ∀ (j : Nat) (o : Oper), l[j]? = some o → ops[k + j]? = some o) (h : ARun C ops K k l s []) {c : RC} {a : Act} {w : World} (hS : Sim C s c a w) (hu : ∀ g, c.used g → g < s.gc)
    (hQ : ∀ s' c' a' w' fps, Sim C s' c' a' w' → (∀ g, c'.used g → g < s.gc + (k + l.length)) → s'.gc = s.gc → K s' fps → Q .normal a' w') : wpOpsIn (fenceR C.rd.1) 0 C.P ops Q (List.range' k l.length) a w := by
  obtain ⟨its, h1, h2, h3, h4⟩ := ARun.spec l k s [] h
  rw [← h1]
  refine reg_seq (s0 := s) (F := final s its) (fun g => g < s.gc) (k + l.length) (fun s' c' a' w' hS' he hu' => ?_) (fun k => by omega) its k s c a w hS rfl h2 (AS.eqv.refl _) (fun j it hj => ⟨(h3 j it hj).1, hops j it.o (h3 j it hj).2⟩) (by omega) (fun g hg => .inl (hu g hg))
  refine hQ (final s its) c' a' w' _ (hS'.congr he.fr he.hp) (fun g hg => ?_) (final_gc its s) h4
  rcases hu' g hg with h | ⟨j, hj, e⟩ <;> omega

theorem ARun.nil {C : ACtx} {ops : Array Oper} {K : AS → List (List Nat × List Nat) → Prop} {k : Nat} {s : AS} {fps : List (List Nat × List Nat)} (h : K s fps) : ARun C ops K k [] s fps := h
def ClosedFr (fr : List (Nat × AV)) : Prop := ∀ p, p ∈ fr → Closed p.2
theorem ClosedFr.nil : ClosedFr [] := fun p h => by cases h
theorem ClosedFr.cons {t : Nat} {v : AV} {fr : List (Nat × AV)} (h : Closed v) (r : ClosedFr fr) : ClosedFr ((t, v) :: fr) := fun p hp => by
  rcases List.mem_cons.1 hp with rfl | hp
  · exact h
  · exact r p hp
theorem ClosedFr.lk {fr : List (Nat × AV)} (h : ClosedFr fr) (t : Nat) : Closed (lkA fr t) ∨ lkA fr t = .dead := by
  induction fr with
  | nil => exact .inr rfl
  | cons p fr ih =>
    obtain ⟨k, v⟩ := p
    rw [lkA_cons]
    split
    · exact .inl (h (k, v) (by simp))
    · exact ih (fun p hp => h p (by simp [hp]))

section
variable {P : Program} {T : Nat → Option TI} {ok : ∀ t ti, T t = some ti → tiOf P t = some ti} {n : Nat} {xs : List (List AV)}
/-- What is asked where an element is handed on: the element, the frame that stays, and what comes behind, either way. -/
def YieldK (Y : YCtx P T ok n xs) (l : List Oper) (k i gc : Nat) (d : Nat) (fx : Operand) (args : Array Operand) (o : Oper) (x : List AV) (fr2 : List (Nat × AV)) (Q : Exit → Option Nat → AS → Prop) : AS → List (List Nat × List Nat) → Prop := fun s1 _ =>
  guardF l.toArray s1.fr o = some true ∧ evA s1.fr fx = .val (.func (.yield Y.l) #[] #[]) ∧ args.toList.map (evA s1.fr) = x ∧ FrLe s1.fr fr2 ∧
  (∀ W st, ARun (Y.ctx W st) l.toArray (fun s2 _ => Q .normal (some (i + 1)) ⟨s2.fr, s2.hp, s2.gc + l.length⟩) (k + 1) (l.drop (k + 1)) ⟨(d, .val (.bool true)) :: fr2, [], gc⟩ []) ∧
  (∀ W st, ARun (Y.ctx W st) l.toArray (fun s2 _ => Q .normal none ⟨s2.fr, s2.hp, s2.gc + l.length⟩) (k + 1) (l.drop (k + 1)) ⟨(d, .val (.bool false)) :: fr2, [], gc⟩ [])

theorem awpY_yield {Y : YCtx P T ok n xs} {i : Nat} {s : AS} {Q : Exit → Option Nat → AS → Prop} {id : Nat} {l : List Oper} {fx : Operand} {args : Array Operand} {ats : Array TypeId} {d : Nat} {ty : TypeId} {pos : String} {after : Array Edge} {gd : Option (Nat × Bool)} (k : Nat) (x : List AV) (fr2 : List (Nat × AV)) (ho : l[k]? = some ⟨some d, .call ⟨.value fx, args, ats⟩, ty, pos, after, gd⟩) (hx : xs[i]? = some x) (hxc : ∀ a, a ∈ x → Closed a) (hfc : ClosedFr fr2) (hd : Nat.blt d n = true)
    (h : ∀ W st, ARun (Y.ctx W st) l.toArray (YieldK Y l k i s.gc d fx args ⟨some d, .call ⟨.value fx, args, ats⟩, ty, pos, after, gd⟩ x fr2 Q) 0 (l.take k) s []) : awpY Y (.region id l.toArray false) (some i) s Q := by
  intro a w ⟨W, st, hJ, hb, c, hS, hu⟩
  have hk : k < l.length := (List.getElem?_eq_some_iff.1 ho).1
  refine wpIn_region ?_
  have e1 : List.range l.toArray.size = List.range' 0 (l.take k).length ++ (k :: List.range' (k + 1) (l.drop (k + 1)).length) := by
    rw [List.range_eq_range', List.length_take, List.length_drop, List.size_toArray, show min k l.length = k by omega]
    have : List.range' 0 l.length = List.range' 0 k ++ List.range' k (l.length - k) := by
      have := (List.range'_append (s := 0) (m := k) (n := l.length - k) (step := 1)).symm
      rw [show k + (l.length - k) = l.length by omega] at this
      simpa using this
    rw [this, show l.length - k = (l.length - (k + 1)) + 1 by omega, List.range'_succ]
  rw [e1]
  refine wpOpsIn_append _ _ _ _ ?_
  refine pre_seq (C := Y.ctx W st) (ops := l.toArray) (fun j o hj => ?_) (h W st) hS hu (fun s1 c1 a1 w1 fps hS1 hu1 hgc hK => ?_)
  · rw [Nat.zero_add, List.getElem?_toArray]
    rw [List.getElem?_take] at hj
    split at hj
    · exact hj
    · cases hj
  obtain ⟨k1, k2, k3, k4, k5, k6⟩ := hK
  show wpOpsIn Fence.wide 0 P l.toArray _ (k :: List.range' (k + 1) (l.drop (k + 1)).length) a1 w1
  rw [wpOpsIn_cons]
  unfold wpOpIn
  rw [List.getElem?_toArray, ho]
  simp only
  rw [if_pos (wanted_of hS1 (guardF_spec k1))]
  -- what the loop's party holds by now
  have hB : Below W.heap.size W w1 := ⟨hS1.old.os, hS1.old.tape, hS1.old.output, hS1.old.size, fun k hk => hS1.old.block k hk (fun h => h)⟩
  have hJ1 : Y.J i c1.st w1 := Y.hJ i st c1.st W w1 hJ hB (fun β hβ => by
    obtain ⟨q1, q2 | q2 | q2⟩ := hS1.st β hβ
    · exact .inl q2
    · exact .inr ⟨q2, q1⟩
    · exact q2.elim)
  have hfx := hS1.ev fx
  have hfx' : Rep c1 w1 (.val (.func (.yield Y.l) #[] #[])) (a1.eval fx) := by rw [← k2]; exact hfx
  have hfx2 := hfx'.val_inv
  have hal : (args.toList.map a1.eval).length = x.length := by rw [← k3]; simp
  have hrep : ∀ (j : Nat) (b : AV) (u : Value), x[j]? = some b → (args.toList.map a1.eval)[j]? = some u → Rep (RC.pure c1.st) w1 b u := fun j b u hb2 hu2 => by
    rw [← k3, List.getElem?_map] at hb2
    rw [List.getElem?_map] at hu2
    cases hz : args.toList[j]? with
    | none => rw [hz] at hb2; cases hb2
    | some z =>
      rw [hz] at hb2 hu2
      simp only [Option.map_some, Option.some.injEq] at hb2 hu2
      subst hu2
      have hzx : evA s1.fr z ∈ x := by
        rw [← k3]
        exact List.mem_map_of_mem (List.mem_of_getElem? hz)
      rw [← hb2]
      exact (hS1.ev z).closed (hxc _ hzx) (RC.pure c1.st) (fun β hβ => ⟨hβ, rfl⟩)
  obtain ⟨fn, tmps, assign, body, hy, hround⟩ := Y.hR i x c1.st w1 (args.toList.map a1.eval) hx hJ1 hal hrep
  have hrun : (execOp a1.eval ⟨some d, .call ⟨.value fx, args, ats⟩, ty, pos, after, gd⟩).run P w1 = .ok (.round Y.l fn tmps assign body) w1 := by
    have e : (args.toList.map a1.eval).toArray = args.map a1.eval := by
      apply Array.ext'
      rw [Array.toList_map]
    rw [e] at hy
    simp [execOp, resolve, hfx2, Deferred.ofValue, invoke, hy]
  refine ⟨fun _ _ => trivial, ?_⟩
  rw [show Fence.wide.round = none from rfl, Oper.semAt_none, hrun, Oper.uponIn_round]
  refine ⟨fun h => (by cases h), hround.mono (fun e w2 ⟨hkp, hor⟩ => ?_)⟩
  have post : ∀ (b : Bool) (ph : Option Nat), Y.JJ ph c1.st w2 → (∀ W st, ARun (Y.ctx W st) l.toArray (fun s2 _ => Q .normal ph ⟨s2.fr, s2.hp, s2.gc + l.length⟩) (k + 1) (l.drop (k + 1)) ⟨(d, .val (.bool b)) :: fr2, [], s.gc⟩ []) →
      wpOpsIn Fence.wide 0 P l.toArray (fun e a' w' => ∃ ph' s', SimY Y ph' s' a' w' ∧ Q e ph' s') (List.range' (k + 1) (l.drop (k + 1)).length) (a1.put (some d) (.bool b)) w2 := by
    intro b ph hph hA
    have hst1 : ∀ β, c1.st β → β < w2.heap.size := fun β hβ => Nat.lt_of_lt_of_le (hS1.st β hβ).1 hkp.size
    have hdn : d < n := lt_of_blt hd
    have hS2 : Sim (Y.ctx w2 c1.st) ⟨(d, .val (.bool b)) :: fr2, [], s.gc⟩ (RC.bare c1.st) (a1.put (some d) (.bool b)) w2 := by
      refine ⟨?_, (Act.put_size a1 (some d) (.bool b)).trans hS1.sz, fun t => ?_, fun b blk hb => by simp [lkH] at hb, fun b g o ho => by simp [RC.bare] at ho, fun b g o b' g' o' β h => by simp [RC.bare] at h, fun β hβ => ⟨hst1 β hβ, .inl hβ⟩, fun β hβ => hβ, Old.refl _ _, Mono.refl _ _⟩
      · rw [Act.put_nd, hS1.nd.rd_ rfl]
        exact Nd.nil _ _ _ _
      · have hsz : a1.tmps.size = n := hS1.sz
        rw [lkA_cons, tmps_put a1 (some d) (.bool b) t (fun e he => by obtain rfl := Option.some.inj he; omega)]
        by_cases h : t = d
        · subst h
          rw [if_pos rfl, if_pos rfl]
          exact .val _
        · rw [if_neg h, if_neg (fun e => h (Option.some.inj e).symm)]
          rcases k4.spec t with e | e
          · rcases hfc.lk t with hc | hc
            · have := hS1.fr t
              rw [← e] at this
              exact this.closed hc (RC.bare c1.st) (fun β hβ => ⟨hβ, hkp.block β hβ⟩)
            · rw [hc]
              exact .dead _
          · rw [e]
            exact .dead _
    refine pre_seq (C := Y.ctx w2 c1.st) (ops := l.toArray) (fun j o hj => ?_) (hA w2 c1.st) hS2 (fun g hg => hg.elim) (fun s2 c2 a2 w3 fps hSf huf hgcf hKf => ?_)
    · rw [List.getElem?_drop] at hj
      rw [List.getElem?_toArray]
      exact hj
    · refine ⟨ph, ⟨s2.fr, s2.hp, s2.gc + l.length⟩, ⟨w2, c1.st, hph, hst1, c2, hSf.congr (fun _ => rfl) (fun _ => rfl), fun g hg => ?_⟩, hKf⟩
      have := huf g hg
      simp only at hgcf this ⊢
      rw [List.length_drop] at this
      omega
  rcases hor with ⟨he, hj2⟩ | ⟨he, hj2⟩
  · subst he
    exact post true (some (i + 1)) hj2 k5
  · subst he
    exact post false none hj2 k6

end
/-- The whole function. -/
theorem IterC.of_awpY {P : Program} {T : Nat → Option TI} {ok : ∀ t ti, T t = some ti → tiOf P t = some ti} {f : FuncId} {fn : Func} {code : Code} {cap : List AV} {xs : List (List AV)} (hf : P.funcs[f]? = some fn)
    (hn : (fn.name == "runtime.NumGoroutine") = false) (hb : fn.body = some code) (hres : fn.results = #[]) (hlen : Nat.ble (cap.length + 1) fn.ntmps = true) (hcl : ∀ x, x ∈ cap → Closed x)
    (h : ∀ Y : YCtx P T ok fn.ntmps xs, awpY Y code (some 0) ⟨frOf 0 (.val (.func (.yield Y.l) #[] #[]) :: cap), [], 0⟩ (fun e ph s => (e = .normal ∨ e = .ret) ∧ (ph = some xs.length ∨ ph = none))) : IterC P f cap xs := by
  refine ⟨fun vs w => ?_, fun W st us l hst hl hr J Jx hJ hJx hR hJ0 => ?_⟩
  · have hn' : ¬ fn.name = "runtime.NumGoroutine" := by simpa using hn
    simp [callFunc, hf, hn', hb]
  · refine calls_of_wp hf hb ((wpIn_wide (n := 0)).1 ?_)
    let Y : YCtx P T ok fn.ntmps xs := ⟨l, J, Jx, hJ, hJx, hR⟩
    have hle := Nat.le_of_ble_eq_true hlen
    generalize hvs : (Value.func (.yield l) #[] #[]) :: us = vs
    generalize hav : (AV.val (.func (.yield l) #[] #[])) :: cap = args
    have hlv : vs.length = args.length := by rw [← hvs, ← hav]; simp [hl]
    have hrv : ∀ (i : Nat) (x : AV) (u : Value), args[i]? = some x → vs[i]? = some u → Rep (RC.pure st) W x u := fun i x u hx hu => by
      rw [← hav] at hx
      rw [← hvs] at hu
      cases i with
      | zero =>
        simp only [List.getElem?_cons_zero, Option.some.injEq] at hx hu
        rw [← hx, ← hu]
        exact .val _
      | succ i => exact hr i x u (by simpa using hx) (by simpa using hu)
    have hclv : ∀ x, x ∈ args → Closed x := fun x hx => by
      rw [← hav] at hx
      rcases List.mem_cons.1 hx with rfl | hx
      · exact .val _
      · exact hcl x hx
    have hla : args.length ≤ fn.ntmps := by rw [← hav]; simpa using hle
    have hS : SimE (Y.ctx W st) ⟨frOf 0 args, [], 0⟩ { tmps := vs.toArray ++ Array.replicate (fn.ntmps - vs.toArray.size) undef, defers := [] } W := by
      refine ⟨⟨fun _ _ => none, fun _ => False, st⟩, ⟨Nd.nil _ _ _ _, by show _ = fn.ntmps; simp; omega, fun t => ?_, fun b blk hb => by simp [lkH] at hb, fun b g o ho => by simp at ho, fun b g o b' g' o' β h => by simp at h, fun β hb => ⟨hst β hb, .inl hb⟩, fun β hb => hb, Old.refl _ _, Mono.refl _ _⟩, fun g hg => hg.elim⟩
      simp only
      rw [lk_frOf]
      simp only [Nat.zero_le, if_true, Nat.sub_zero]
      cases hx : args[t]? with
      | none => exact .dead _
      | some x =>
        have ht : t < vs.length := by rw [hlv]; exact (List.getElem?_eq_some_iff.1 hx).1
        have : (vs.toArray ++ Array.replicate (fn.ntmps - vs.toArray.size) undef).getD t undef = vs[t] := by
          simp [Array.getD_eq_getD_getElem?, Array.getElem?_append, ht]
        rw [this]
        have := hrv t x vs[t] hx (List.getElem?_eq_getElem ht)
        simp only [Option.getD_some]
        exact this.closed (hclv x (List.mem_of_getElem? hx)) _ (fun β hb => ⟨hb, rfl⟩)
    have hh := h Y
    rw [show (AV.val (.func (.yield Y.l) #[] #[])) :: cap = args from hav] at hh
    refine wpIn_mono (hh _ W ⟨W, st, hJ0, hst, hS⟩) (fun e a' w' ⟨ph, s', ⟨W', st', hj, hb', c', hS', _⟩, he, hph⟩ => ?_)
    have hB : Below W'.heap.size W' w' := ⟨hS'.old.os, hS'.old.tape, hS'.old.output, hS'.old.size, fun k hk => hS'.old.block k hk (fun h => h)⟩
    have fin : a'.defers = [] ∧ ∃ v, (results fn a'.tmps).run P w' = .ok v w' ∧ (∃ v', Ending.returned v = .returned v') ∧ ((∃ It, J xs.length It w') ∨ Jx w') := by
      refine ⟨hS'.nd.rd_ rfl, .tuple #[], ?_, ⟨_, rfl⟩, ?_⟩
      · simp [results, hres]
      · rcases hph with rfl | rfl
        · exact .inl ⟨st', hJ _ st' st' W' w' hj hB (fun β h => .inl h)⟩
        · exact .inr (hJx W' w' hj hB)
    rcases he with rfl | rfl
    · exact fin
    · exact fin
end Go.Proofs.Ytedfegoafallhaa
