/- Structs that are compared. -/
import Derived.Test.YtedfegoafallhaaB4
import Derived.Laws.StructEq
namespace Go.Proofs.Ytedfegoafallhaa
set_option linter.unusedVariables false
set_option linter.unusedSimpArgs false
open Go Go.RowKit

def kindsOf (P : Program) : Nat → List Field → Option (List Nat)
  | _, [] => some []
  | j, f :: fs =>
    if f.offset = j ∧ f.name ≠ "_" then
      match P.underlying f.type with
      | some (.int _) => (kindsOf P (j + 1) fs).map (0 :: ·)
      | some .bool => (kindsOf P (j + 1) fs).map (1 :: ·)
      | some .string => (kindsOf P (j + 1) fs).map (2 :: ·)
      | _ => none
    else none
/-- The kinds of the cells of a struct of numbers, bools and texts. -/
def flatOf (P : Program) (t : TypeId) : Option (List Nat) :=
  if P.stoodInHeld t || P.eqGuardType P.depth t then none else
  match P.underlying t with
  | some (.struct fs) => kindsOf P 0 fs.toList
  | _ => none
def eqK : List Nat → List AV → List AV → Option Bool
  | [], [], [] => some true
  | k :: ks, .val p :: es, .val q :: es' =>
    match k, p, q with
    | 0, .int ka a, .int kb b => bif sameK ka kb then (match eqK ks es es' with | some c => some ((a == b) && c) | none => none) else none
    | 1, .bool a, .bool b => (match eqK ks es es' with | some c => some ((a == b) && c) | none => none)
    | 2, .string a, .string b => (match eqK ks es es' with | some c => some ((a.toList == b.toList) && c) | none => none)
    | _, _, _ => none
  | _, _, _ => none

theorem eqK_run {P : Program} {w : World} {c : RC} {d : Nat} : ∀ (fs : List Field) (j : Nat) (ks : List Nat) (es es' : List AV) (xs ys : Array Value) (b : Bool), kindsOf P j fs = some ks → eqK ks es es' = some b →
    (∀ (i : Nat) (x : AV), es[i]? = some x → ∃ u, xs[j + i]? = some u ∧ Rep c w x u) → (∀ (i : Nat) (x : AV), es'[i]? = some x → ∃ u, ys[j + i]? = some u ∧ Rep c w x u) →
    (Op.eqFields (d + 1) xs ys fs).run P w = .ok b w
  | [], j, ks, es, es', xs, ys, b, hk, he, hx, hy => by
    obtain rfl := Option.some.inj hk
    unfold eqK at he
    split at he
    · obtain rfl := Option.some.inj he; rfl
    · rename_i h; cases h
    · cases he
  | f :: fs, j, ks, es, es', xs, ys, b, hk, he, hx, hy => by
    unfold kindsOf at hk
    split at hk
    · rename_i hf
      obtain ⟨hoff, hname⟩ := hf
      have tail : ∀ (k : Nat) (p q : Value) (es1 es1' : List AV) (ks1 : List Nat) (b1 r : Bool), es = .val p :: es1 → es' = .val q :: es1' → kindsOf P (j + 1) fs = some ks1 → eqK ks1 es1 es1' = some b1 → (∀ u, P.underlying f.type = some u → (∀ x, u ≠ .struct x) ∧ (∀ n e, u ≠ .array n e)) → (P.underlying f.type).isSome = true →
          (Op.equalIn (d + 1) f.type p q).run P w = .ok r w → (Op.eqFields (d + 1) xs ys (f :: fs)).run P w = .ok (r && b1) w := by
        intro k p q es1 es1' ks1 b1 r h1 h2 h3 h4 h5 h6 h7
        subst h1
        subst h2
        obtain ⟨u, hu, ru⟩ := hx 0 _ rfl
        obtain ⟨v, hv, rv⟩ := hy 0 _ rfl
        obtain rfl := ru.val_inv
        obtain rfl := rv.val_inv
        have ih := eqK_run (w := w) (c := c) (d := d) fs (j + 1) ks1 es1 es1' xs ys b1 h3 h4 (fun i x hi => by
          have := hx (i + 1) x (by simpa using hi)
          rwa [show j + (i + 1) = j + 1 + i by omega] at this) (fun i x hi => by
          have := hy (i + 1) x (by simpa using hi)
          rwa [show j + (i + 1) = j + 1 + i by omega] at this)
        obtain ⟨ud, hud⟩ := Option.isSome_iff_exists.1 h6
        have hagg : (isAgg f.type).run P w = .ok false w := by
          unfold isAgg
          rw [Sem.run_bind, run_underlying hud]
          obtain ⟨n1, n2⟩ := h5 ud hud
          cases ud <;> first
            | rfl
            | exact absurd rfl (n1 _)
            | exact absurd rfl (n2 _ _)
        rw [Nat.add_zero] at hu hv
        have p1 : (part f.type xs f.offset).run P w = .ok u w := by simp [part, hagg, hoff, hu]
        have p2 : (part f.type ys f.offset).run P w = .ok v w := by simp [part, hagg, hoff, hv]
        rw [Op.eqFields, if_pos hname, Sem.run_bind, p1, Result.andThen_ok, Sem.run_bind, p2, Result.andThen_ok, Sem.run_bind, h7, Result.andThen_ok]
        cases r with
        | false => simp
        | true => simpa using ih
      have core : ∀ (k : Nat) (ks1 : List Nat), ks = k :: ks1 → ∃ p q es1 es1', es = .val p :: es1 ∧ es' = .val q :: es1' ∧ ∃ b1, eqK ks1 es1 es1' = some b1 ∧
          ((k = 0 ∧ ∃ ka a b', p = .int ka a ∧ q = .int ka b' ∧ b = ((a == b') && b1)) ∨ (k = 1 ∧ ∃ a b', p = .bool a ∧ q = .bool b' ∧ b = ((a == b') && b1)) ∨ (k = 2 ∧ ∃ a b', p = .string a ∧ q = .string b' ∧ b = ((a.toList == b'.toList) && b1))) := by
        intro k ks1 hks
        subst hks
        unfold eqK at he
        split at he
        · rename_i h; cases h
        · rename_i k' ks' p es1 q es1' heq
          obtain ⟨rfl, rfl⟩ := List.cons.inj heq
          split at he
          · rename_i ka a kb b'
            cases hsk : sameK ka kb with
            | false => rw [hsk] at he; cases he
            | true =>
              rw [hsk] at he
              obtain rfl := sameK_eq hsk
              simp only [cond_true] at he
              split at he
              · rename_i c' hc'
                exact ⟨_, _, _, _, rfl, rfl, c', hc', .inl ⟨rfl, _, _, _, rfl, rfl, (Option.some.inj he).symm⟩⟩
              · cases he
          · split at he
            · rename_i c' hc'
              exact ⟨_, _, _, _, rfl, rfl, c', hc', .inr (.inl ⟨rfl, _, _, rfl, rfl, (Option.some.inj he).symm⟩)⟩
            · cases he
          · split at he
            · rename_i c' hc'
              exact ⟨_, _, _, _, rfl, rfl, c', hc', .inr (.inr ⟨rfl, _, _, rfl, rfl, (Option.some.inj he).symm⟩)⟩
            · cases he
          · cases he
        · cases he
      split at hk
      · rename_i kk hu
        cases hks : kindsOf P (j + 1) fs with
        | none => rw [hks] at hk; cases hk
        | some ks1 =>
          rw [hks] at hk
          obtain ⟨p, q, es1, es1', e1, e2, b1, e3, e4 | e4 | e4⟩ := core 0 ks1 (Option.some.inj hk).symm
          · obtain ⟨_, ka, a, b', rfl, rfl, rfl⟩ := e4
            exact tail 0 _ _ es1 es1' ks1 b1 _ e1 e2 hks e3 (fun u h => by rw [hu] at h; obtain rfl := Option.some.inj h; exact ⟨(fun _ h => by cases h), (fun _ _ h => by cases h)⟩) (by rw [hu]; rfl) (run_equalIn_int w d f.type ka kk a b' hu)
          · exact absurd e4.1 (by decide)
          · exact absurd e4.1 (by decide)
      · rename_i hu
        cases hks : kindsOf P (j + 1) fs with
        | none => rw [hks] at hk; cases hk
        | some ks1 =>
          rw [hks] at hk
          obtain ⟨p, q, es1, es1', e1, e2, b1, e3, e4 | e4 | e4⟩ := core 1 ks1 (Option.some.inj hk).symm
          · exact absurd e4.1 (by decide)
          · obtain ⟨_, a, b', rfl, rfl, rfl⟩ := e4
            exact tail 1 _ _ es1 es1' ks1 b1 _ e1 e2 hks e3 (fun u h => by rw [hu] at h; obtain rfl := Option.some.inj h; exact ⟨(fun _ h => by cases h), (fun _ _ h => by cases h)⟩) (by rw [hu]; rfl) (Go.run_equalIn_bool w d f.type a b' hu)
          · exact absurd e4.1 (by decide)
      · rename_i hu
        cases hks : kindsOf P (j + 1) fs with
        | none => rw [hks] at hk; cases hk
        | some ks1 =>
          rw [hks] at hk
          obtain ⟨p, q, es1, es1', e1, e2, b1, e3, e4 | e4 | e4⟩ := core 2 ks1 (Option.some.inj hk).symm
          · exact absurd e4.1 (by decide)
          · exact absurd e4.1 (by decide)
          · obtain ⟨_, a, b', rfl, rfl, rfl⟩ := e4
            exact tail 2 _ _ es1 es1' ks1 b1 _ e1 e2 hks e3 (fun u h => by rw [hu] at h; obtain rfl := Option.some.inj h; exact ⟨(fun _ h => by cases h), (fun _ _ h => by cases h)⟩) (by rw [hu]; rfl) (run_equalIn_string w d f.type a b' hu)
      · cases hk
    · cases hk

theorem run_eqAgg {P : Program} {w : World} {c : RC} {t : TypeId} {ks : List Nat} {es es' : List AV} {xs ys : Array Value} {b : Bool} (hf : flatOf P t = some ks) (he : eqK ks es es' = some b) (hx : Rep c w (.agg es) (.agg xs)) (hy : Rep c w (.agg es') (.agg ys)) :
    (Op.equalIn 10000 t (.agg xs) (.agg ys)).run P w = .ok b w ∧ P.eqGuardType P.depth t = false := by
  unfold flatOf at hf
  split at hf
  · cases hf
  · rename_i hn
    have hn1 : P.stoodInHeld t = false := by cases h : P.stoodInHeld t <;> simp [h] at hn ⊢
    have hn2 : P.eqGuardType P.depth t = false := by cases h : P.eqGuardType P.depth t <;> simp [h] at hn ⊢
    split at hf
    · rename_i fs hu
      have hu' : P.underlying t = some (.struct (P.fieldsOf t)) := by
        unfold Program.fieldsOf
        rw [hu]
      have e : P.fieldsOf t = fs := by
        unfold Program.fieldsOf
        rw [hu]
      refine ⟨?_, hn2⟩
      rw [show (10000 : Nat) = 9999 + 1 from rfl, run_equalIn_struct w 9999 t xs ys hu' hn1, e]
      have conv : ∀ (es : List AV) (xs : Array Value), Rep c w (.agg es) (.agg xs) → ∀ (i : Nat) (x : AV), es[i]? = some x → ∃ u, xs[0 + i]? = some u ∧ Rep c w x u := by
        intro es xs h i x hi
        generalize hz : Value.agg xs = z at h
        cases h with
        | agg _ us hl h1 hr =>
          obtain rfl := Value.agg.inj hz
          have hlt : i < us.length := by rw [hl]; exact (List.getElem?_eq_some_iff.1 hi).1
          exact ⟨us[i], by simp [hlt], hr i x _ hi (List.getElem?_eq_getElem hlt)⟩
      exact eqK_run (c := c) (d := 9998) fs.toList 0 ks es es' xs ys b hf he (conv es xs hx) (conv es' ys hy)
    · cases hf

section
variable {C : ACtx} {ops : Array Oper} {K : AS → List (List Nat × List Nat) → Prop} {k : Nat} {rest : List Oper} {fr : List (Nat × AV)} {hp : List (Nat × Option Blk)} {gc : Nat} {fps : List (List Nat × List Nat)}
  {d : Nat} {ty : TypeId} {pos : String} {after : Array Edge} {gd : Option (Nat × Bool)} {x y : Operand}
theorem agg_inv {c : RC} {w : World} {es : List AV} {u : Value} (h : Rep c w (.agg es) u) : ∃ xs, u = .agg xs := by cases h; exact ⟨_, rfl⟩
theorem ARun.eqAgg {t yt : TypeId} {ks : List Nat} {es es' : List AV} {b : Bool} (hf : flatOf C.P t = some ks) (hx : evA fr x = .agg es) (hy : evA fr y = .agg es') (he : eqK ks es es' = some b)
    (hd : Nat.blt d C.n = true) (hg : guardIs ops ⟨fr, hp, gc⟩ ⟨some d, .binOp .eql t x y yt, ty, pos, after, gd⟩ true)
    (n : ARun C ops K (k + 1) rest ⟨(d, .val (.bool b)) :: fr, hp, gc⟩ (fps ++ [([], [])])) : ARun C ops K k (⟨some d, .binOp .eql t x y yt, ty, pos, after, gd⟩ :: rest) ⟨fr, hp, gc⟩ fps :=
  ARun.quiet hd hg [] (by simp) (fun s c a w hS hev _ => by
    have h1 := hev x (by simp [Op.operands])
    have h2 := hev y (by simp [Op.operands])
    rw [hx] at h1
    rw [hy] at h2
    obtain ⟨xs, hu⟩ := agg_inv h1
    obtain ⟨ys, hv⟩ := agg_inv h2
    rw [hu] at h1
    rw [hv] at h2
    obtain ⟨q1, q2⟩ := run_eqAgg hf he h1 h2
    refine ⟨.bool b, ?_, .val _⟩
    simp [execOp, hu, hv, run_eqGuard_agg w .eql t x y xs ys q2, run_eql_struct, q1]) n
theorem ARun.neAgg {t yt : TypeId} {ks : List Nat} {es es' : List AV} {b : Bool} (hf : flatOf C.P t = some ks) (hx : evA fr x = .agg es) (hy : evA fr y = .agg es') (he : eqK ks es es' = some b)
    (hd : Nat.blt d C.n = true) (hg : guardIs ops ⟨fr, hp, gc⟩ ⟨some d, .binOp .neq t x y yt, ty, pos, after, gd⟩ true)
    (n : ARun C ops K (k + 1) rest ⟨(d, .val (.bool (!b))) :: fr, hp, gc⟩ (fps ++ [([], [])])) : ARun C ops K k (⟨some d, .binOp .neq t x y yt, ty, pos, after, gd⟩ :: rest) ⟨fr, hp, gc⟩ fps :=
  ARun.quiet hd hg [] (by simp) (fun s c a w hS hev _ => by
    have h1 := hev x (by simp [Op.operands])
    have h2 := hev y (by simp [Op.operands])
    rw [hx] at h1
    rw [hy] at h2
    obtain ⟨xs, hu⟩ := agg_inv h1
    obtain ⟨ys, hv⟩ := agg_inv h2
    rw [hu] at h1
    rw [hv] at h2
    obtain ⟨q1, q2⟩ := run_eqAgg hf he h1 h2
    refine ⟨.bool (!b), ?_, .val _⟩
    simp [execOp, hu, hv, run_eqGuard_agg w .neq t x y xs ys q2, run_neq_struct, q1]) n
end

section
variable {P : Program} {T : Nat → Option TI} {ok : ∀ t ti, T t = some ti → tiOf P t = some ti} {nn : Nat} {w0 : World} {st0 lent : Nat → Prop} {rdd : Option Nat × Bool} {c00 : RC} {ops : Array Oper} {K : AS → List (List Nat × List Nat) → Prop} {k : Nat} {rest : List Oper} {fr : List (Nat × AV)} {hp : List (Nat × Option Blk)} {gc : Nat} {fps : List (List Nat × List Nat)}
  {d : Nat} {ty : TypeId} {pos : String} {after : Array Edge} {gd : Option (Nat × Bool)} {x y : Operand} {v : AV}
theorem callX {fx : Operand} {args : Array Operand} {ats : Array TypeId} {f : FuncId} {avs : List AV} (hF : FnC P f avs v) (hf : evA fr fx = .val (.func (.func f) #[] #[])) (ha : args.toList.map (evA fr) = avs)
    (hd : Nat.blt d nn = true) (hg : guardF ops fr ⟨some d, .call ⟨.value fx, args, ats⟩, ty, pos, after, gd⟩ = some true)
    (nx : ARun ⟨P, T, ok, nn, w0, st0, lent, rdd, c00⟩ ops K (k + 1) rest ⟨(d, v) :: fr, hp, gc⟩ (fps ++ [([], [])])) : ARun ⟨P, T, ok, nn, w0, st0, lent, rdd, c00⟩ ops K k (⟨some d, .call ⟨.value fx, args, ats⟩, ty, pos, after, gd⟩ :: rest) ⟨fr, hp, gc⟩ fps :=
  ARun.call hF hf ha hd (guardF_spec hg) nx
theorem eqX {t yt : TypeId} {ks : List Nat} {es es' : List AV} {b : Bool} (hf : flatOf P t = some ks) (hx : evA fr x = .agg es) (hy : evA fr y = .agg es') (he : eqK ks es es' = some b)
    (hd : Nat.blt d nn = true) (hg : guardF ops fr ⟨some d, .binOp .eql t x y yt, ty, pos, after, gd⟩ = some true)
    (n : ARun ⟨P, T, ok, nn, w0, st0, lent, rdd, c00⟩ ops K (k + 1) rest ⟨(d, .val (.bool b)) :: fr, hp, gc⟩ (fps ++ [([], [])])) : ARun ⟨P, T, ok, nn, w0, st0, lent, rdd, c00⟩ ops K k (⟨some d, .binOp .eql t x y yt, ty, pos, after, gd⟩ :: rest) ⟨fr, hp, gc⟩ fps :=
  ARun.eqAgg hf hx hy he hd (guardF_spec hg) n
theorem neX {t yt : TypeId} {ks : List Nat} {es es' : List AV} {b : Bool} (hf : flatOf P t = some ks) (hx : evA fr x = .agg es) (hy : evA fr y = .agg es') (he : eqK ks es es' = some b)
    (hd : Nat.blt d nn = true) (hg : guardF ops fr ⟨some d, .binOp .neq t x y yt, ty, pos, after, gd⟩ = some true)
    (n : ARun ⟨P, T, ok, nn, w0, st0, lent, rdd, c00⟩ ops K (k + 1) rest ⟨(d, .val (.bool (!b))) :: fr, hp, gc⟩ (fps ++ [([], [])])) : ARun ⟨P, T, ok, nn, w0, st0, lent, rdd, c00⟩ ops K k (⟨some d, .binOp .neq t x y yt, ty, pos, after, gd⟩ :: rest) ⟨fr, hp, gc⟩ fps :=
  ARun.neAgg hf hx hy he hd (guardF_spec hg) n
end
end Go.Proofs.Ytedfegoafallhaa
