/- One operation, reckoned: the rule. -/
import Derived.Test.YtedfegoafallhaaB2
namespace Go.Proofs.Ytedfegoafallhaa
set_option linter.unusedVariables false
set_option linter.unusedSimpArgs false
open Go Go.RowKit

def aopLen (T : Nat → Option TI) (d : Nat) (fr : List (Nat × AV)) (hp : List (Nat × Option Blk)) : List Operand → List Nat → Option Out
  | [x], [t] =>
    match T t with
    | some ti => (match ti.k with
      | .slice _ => (match evA fr x with
        | .sl _ _ els => some ⟨(d, .val (.int .i64 els.length)) :: fr, hp, [], [], True⟩
        | .own b g' _ n => (match lkH hp b with
          | some ⟨gen, _, _⟩ => some ⟨(d, .val (.int .i64 n)) :: fr, hp, [b], [], gen = g'⟩
          | none => none)
        | _ => none)
      | .str => (match evA fr x with
        | .val (.string s) => some ⟨(d, .val (.int .i64 s.size)) :: fr, hp, [], [], True⟩
        | _ => none)
      | _ => none)
    | none => none
  | _, _ => none

/-- What an operation comes to (g: its stamp, d: its slot). -/
def aopV (T : Nat → Option TI) (g d : Nat) (fr : List (Nat × AV)) (hp : List (Nat × Option Blk)) : Op → Option Out
  | .move x => forceA (evA fr x) fun v => some ⟨(d, v) :: fr, hp, [], [], True⟩
  | .assign x => forceA (evA fr x) fun v => some ⟨(d, v) :: fr, hp, [], [], True⟩
  | .pick c x y =>
    match evA fr c with
    | .val (.bool b) => (match b with
      | true => forceA (evA fr x) fun v => some ⟨(d, v) :: fr, hp, [], [], True⟩
      | false => forceA (evA fr y) fun v => some ⟨(d, v) :: fr, hp, [], [], True⟩)
    | _ => none
  | .extract x i =>
    match evA fr x with
    | .tup es => (match es[i]? with
      | some v => forceA v fun v => some ⟨(d, v) :: fr, hp, [], [], True⟩
      | none => none)
    | _ => none
  | .binOp op t x y _ =>
    match evA fr x, evA fr y with
    | .val p, .val q => (match binV T op t p q with
      | some (r, s) => some ⟨(d, .val r) :: fr, hp, [], [], s⟩
      | none => none)
    | _, _ => none
  | .unOp op _ x =>
    match op, evA fr x with
    | .not, .val (.bool b) => some ⟨(d, .val (.bool (!b))) :: fr, hp, [], [], True⟩
    | .neg, .val (.int k n) => (match arith k (0 - n) with
      | (r, s) => some ⟨(d, .val r) :: fr, hp, [], [], s⟩)
    | .xor, .val (.int k n) => some ⟨(d, .val (.int k (bitsV .xor k (bif k.signed then -1 else k.max) n))) :: fr, hp, [], [], True⟩
    | _, _ => none
  | .box _ x =>
    match cellsA (evA fr x) with
    | some cs => bif Nat.blt 0 cs.length then forceL cs fun cs => some ⟨(d, .ptr d g 0 0) :: fr, (d, some ⟨g, cs.length, [cs]⟩) :: hp, [], [d], True⟩ else none
    | none => none
  | .alloc t =>
    match T t with
    | some ti => bif ti.zero.all Value.oneCell' && Nat.blt 0 (ti.zero.map zv).length then forceL (ti.zero.map zv) fun zs => some ⟨(d, .ptr d g 0 0) :: fr, (d, some ⟨g, zs.length, [zs]⟩) :: hp, [], [d], True⟩ else none
    | none => none
  | .fieldAddr t x n =>
    match T t with
    | some ti => (match ti.k with
      | .struct fs => (match fs[n]? with
        | some (off, sz) => bif Nat.blt 0 sz then (match evA fr x with
          | .ptr b g' i f => some ⟨(d, .ptr b g' i (f + off)) :: fr, hp, [], [], True⟩
          | .rp es => forceL (es.drop off) fun es => some ⟨(d, .rp es) :: fr, hp, [], [], True⟩
          | _ => none) else none
        | none => none)
      | _ => none)
    | none => none
  | .load t x =>
    match T t with
    | some ti => (match ti.k.agg with
      | true => (match evA fr x with
        | .ptr b g' i f => (match lkH hp b with
          | some ⟨gen, _, els⟩ => (match els[i]? with
            | some el => (match loadCs el f ti.size with
              | some cs => forceL cs fun cs => some ⟨(d, .agg cs) :: fr, hp, [b], [], gen = g'⟩
              | none => none)
            | none => none)
          | none => none)
        | .rp es => (match loadCs es 0 ti.size with
          | some cs => forceL cs fun cs => some ⟨(d, .agg cs) :: fr, hp, [], [], True⟩
          | none => none)
        | _ => none)
      | false => (match evA fr x with
        | .ptr b g' i f => (match lkH hp b with
          | some ⟨gen, _, els⟩ => (match els[i]? with
            | some el => (match el[f]? with
              | some v => forceA v fun v => some ⟨(d, v) :: fr, hp, [b], [], gen = g'⟩
              | none => none)
            | none => none)
          | none => none)
        | .rp es => (match es[0]? with
          | some v => forceA v fun v => some ⟨(d, v) :: fr, hp, [], [], True⟩
          | none => none)
        | _ => none))
    | none => none
  | .build t ps =>
    match T t with
    | some ti => (match ti.k with
      | .struct fs => bif ti.zero.all Value.oneCell' then (match buildF (fun i => fs[i]?) fr ps.toList (ti.zero.map zv) with
        | some es => forceL es fun es => some ⟨(d, .agg es) :: fr, hp, [], [], True⟩
        | none => none) else none
      | .array _ e => (match T e with
        | some te => bif ti.zero.all Value.oneCell' then (match buildF (fun i => some (i * te.size, te.size)) fr ps.toList (ti.zero.map zv) with
          | some es => forceL es fun es => some ⟨(d, .agg es) :: fr, hp, [], [], True⟩
          | none => none) else none
        | none => none)
      | _ => none)
    | none => none
  | .buildSlice t n ps =>
    match T t with
    | some ti => (match ti.k with
      | .slice e => (match T e with
        | some ⟨_, tsz, _, tz⟩ => bif tz.all Value.oneCell' && Nat.beq tz.length tsz && Nat.blt 0 tsz && Nat.ble (n * tsz) 16777216 then (match buildSF tsz fr ps.toList (List.replicate n (tz.map zv)) with
          | some els => forceEE els fun els => some ⟨(d, .sl tsz true els) :: fr, hp, [], [], True⟩
          | none => none) else none
        | none => none)
      | _ => none)
    | none => none
  | .convert ts td x =>
    match T ts, T td, evA fr x with
    | some _, some di, .val (.int _ n) => (match di.k with
      | .int kk => (match arith kk n with
        | (r, s) => some ⟨(d, .val r) :: fr, hp, [], [], s⟩)
      | _ => none)
    | _, _, _ => none
  | .call ⟨.builtin .len, args, ats⟩ => aopLen T d fr hp args.toList ats.toList
  | _ => none

/-- A store. -/
def aopS (T : Nat → Option TI) (fr : List (Nat × AV)) (hp : List (Nat × Option Blk)) : Op → Option Out
  | .store t x y =>
    match T t with
    | some ti => bif Nat.blt 0 ti.size then (match evA fr x with
      | .ptr b g' i f => (match lkH hp b with
        | some ⟨gen, sz, els⟩ => (match els[i]? with
          | some el => (match cellsA (evA fr y) with
            | some cs => bif Nat.beq cs.length ti.size then (match setF el f cs with
              | some el' => forceL el' fun el' => (match setEl els i el' with
                | some els' => some ⟨fr, (b, some ⟨gen, sz, els'⟩) :: hp, [b], [b], gen = g'⟩
                | none => none)
              | none => none) else none
            | none => none)
          | none => none)
        | none => none)
      | _ => none) else none
    | none => none
  | _ => none

/-- What a guard says, where it is plain. -/
def guardF (ops : Array Oper) (fr : List (Nat × AV)) (o : Oper) : Option Bool :=
  match o.guard with
  | none => some true
  | some (j, want) =>
    match ops[j]? with
    | none => none
    | some oj =>
      match oj.dst with
      | none => none
      | some e =>
        match lkA fr e with
        | .val (.bool b) => (match b, want with
          | true, true => some true
          | false, false => some true
          | true, false => some false
          | false, true => some false)
        | .val (.tuple _) => some false
        | _ => none
theorem guardF_spec {ops : Array Oper} {fr : List (Nat × AV)} {hp : List (Nat × Option Blk)} {gc : Nat} {o : Oper} {on : Bool} (h : guardF ops fr o = some on) : guardIs ops ⟨fr, hp, gc⟩ o on := by
  unfold guardF at h
  unfold guardIs
  split at h
  · rename_i hg
    rw [hg]
    exact (Option.some.inj h).symm
  · rename_i j want hg
    rw [hg]
    simp only
    split at h
    · cases h
    · rename_i oj hj
      split at h
      · cases h
      · rename_i e he
        split at h
        · rename_i b hb
          refine ⟨oj, e, hj, he, .inl ⟨b, hb, ?_⟩⟩
          cases b <;> cases want <;> exact (Option.some.inj h).symm
        · rename_i vs hb
          exact ⟨oj, e, hj, he, .inr ⟨vs, hb, (Option.some.inj h).symm⟩⟩
        · cases h

def opF (T : Nat → Option TI) (n : Nat) (ops : Array Oper) (g : Nat) (fr : List (Nat × AV)) (hp : List (Nat × Option Blk)) (o : Oper) : Option Out :=
  match guardF ops fr o with
  | none => none
  | some false => (match o.dst with | some d => some ⟨(d, .val undef) :: fr, hp, [], [], True⟩ | none => some ⟨fr, hp, [], [], True⟩)
  | some true =>
    match o.dst with
    | some d => bif Nat.blt d n then aopV T g d fr hp o.op else none
    | none => aopS T fr hp o.op

section
variable {C : ACtx} {ops : Array Oper} {K : AS → List (List Nat × List Nat) → Prop} {k : Nat} {rest : List Oper} {fr : List (Nat × AV)} {hp : List (Nat × Option Blk)} {gc : Nat} {fps : List (List Nat × List Nat)}
  {d : Nat} {ty : TypeId} {pos : String} {after : Array Edge} {gd : Option (Nat × Bool)} {x y z : Operand} {v : AV}

def Good (C : ACtx) (ops : Array Oper) (K : AS → List (List Nat × List Nat) → Prop) (k : Nat) (rest : List Oper) (fr : List (Nat × AV)) (hp : List (Nat × Option Blk)) (gc : Nat) (fps : List (List Nat × List Nat)) (o : Oper) (out : Out) : Prop :=
  out.side → ARun C ops K (k + 1) rest ⟨out.fr, out.hp, gc⟩ (fps ++ [(out.r, out.w)]) → ARun C ops K k (o :: rest) ⟨fr, hp, gc⟩ fps

theorem aopLen_good {args : Array Operand} {ats : Array TypeId} {out : Out} (hd : Nat.blt d C.n = true) (hg : guardIs ops ⟨fr, hp, gc⟩ ⟨some d, .call ⟨.builtin .len, args, ats⟩, ty, pos, after, gd⟩ true) (h : aopLen C.T d fr hp args.toList ats.toList = some out) : Good C ops K k rest fr hp gc fps ⟨some d, .call ⟨.builtin .len, args, ats⟩, ty, pos, after, gd⟩ out := by
  intro hs n
  obtain ⟨args⟩ := args
  obtain ⟨ats⟩ := ats
  unfold aopLen at h
  split at h
  · rename_i x t ha hb
    simp only at ha hb
    subst ha
    subst hb
    split at h
    · rename_i ti ht
      split at h
      · rename_i hk
        split at h
        · rename_i hx
          obtain rfl := Option.some.inj h
          exact ARun.len hx ht hk hd hg n
        · rename_i hx
          split at h
          · rename_i hb
            obtain rfl := Option.some.inj h
            exact ARun.len_own hx hb hs ht hk hd hg n
          · cases h
        · cases h
      · rename_i hk
        split at h
        · rename_i hx
          obtain rfl := Option.some.inj h
          exact ARun.len_str hx ht hk hd hg n
        · cases h
      · cases h
    · cases h
  · cases h

theorem aopV_good {op : Op} {out : Out} (hd : Nat.blt d C.n = true) (hg : guardIs ops ⟨fr, hp, gc⟩ ⟨some d, op, ty, pos, after, gd⟩ true) (h : aopV C.T (gc + k) d fr hp op = some out) : Good C ops K k rest fr hp gc fps ⟨some d, op, ty, pos, after, gd⟩ out := by
  intro hs n
  unfold aopV at h
  split at h
  · rw [forceA_eq] at h
    obtain rfl := Option.some.inj h
    exact ARun.move rfl hd hg n
  · rw [forceA_eq] at h
    obtain rfl := Option.some.inj h
    exact ARun.assign rfl hd hg n
  · split at h
    · rename_i hb
      split at h
      · rw [forceA_eq] at h
        obtain rfl := Option.some.inj h
        exact ARun.pickT hb rfl rfl hd hg n
      · rw [forceA_eq] at h
        obtain rfl := Option.some.inj h
        exact ARun.pickF hb rfl rfl hd hg n
    · cases h
  · split at h
    · rename_i es hx
      split at h
      · rename_i v hv
        rw [forceA_eq] at h
        obtain rfl := Option.some.inj h
        exact ARun.extract hx hv hd hg n
      · cases h
    · cases h
  · split at h
    · rename_i p q hp' hq
      split at h
      · rename_i r s hr
        obtain rfl := Option.some.inj h
        exact ARun.bin hp' hq (binV_spec hr hs) hd hg n
      · cases h
    · cases h
  · split at h
    · rename_i b hb
      obtain rfl := Option.some.inj h
      exact ARun.un hb un_not hd hg n
    · rename_i kk m hb
      have e : (⟨(d, .val (arith kk (0 - m)).1) :: fr, hp, [], [], (arith kk (0 - m)).2⟩ : Out) = out := Option.some.inj h
      subst e
      have n' := n
      dsimp only at n'
      rw [arith_spec hs] at n'
      exact ARun.un hb (fun w => by simp [Op.unary, Op.intArith]) hd hg n'
    · rename_i kk m hb
      obtain rfl := Option.some.inj h
      exact ARun.un hb (fun w => by cases hk : kk.signed <;> simp [Op.unary, Op.intBits, bitsV, hk]) hd hg n
    · cases h
  · split at h
    · rename_i cs hc
      cases hz : Nat.blt 0 cs.length with
      | false => rw [hz] at h; cases h
      | true =>
        rw [hz] at h
        simp only [cond_true] at h
        rw [forceL_eq] at h
        obtain rfl := Option.some.inj h
        exact ARun.box hc hz hd hg n
    · cases h
  · split at h
    · rename_i ti ht
      cases hz : (ti.zero.all Value.oneCell' && Nat.blt 0 (ti.zero.map zv).length) with
      | false => rw [hz] at h; cases h
      | true =>
        rw [hz] at h
        simp only [cond_true] at h
        rw [forceL_eq] at h
        obtain rfl := Option.some.inj h
        rw [Bool.and_eq_true] at hz
        exact ARun.alloc ht hz.1 hz.2 hd hg n
    · cases h
  · split at h
    · rename_i ti ht
      split at h
      · rename_i fs hk
        split at h
        · rename_i off sz hf
          cases hz : Nat.blt 0 sz with
          | false => rw [hz] at h; cases h
          | true =>
            rw [hz] at h
            simp only [cond_true] at h
            split at h
            · rename_i hx
              obtain rfl := Option.some.inj h
              exact ARun.fieldAddr hx ht hk hf hz hd hg n
            · rename_i hx
              rw [forceL_eq] at h
              obtain rfl := Option.some.inj h
              exact ARun.fieldAddr_rp hx ht hk hf hz hd hg n
            · cases h
        · cases h
      · cases h
    · cases h
  · split at h
    · rename_i ti ht
      split at h
      · rename_i ha
        split at h
        · rename_i hx
          split at h
          · rename_i gen sz els hb
            split at h
            · rename_i el he
              split at h
              · rename_i cs hc
                rw [forceL_eq] at h
                obtain rfl := Option.some.inj h
                exact ARun.loadAgg hx hb hs he ht ha hc hd hg n
              · cases h
            · cases h
          · cases h
        · rename_i hx
          split at h
          · rename_i cs hc
            rw [forceL_eq] at h
            obtain rfl := Option.some.inj h
            exact ARun.loadAgg_rp hx ht ha hc hd hg n
          · cases h
        · cases h
      · rename_i ha
        split at h
        · rename_i hx
          split at h
          · rename_i gen sz els hb
            split at h
            · rename_i el he
              split at h
              · rename_i v hv
                rw [forceA_eq] at h
                obtain rfl := Option.some.inj h
                exact ARun.loadOne hx hb hs he ht ha hv hd hg n
              · cases h
            · cases h
          · cases h
        · rename_i hx
          split at h
          · rename_i v hv
            rw [forceA_eq] at h
            obtain rfl := Option.some.inj h
            exact ARun.loadOne_rp hx ht ha hv hd hg n
          · cases h
        · cases h
    · cases h
  · split at h
    · rename_i ti ht
      split at h
      · rename_i fs hk
        cases hz : ti.zero.all Value.oneCell' with
        | false => rw [hz] at h; cases h
        | true =>
          rw [hz] at h
          simp only [cond_true] at h
          split at h
          · rename_i es hb
            rw [forceL_eq] at h
            obtain rfl := Option.some.inj h
            exact ARun.build ht hk hz (buildF_spec hb) hd hg n
          · cases h
      · rename_i nn e hk
        split at h
        · rename_i te hte
          cases hz : ti.zero.all Value.oneCell' with
          | false => rw [hz] at h; cases h
          | true =>
            rw [hz] at h
            simp only [cond_true] at h
            split at h
            · rename_i es hb
              rw [forceL_eq] at h
              obtain rfl := Option.some.inj h
              exact ARun.buildArr ht hk hte hz (buildF_spec hb) hd hg n
            · cases h
        · cases h
      · cases h
    · cases h
  · split at h
    · rename_i ti ht
      split at h
      · rename_i e hk
        split at h
        · rename_i tk tsz tb tz hte
          cases hz : (tz.all Value.oneCell' && Nat.beq tz.length tsz && Nat.blt 0 tsz && Nat.ble (_ * tsz) 16777216) with
          | false => rw [hz] at h; cases h
          | true =>
            rw [hz] at h
            simp only [cond_true] at h
            simp only [Bool.and_eq_true] at hz
            obtain ⟨⟨⟨z1, z2⟩, z3⟩, z4⟩ := hz
            split at h
            · rename_i els hb
              rw [forceEE_eq] at h
              obtain rfl := Option.some.inj h
              exact ARun.buildSlice ht hk hte z1 (Nat.eq_of_beq_eq_true z2) z3 z4 (buildSF_spec hb) hd hg n
            · cases h
        · cases h
      · cases h
    · cases h
  · split at h
    · rename_i si di ks m hts htd hx
      split at h
      · rename_i kk hk
        have e : (⟨(d, .val (arith kk m).1) :: fr, hp, [], [], (arith kk m).2⟩ : Out) = out := Option.some.inj h
        subst e
        have n' := n
        dsimp only at n'
        rw [arith_spec hs] at n'
        exact ARun.convInt hx hts htd hk hd hg n'
      · cases h
    · cases h
  · exact aopLen_good hd hg h hs n
  · cases h

theorem aopS_good {op : Op} {out : Out} (hg : guardIs ops ⟨fr, hp, gc⟩ ⟨none, op, ty, pos, after, gd⟩ true) (h : aopS C.T fr hp op = some out) : Good C ops K k rest fr hp gc fps ⟨none, op, ty, pos, after, gd⟩ out := by
  intro hs n
  unfold aopS at h
  split at h
  · split at h
    · rename_i ti ht
      cases hz : Nat.blt 0 ti.size with
      | false => rw [hz] at h; cases h
      | true =>
        rw [hz] at h
        simp only [cond_true] at h
        split at h
        · rename_i hx
          split at h
          · rename_i gen sz els hb
            split at h
            · rename_i el he
              split at h
              · rename_i cs hc
                cases hl : Nat.beq cs.length ti.size with
                | false => rw [hl] at h; cases h
                | true =>
                  rw [hl] at h
                  simp only [cond_true] at h
                  split at h
                  · rename_i el' hs'
                    rw [forceL_eq] at h
                    split at h
                    · rename_i els' hse
                      obtain rfl := Option.some.inj h
                      have hset := (setEl_spec hse).spec.2
                      subst hset
                      exact ARun.store hx hb hs he ht hc (Nat.eq_of_beq_eq_true hl) hz (setF_spec hs') hg n
                    · cases h
                  · cases h
              · cases h
            · cases h
          · cases h
        · cases h
    · cases h
  · cases h

/-- One operation, whatever it is. -/
theorem ARun.op {o : Oper} {fr' : List (Nat × AV)} {hp' : List (Nat × Option Blk)} {r w : List Nat} {side : Prop} (h : opF C.T C.n ops (gc + k) fr hp o = some ⟨fr', hp', r, w, side⟩) (hs : side)
    (n : ARun C ops K (k + 1) rest ⟨fr', hp', gc⟩ (fps ++ [(r, w)])) : ARun C ops K k (o :: rest) ⟨fr, hp, gc⟩ fps := by
  obtain ⟨dst, op, ty, pos, after, gd⟩ := o
  unfold opF at h
  split at h
  · cases h
  · rename_i hg
    cases dst <;>
    · simp only [Option.some.injEq, Out.mk.injEq] at h
      obtain ⟨rfl, rfl, rfl, rfl, rfl⟩ := h
      exact ARun.off (guardF_spec hg) n
  · rename_i hg
    simp only at h
    cases dst with
    | none => exact aopS_good (guardF_spec hg) h hs n
    | some d =>
      simp only at h
      cases hd : Nat.blt d C.n with
      | false => rw [hd] at h; cases h
      | true =>
        rw [hd] at h
        exact aopV_good hd (guardF_spec hg) h hs n

theorem ARun.plain {o : Oper} {on : Bool} (_h : guardF ops fr o = some on) (n : ARun C ops K k (o :: rest) ⟨fr, hp, gc⟩ fps) : ARun C ops K k (o :: rest) ⟨fr, hp, gc⟩ fps := n
/-- A guard that is not plain: both ways. -/
theorem ARun.fork {draw : Bool} {l0 : List Oper} {Q : Exit → AS → Prop} {dst : Option Nat} {op : Op} {j : Nat} {want b : Bool} {oj : Oper} {e : Nat} (h1 : ops[j]? = some oj) (h2 : oj.dst = some e) (h3 : lkA fr e = .val (.bool b))
    (ht : b = true → ARun C ops (regK draw l0 Q) k (⟨dst, op, ty, pos, after, some (j, want)⟩ :: rest) ⟨(e, .val (.bool true)) :: fr, hp, gc⟩ fps) (hf : b = false → ARun C ops (regK draw l0 Q) k (⟨dst, op, ty, pos, after, some (j, want)⟩ :: rest) ⟨(e, .val (.bool false)) :: fr, hp, gc⟩ fps) :
    ARun C ops (regK draw l0 Q) k (⟨dst, op, ty, pos, after, some (j, want)⟩ :: rest) ⟨fr, hp, gc⟩ fps := by
  have hq : ∀ b', b = b' → AS.eqv ⟨(e, .val (.bool b')) :: fr, hp, gc⟩ ⟨fr, hp, gc⟩ := by
    intro b' hb
    refine ⟨fun t => ?_, fun _ => rfl, rfl⟩
    simp only [lkA_cons]
    split
    · rename_i he
      subst he
      rw [h3, hb]
    · rfl
  cases b
  · exact ARun.eqv _ (hf rfl) (hq false rfl)
  · exact ARun.eqv _ (ht rfl) (hq true rfl)
end
end Go.Proofs.Ytedfegoafallhaa
