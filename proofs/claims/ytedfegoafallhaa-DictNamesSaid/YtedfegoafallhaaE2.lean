/- Loops over functions: the statement's law. -/
import Derived.Test.YtedfegoafallhaaE1
namespace Go.Proofs.Ytedfegoafallhaa
set_option linter.unusedVariables false
set_option linter.unusedSimpArgs false
open Go Go.RowKit
set_option maxRecDepth 100000

/-- What the loop's own party holds between two rounds. -/
structure Mine (C : ACtx) (a : Act) (fr : List (Nat × AV)) (D l : Nat) (ob : Obj) (It : Nat → Prop) (W : World) (hp : List (Nat × Option Blk)) (gc : Nat) (c : RC) : Prop where
  sim : Sim C ⟨fr, hp, gc⟩ c a W
  gens : ∀ g, c.used g → g < gc
  dst : c.st D
  dheap : W.heap[D]? = some (.deferred (some []))
  lheap : W.heap[l]? = some ob
  lst : ¬ c.st l
  lown : ∀ b g o, c.own b g = some o → o.loc ≠ some l
  own : ∀ b g o β, c.own b g = some o → o.loc = some β → ¬ It β
  lit : ¬ It l
  itlt : ∀ β, It β → β < W.heap.size
  itok : ∀ β, It β → C.st0 β ∨ C.w0.heap.size ≤ β ∨ C.lent β

theorem Mine.grow {C : ACtx} {a : Act} {fr : List (Nat × AV)} {D l : Nat} {ob : Obj} {It It' : Nat → Prop} {W W2 : World} {hp : List (Nat × Option Blk)} {gc : Nat} {c : RC} (h : Mine C a fr D l ob It W hp gc c) (hB : Below W.heap.size W W2) (hIt : ∀ β, It' β → It β ∨ (W.heap.size ≤ β ∧ β < W2.heap.size)) (hD : D < W.heap.size) (hl : l < W.heap.size) : Mine C a fr D l ob It' W2 hp gc c :=
  ⟨h.sim.grow (w' := W2) c.st hB (fun _ hb => hb) (fun _ hb => .inl hb) none .dead undef (fun e he => by cases he) (fun e => absurd rfl e), h.gens, h.dst, (hB.block D hD).trans h.dheap, (hB.block l hl).trans h.lheap, h.lst, h.lown,
   fun b g o β ho hβ hi => by
    have hlt := ((h.sim.al b g o ho).2.2 β hβ).1
    rcases hIt β hi with h' | h'
    · exact h.own b g o β ho hβ h'
    · omega,
   fun hi => by
    rcases hIt l hi with h' | h'
    · exact h.lit h'
    · omega,
   fun β hi => by
    rcases hIt β hi with h' | h'
    · exact Nat.lt_of_lt_of_le (h.itlt β h') hB.size
    · exact h'.2,
   fun β hi => by
    rcases hIt β hi with h' | h'
    · exact h.itok β h'
    · exact .inr (.inl (Nat.le_trans h.sim.old.size h'.1))⟩

theorem Mine.le {C : ACtx} {a : Act} {fr : List (Nat × AV)} {D l : Nat} {ob : Obj} {It : Nat → Prop} {W : World} {hp hp' : List (Nat × Option Blk)} {gc gc' : Nat} {c : RC} (h : Mine C a fr D l ob It W hp gc c) (h2 : HpLe hp hp') (h3 : gc ≤ gc') : ∃ c', Mine C a fr D l ob It W hp' gc' c' := by
  classical
  have hS := h.sim
  let c' : RC := ⟨fun b g => if lkH hp' b = none then none else c.own b g, c.used, c.st⟩
  have hown : ∀ b g o, c'.own b g = some o → c.own b g = some o := fun b g o ho => by
    simp only [c'] at ho
    split at ho
    · cases ho
    · exact ho
  have hm : Mono c c' W W := ⟨fun β hb => ⟨hb, rfl⟩, fun g hg => hg, fun b g o _ ho => hown b g o ho⟩
  refine ⟨c', ⟨hS.nd.step (fun _ hb => ⟨hb, rfl⟩), hS.sz, fun t => (hS.fr t).mono hm, fun b blk hb => ?_, fun b g o ho => ?_, fun b g o b' g' o' β k k' => hS.inj b g o b' g' o' β (hown _ _ _ k) (hown _ _ _ k'), hS.st, hS.st0, hS.old, hS.mo.trans hm⟩, fun g hg => Nat.lt_of_lt_of_le (h.gens g hg) h3, h.dst, h.dheap, h.lheap, h.lst, fun b g o ho => h.lown b g o (hown _ _ _ ho), fun b g o β ho => h.own b g o β (hown _ _ _ ho), h.lit, h.itlt, h.itok⟩
  · simp only at hb
    have e : lkH hp' b = lkH hp b := by
      rcases h2.spec b with e | e
      · exact e
      · rw [e] at hb; cases hb
    obtain ⟨o, q1, q2⟩ := hS.hp b blk (e ▸ hb)
    refine ⟨o, ?_, q2.mono hm (fun _ _ => rfl)⟩
    simp only [c']
    rw [if_neg (by rw [hb]; simp)]
    exact q1
  · have ho' := ho
    simp only [c'] at ho'
    split at ho'
    · cases ho'
    · rename_i hne
      have e : lkH hp' b = lkH hp b := by
        rcases h2.spec b with e | e
        · exact e
        · exact absurd e hne
      obtain ⟨q1, ⟨blk, q2, q3⟩, q4⟩ := hS.al b g o ho'
      exact ⟨q1, ⟨blk, e.trans q2, q3⟩, q4⟩
section
variable {P : Program} {T : Nat → Option TI} {ok : ∀ t ti, T t = some ti → tiOf P t = some ti} {n : Nat} {w0 : World} {st0 lent : Nat → Prop} {c00 : RC}
theorem awp_rangeFunc0 {s : AS} {Q : Exit → AS → Prop} {g : Operand} {ps : Array Tmp} {assign body : Code} {it : FuncId} {cap : List AV} {xs : List (List AV)} (hg : s.ev g = .clo (.func it) [] cap) (hit : IterC P it cap xs) (hcl : ∀ x, x ∈ cap → Closed x) (hxs : ∀ x, x ∈ xs → x.length = ps.toList.length) (hxc : ∀ x, x ∈ xs → ∀ a, a ∈ x → Closed a)
    (hps : ∀ p, p ∈ ps.toList → p < n)
    {τ : Type} (hp : τ → List (Nat × Option Blk)) (gc : τ → Nat) (I : Nat → τ → Prop) (t0 : τ) (h0 : I 0 t0) (hs : HpLe s.hp (hp t0) ∧ s.gc ≤ gc t0)
    (round : ∀ (w0 : World) (st0 lent : Nat → Prop) (l : Nat) (c0 : RC) (i : Nat) (x : List AV) (t : τ), xs[i]? = some x → I i t →
      awp ⟨P, T, ok, n, w0, st0, lent, (some l, true), c0⟩ assign ⟨setPs ps.toList x s.fr, hp t, gc t⟩ (thenA (fun s' => ∀ (w0 : World) (st0 lent : Nat → Prop) (c0 : RC), awp ⟨P, T, ok, n, w0, st0, lent, (some l, true), c0⟩ body s' (roundA s.fr (fun hp' gc' => ∃ t', HpLe hp' (hp t') ∧ gc' ≤ gc t' ∧ I (i + 1) t') Q)) (fun _ _ => False)))
    (fin : ∀ t, I xs.length t → Q .normal ⟨s.fr, hp t, gc t⟩) : awp ⟨P, T, ok, n, w0, st0, lent, (none, false), c00⟩ (.rangeFunc g ps assign body) s Q := by
  intro a w ⟨c, hS, hu⟩
  have hev := hS.ev g
  rw [hg] at hev
  generalize hux : a.eval g = ux at hev
  cases hev with
  | clo _ _ _ us0 vs hl0 hl' hr hr' =>
  have hus0 : us0 = [] := List.eq_nil_of_length_eq_zero (by simpa using hl0)
  subst hus0
  obtain ⟨F1, F2⟩ := hit
  refine wpIn_rangeFunc (fun fn _ => ?_)
  -- the record, and the block
  let rec0 : Loop := { state := .ready, pending := none, fn, tmps := a.tmps, params := ps, assign, body, defers := w.heap.size }
  let w1 : World := (w.alloc (.deferred (some []))).alloc (.loop rec0)
  have hB1 : Below w.heap.size w w1 := ((Below.refl w.heap.size w).alloc (Nat.le_refl _) _).alloc (by simp) _
  have hsz1 : w1.heap.size = w.heap.size + 2 := by simp [w1]
  have hD1 : w1.heap[w.heap.size]? = some (.deferred (some [])) := by
    have : (w.alloc (.deferred (some []))).heap[w.heap.size]? = some (.deferred (some [])) := by show (w.heap.push _)[w.heap.size]? = _; simp
    show ((w.alloc (.deferred (some []))).heap.push _)[w.heap.size]? = _
    rw [Array.getElem?_push_lt (by simp)]
    rw [← Array.getElem?_eq_getElem]
    exact this
  have hL1 : w1.heap[w.heap.size + 1]? = some (.loop rec0) := by
    have := World.alloc_heap_new (w.alloc (.deferred (some []))) (.loop rec0)
    rwa [World.size_alloc] at this
  refine ⟨w.heap.size + 1, [{ target := .collected w.heap.size, args := #[] }], w1, { target := .fn (.func it) vs.toArray, args := #[.func (.yield (w.heap.size + 1)) #[] #[]] }, w1, it, (((.func (.yield (w.heap.size + 1)) #[] #[]) :: vs).toArray), w1, run_enterLoop_outer _ _ _ _ _, ?_, fun _ _ => trivial, ?_, fun h => (by cases h), ?_⟩
  · simp [resolve, hux, Deferred.ofValue]
    rfl
  · have e : #[Value.func (.yield (w.heap.size + 1)) #[] #[]] ++ vs.toArray = (((.func (.yield (w.heap.size + 1)) #[] #[]) :: vs).toArray : Array Value) := by
      apply Array.ext'
      simp
    simp [invoke, F1]
  -- the invariant
  let C : ACtx := ⟨P, T, ok, n, w0, st0, lent, (none, false), c00⟩
  let J : Nat → (Nat → Prop) → World → Prop := fun i It W => ∃ t ct, I i t ∧ w.heap.size + 1 < W.heap.size ∧ Mine C a s.fr w.heap.size (w.heap.size + 1) (.loop rec0) It W (hp t) (gc t) ct
  let Jx : World → Prop := fun W => ∃ (jc : Code) (e : Exit) (hp' : List (Nat × Option Blk)) (gc' : Nat) (ct : RC), ((jc = .ret ∧ e = .ret) ∨ ∃ id, jc = .exit id ∧ e = .exit id) ∧ Q e ⟨s.fr, hp', gc'⟩ ∧ w.heap.size + 1 < W.heap.size ∧ Mine C a s.fr w.heap.size (w.heap.size + 1) (.loop { rec0 with state := .done, pending := some jc }) (fun _ => False) W hp' gc' ct
  have hRet : ∀ W, (∃ It, J xs.length It W) ∨ Jx W → rangePost (fenceR none) 0 P (w.heap.size + 1) (fun e a' w' => ∃ s', SimE C s' a' w' ∧ Q e s') { a with defers := [{ target := .collected w.heap.size, args := #[] }] ++ a.defers } (.returned (.tuple #[])) W := by
    intro W hJ
    have fin2 : ∀ (W : World) (It : Nat → Prop) hp' gc' ct (r : Loop), Mine C a s.fr w.heap.size (w.heap.size + 1) (.loop r) It W hp' gc' ct → SimE C ⟨s.fr, hp', gc'⟩ { a with defers := [{ target := .collected w.heap.size, args := #[] }] ++ a.defers } (W.putObj (w.heap.size + 1) (.loop { r with state := .exhausted })) := by
      intro W It hp' gc' ct r hM
      have hS' := hM.sim
      have hw : ∀ β, β ≠ w.heap.size + 1 → (W.putObj (w.heap.size + 1) (.loop { r with state := .exhausted })).heap[β]? = W.heap[β]? := fun β hβ => World.putObj_heap_other hβ
      have m3 : Mono ct ct W (W.putObj (w.heap.size + 1) (.loop { r with state := .exhausted })) := ⟨fun β h => ⟨h, hw β (fun e => hM.lst (e ▸ h))⟩, fun _ h => h, fun _ _ _ _ h => h⟩
      refine ⟨ct, ⟨⟨fun d hd => ?_, ?_, fun h => (by cases h)⟩, hS'.sz, fun t => (hS'.fr t).mono m3, fun b blk hb => ?_, fun b g o ho => ?_, hS'.inj, fun β hb => by rw [World.putObj_size]; exact hS'.st β hb, hS'.st0, hS'.old.trans' rfl rfl rfl (by rw [World.putObj_size]; exact Nat.le_refl _) (fun k hk _ => hw k (fun e => ?_)), hS'.mo.trans m3⟩, hM.gens⟩
      · rcases List.mem_append.1 hd with h | h
        · rw [List.mem_singleton.1 h]
          exact ⟨_, rfl, hM.dst, hS.old.size, (hw _ (Nat.ne_of_lt (Nat.lt_succ_self _))).trans hM.dheap⟩
        · exact (hS'.nd.step m3.st).at_ d h
      · rw [List.singleton_append, List.nodup_cons]
        refine ⟨fun h => ?_, hS'.nd.nodup⟩
        obtain ⟨D, e, k1, _⟩ := hS.nd.at_ _ h
        have := (hS.st D k1).1
        cases e
        omega
      · obtain ⟨o, h1, h2⟩ := hS'.hp b blk hb
        exact ⟨o, h1, h2.mono m3 (fun β hβ => hw β (fun e => hM.lown b _ o h1 (e ▸ hβ)))⟩
      · obtain ⟨k1, k2, k4⟩ := hS'.al b g o ho
        exact ⟨k1, k2, fun β hβ => by rw [World.putObj_size]; exact k4 β hβ⟩
      · have := hS.old.size
        have hk' : k < w0.heap.size := hk
        have : w0.heap.size ≤ w.heap.size := this
        omega
    rcases hJ with ⟨_, t, ct, hI, _, hM⟩ | ⟨jc, e, hp', gc', ct, hje, hQ, _, hM⟩
    · refine ⟨none, _, run_endLoop hM.lheap (by simp [rec0]), ?_⟩
      exact ⟨_, fin2 W _ _ _ _ _ hM, fin t hI⟩
    · refine ⟨some jc, _, run_endLoop hM.lheap (by simp), ?_⟩
      have hE := fin2 W _ _ _ _ _ hM
      rcases hje with ⟨rfl, rfl⟩ | ⟨id, rfl, rfl⟩
      · exact wpIn_ret ⟨_, hE, hQ⟩
      · exact wpIn_exit ⟨_, hE, hQ⟩
  have hret : ∀ e W', (∃ v, e = .returned v) ∧ ((∃ It, J xs.length It W') ∨ Jx W') → rangePost (fenceR none) 0 P (w.heap.size + 1) (fun e a' w' => ∃ s', SimE C s' a' w' ∧ Q e s') { a with defers := [{ target := .collected w.heap.size, args := #[] }] ++ a.defers } e W' := by
    rintro e W' ⟨⟨v, rfl⟩, hJ⟩
    exact hRet W' hJ
  have hcalls := F2 w1 c.st vs (w.heap.size + 1) (fun β hb => by have := (hS.st β hb).1; omega) hl' (fun i x u hx hu' => ((hr' i x u hx hu').closed (hcl x (List.mem_of_getElem? hx)) (RC.pure c.st) (fun β hb => ⟨hb, hB1.block β (hS.st β hb).1⟩))) J Jx ?_ ?_ ?_ ?_
  · exact callsR (Calls.mono hcalls hret)
  · rintro i It It' W1 W2 ⟨t, ct, hI, hlt, hM⟩ hB hIt
    exact ⟨t, ct, hI, Nat.lt_of_lt_of_le hlt hB.size, hM.grow hB hIt (by omega) hlt⟩
  · rintro W1 W2 ⟨jc, e, hp', gc', ct, hje, hQ, hlt, hM⟩ hB
    exact ⟨jc, e, hp', gc', ct, hje, hQ, Nat.lt_of_lt_of_le hlt hB.size, hM.grow hB (fun β h => .inl h) (by omega) hlt⟩
  · rintro i x It W1 args hx ⟨t, ct, hI, hlt, hM⟩ hargl harg
    have hxm := List.mem_of_getElem? hx
    have hpl : args.length = ps.toList.length := hargl.trans (hxs x hxm)
    refine ⟨fn, _, assign, body, run_yield hM.lheap (by simpa [rec0] using hpl), ?_⟩
    have htm : (rec0.params.zip args.toArray).foldl (fun tmps (t, a) => tmps.setIfInBounds t a) rec0.tmps = (ps.toList.zip args).foldl (fun tmps (p : Nat × Value) => tmps.setIfInBounds p.1 p.2) a.tmps := by
      show (ps.zip args.toArray).foldl _ a.tmps = _
      rw [← Array.foldl_toList, Array.toList_zip]
    rw [htm]
    let cr : RC := ⟨ct.own, ct.used, fun β => ct.st β ∨ It β⟩
    have mcr : Mono ct cr W1 W1 := ⟨fun β hb => ⟨.inl hb, rfl⟩, fun _ h => h, fun _ _ _ _ h => h⟩
    obtain ⟨hsz, hfr⟩ := fr_setPs (c := cr) (w := W1) (n := n) ps.toList x args s.fr a.tmps hM.sim.sz hps hargl (hxs x hxm) (fun j b u hb hu2 => (harg j b u hb hu2).closed (hxc x hxm b (List.mem_of_getElem? hb)) cr (fun β hβ => ⟨.inr hβ, rfl⟩)) (fun t => (hM.sim.fr t).mono mcr)
    generalize (ps.toList.zip args).foldl (fun tmps (p : Nat × Value) => tmps.setIfInBounds p.1 p.2) a.tmps = tm at hsz hfr
    have simr : Sim ⟨P, T, ok, n, W1, cr.st, fun β => ∃ b g o, ct.own b g = some o ∧ o.loc = some β, (some (w.heap.size + 1), true), cr⟩ ⟨setPs ps.toList x s.fr, hp t, gc t⟩ cr { tmps := tm, defers := [] } W1 := by
      refine ⟨Nd.nil _ _ _ _, hsz, hfr, fun b blk hb => ?_, fun b g o ho => ?_, hM.sim.inj, fun β hb => ⟨?_, .inl hb⟩, fun β hb => hb, Old.refl _ _, Mono.refl _ _⟩
      · obtain ⟨o, h1, h2⟩ := hM.sim.hp b blk hb
        exact ⟨o, h1, h2.mono mcr (fun _ _ => rfl)⟩
      · obtain ⟨k1, k2, k4⟩ := hM.sim.al b g o ho
        refine ⟨k1, k2, fun β hβ => ?_⟩
        obtain ⟨q1, q2, q3⟩ := k4 β hβ
        exact ⟨q1, fun h => h.elim q2 (hM.own b g o β ho hβ), .inr ⟨b, g, o, ho, hβ⟩⟩
      · rcases hb with h | h
        · exact (hM.sim.st β h).1
        · exact hM.itlt β h
    have R := round W1 cr.st (fun β => ∃ b g o, ct.own b g = some o ∧ o.loc = some β) (w.heap.size + 1) cr i x t hx hI _ W1 ⟨cr, simr, hM.gens⟩
    refine roundIn_of_wpIn (F := Fence.wide) trivial (wpIn_mono R ?_)
    rintro e a1 w1' ⟨s', ⟨c', hS', hu'⟩, hq⟩
    have hqn : e = .normal := by cases e <;> first | rfl | exact hq.elim
    subst hqn
    simp only [thenA] at hq
    have hl1 : w1'.heap[w.heap.size + 1]? = some (.loop rec0) := (hS'.old.block _ hlt (fun ⟨b, g, o, ho, hβ⟩ => hM.lown b g o ho hβ)).trans hM.lheap
    have hlc' : ¬ c'.st (w.heap.size + 1) := fun h => by
      rcases (hS'.st _ h).2 with k | k | ⟨b, g, o, ho, hβ⟩
      · exact k.elim hM.lst hM.lit
      · have : W1.heap.size ≤ w.heap.size + 1 := k
        omega
      · exact hM.lown b g o ho hβ
    have hlo' : ∀ b g o, c'.own b g = some o → o.loc ≠ some (w.heap.size + 1) := fun b g o ho hβ => by
      rcases ((hS'.al b g o ho).2.2 _ hβ).2.2 with k | ⟨b, g, o, ho, hβ⟩
      · have : W1.heap.size ≤ w.heap.size + 1 := k
        omega
      · exact hM.lown b g o ho hβ
    refine ⟨_, run_beginRound hl1 rfl, ?_⟩
    have hw2 : ∀ β, β ≠ w.heap.size + 1 → (w1'.putObj (w.heap.size + 1) (.loop { rec0 with state := .busy })).heap[β]? = w1'.heap[β]? := fun β hβ => World.putObj_heap_other hβ
    have hlt' : w.heap.size + 1 < w1'.heap.size := (Array.getElem?_eq_some_iff.1 hl1).1
    have hL2 : (w1'.putObj (w.heap.size + 1) (.loop { rec0 with state := .busy })).heap[w.heap.size + 1]? = some (.loop { rec0 with state := .busy }) := World.putObj_heap_same hlt'
    have hsz2 : (w1'.putObj (w.heap.size + 1) (.loop { rec0 with state := .busy })).heap.size = w1'.heap.size := World.putObj_size
    have hS2 := hS'.rebase (w' := w1'.putObj (w.heap.size + 1) (.loop { rec0 with state := .busy })) (l := w.heap.size + 1) (hS'.nd.rd_ rfl) hw2 hsz2 hlc' hlo'
    have hos2 : (w1'.putObj (w.heap.size + 1) (.loop { rec0 with state := .busy })).os = w1'.os ∧ (w1'.putObj (w.heap.size + 1) (.loop { rec0 with state := .busy })).tape = w1'.tape ∧ (w1'.putObj (w.heap.size + 1) (.loop { rec0 with state := .busy })).output = w1'.output := ⟨rfl, rfl, rfl⟩
    generalize w1'.putObj (w.heap.size + 1) (.loop { rec0 with state := .busy }) = w2 at *
    refine wpIn_mono (hq w2 c'.st _ c' a1 w2 ⟨c', hS2, hu'⟩) ?_
    rintro e2 a3 w3 ⟨s3, ⟨c3, hS3, hu3⟩, hr⟩
    have hl3 : w3.heap[w.heap.size + 1]? = some (.loop { rec0 with state := .busy }) := (hS3.old.block _ (by show w.heap.size + 1 < w2.heap.size; omega) (fun ⟨b, g, o, ho, hβ⟩ => hlo' b g o ho hβ)).trans hL2
    have m12 : Mono c' c' w1' w2 := ⟨fun β h => ⟨h, hw2 β (fun e => hlc' (e ▸ h))⟩, fun _ h => h, fun _ _ _ _ h => h⟩
    have mr3 : Mono cr c3 W1 w3 := (hS'.mo.trans m12).trans hS3.mo
    have m3 : Mono ct c3 W1 w3 := mcr.trans mr3
    have hlc3 : ¬ c3.st (w.heap.size + 1) := fun h => by
      rcases (hS3.st _ h).2 with k | k | ⟨b, g, o, ho, hβ⟩
      · exact hlc' k
      · have : w2.heap.size ≤ w.heap.size + 1 := k
        omega
      · exact hlo' b g o ho hβ
    have hlo3 : ∀ b g o, c3.own b g = some o → o.loc ≠ some (w.heap.size + 1) := fun b g o ho hβ => by
      rcases ((hS3.al b g o ho).2.2 _ hβ).2.2 with k | ⟨b, g, o, ho, hβ⟩
      · have : w2.heap.size ≤ w.heap.size + 1 := k
        omega
      · exact hlo' b g o ho hβ
    have hs1 : W1.heap.size ≤ w1'.heap.size := hS'.old.size
    have hs3 : w2.heap.size ≤ w3.heap.size := hS3.old.size
    have hs0 : w0.heap.size ≤ w.heap.size := hS.old.size
    have hltW : w.heap.size + 1 < W1.heap.size := hlt
    have hold : ∀ k, k < W1.heap.size → (∀ b g o, ct.own b g = some o → o.loc ≠ some k) → k ≠ w.heap.size + 1 → w3.heap[k]? = W1.heap[k]? := fun k hk hno hkl => by
      have e1 : w1'.heap[k]? = W1.heap[k]? := hS'.old.block k hk (fun ⟨b, g, o, ho, hβ⟩ => hno b g o ho hβ)
      have e2 : w3.heap[k]? = w2.heap[k]? := hS3.old.block k (by show k < w2.heap.size; omega) (fun ⟨b, g, o, ho, hβ⟩ => by
        rcases ((hS'.al b g o ho).2.2 _ hβ).2.2 with q | ⟨b, g, o, ho, hβ⟩
        · have : W1.heap.size ≤ k := q
          omega
        · exact hno b g o ho hβ)
      rw [e2, hw2 k hkl, e1]
    have hal' : ∀ b g o β, c'.own b g = some o → o.loc = some β → w0.heap.size ≤ β ∨ lent β := fun b g o β ho hβ => by
      rcases ((hS'.al b g o ho).2.2 _ hβ).2.2 with q | ⟨b, g, o, ho, hβ⟩
      · have : W1.heap.size ≤ β := q
        exact .inl (by omega)
      · exact ((hM.sim.al b g o ho).2.2 _ hβ).2.2
    have hal3 : ∀ b g o β, c3.own b g = some o → o.loc = some β → w0.heap.size ≤ β ∨ lent β := fun b g o β ho hβ => by
      rcases ((hS3.al b g o ho).2.2 _ hβ).2.2 with q | ⟨b, g, o, ho, hβ⟩
      · have : w2.heap.size ≤ β := q
        exact .inl (by omega)
      · exact hal' b g o β ho hβ
    have hst' : ∀ β, c'.st β → st0 β ∨ w0.heap.size ≤ β ∨ lent β := fun β hb => by
      rcases (hS'.st β hb).2 with q | q | ⟨b, g, o, ho, hβ⟩
      · rcases q with q | q
        · exact (hM.sim.st β q).2
        · exact hM.itok β q
      · have : W1.heap.size ≤ β := q
        exact .inr (.inl (by omega))
      · exact .inr ((hM.sim.al b g o ho).2.2 _ hβ).2.2
    have hst3 : ∀ β, c3.st β → st0 β ∨ w0.heap.size ≤ β ∨ lent β := fun β hb => by
      rcases (hS3.st β hb).2 with q | q | ⟨b, g, o, ho, hβ⟩
      · exact hst' β q
      · have : w2.heap.size ≤ β := q
        exact .inr (.inl (by omega))
      · exact .inr (hal' b g o β ho hβ)
    have hfin : ∀ (ob : Obj) (It' : Nat → Prop), (∀ β, It' β → It β) → Mine C a s.fr w.heap.size (w.heap.size + 1) ob It' (w3.putObj (w.heap.size + 1) ob) s3.hp s3.gc c3 := by
      intro ob It' hsub
      have hwo : ∀ β, β ≠ w.heap.size + 1 → (w3.putObj (w.heap.size + 1) ob).heap[β]? = w3.heap[β]? := fun β hβ => World.putObj_heap_other hβ
      have hD : w.heap.size ≠ w.heap.size + 1 := by omega
      refine ⟨hM.sim.back (C := C) (s0 := ⟨s.fr, hp t, gc t⟩) (l := w.heap.size + 1) hS3 m3 hold (by omega) ?_ ?_ ?_ hwo World.putObj_size rfl rfl rfl hlc3 hlo3 (by show w0.heap.size ≤ _; omega) hal3 hst3, hu3, (m3.st _ hM.dst).1, (hwo _ hD).trans ((m3.st _ hM.dst).2.trans hM.dheap), World.putObj_heap_same (Array.getElem?_eq_some_iff.1 hl3).1, hlc3, hlo3, fun b g o β ho hβ hi => ?_, fun h => hM.lit (hsub _ h), fun β h => ?_, fun β h => hM.itok β (hsub β h)⟩
      · rw [hS3.old.os, hos2.1, hS'.old.os]
      · rw [hS3.old.tape, hos2.2.1, hS'.old.tape]
      · rw [hS3.old.output, hos2.2.2, hS'.old.output]
      · exact ((hS3.al b g o ho).2.2 β hβ).2.1 (mr3.st β (.inr (hsub β hi))).1
      · have := hM.itlt β (hsub β h)
        rw [World.putObj_size]
        omega
    have hkeep : ∀ ob, Keep It W1 (w3.putObj (w.heap.size + 1) ob) := fun ob =>
      ⟨by show w3.os = _; rw [hS3.old.os, hos2.1, hS'.old.os], by show w3.tape = _; rw [hS3.old.tape, hos2.2.1, hS'.old.tape], by show w3.output = _; rw [hS3.old.output, hos2.2.2, hS'.old.output], by rw [World.putObj_size]; omega, fun β hβ => by
        have hne : β ≠ w.heap.size + 1 := fun e => hM.lit (by rw [← e]; exact hβ)
        rw [World.putObj_heap_other hne]
        exact (mr3.st β (.inr hβ)).2⟩
    have hlt3 : ∀ ob, w.heap.size + 1 < (w3.putObj (w.heap.size + 1) ob).heap.size := fun ob => by rw [World.putObj_size]; omega
    cases e2 with
    | normal =>
      obtain ⟨t', g1, g2, g3⟩ := hr
      obtain ⟨c4, hM4⟩ := (hfin (.loop rec0) It (fun _ h => h)).le g1 g2
      exact ⟨_, _, run_endRound none hl3, hkeep _, .inl ⟨rfl, t', c4, g3, hlt3 _, hM4⟩⟩
    | ret => exact ⟨_, _, run_endRound (some .ret) hl3, hkeep _, .inr ⟨rfl, .ret, .ret, s3.hp, s3.gc, c3, .inl ⟨rfl, rfl⟩, hr, hlt3 _, hfin _ _ (fun _ h => h.elim)⟩⟩
    | exit id => exact ⟨_, _, run_endRound (some (.exit id)) hl3, hkeep _, .inr ⟨rfl, .exit id, .exit id, s3.hp, s3.gc, c3, .inr ⟨id, rfl, rfl⟩, hr, hlt3 _, hfin _ _ (fun _ h => h.elim)⟩⟩
    | goto _ => exact hr.elim
    | panic _ => exact hr.elim
    | outgrown => exact hr.elim
  · -- the first round
    have hM0 : Mine C a s.fr w.heap.size (w.heap.size + 1) (.loop rec0) c.st w1 s.hp s.gc ⟨c.own, c.used, fun β => c.st β ∨ β = w.heap.size⟩ := by
      refine ⟨hS.grow (w' := w1) (fun β => c.st β ∨ β = w.heap.size) hB1 (fun β h => .inl h) (fun β h => h.imp id (fun e => by subst e; omega)) none .dead undef (fun e he => by cases he) (fun e => absurd rfl e), hu, .inr rfl, hD1, hL1, fun h => ?_, fun b g o ho hl => ?_, fun b g o β ho hβ hi => ((hS.al b g o ho).2.2 β hβ).2.1 hi, fun h => ?_, fun β h => ?_, fun β h => (hS.st β h).2⟩
      · rcases h with h | h
        · have := (hS.st _ h).1; omega
        · omega
      · have := ((hS.al b g o ho).2.2 _ hl).1; omega
      · have := (hS.st _ h).1; omega
      · have := (hS.st _ h).1; omega
    obtain ⟨c', hM'⟩ := hM0.le hs.1 hs.2
    exact ⟨t0, c', h0, by omega, hM'⟩
theorem awp_rangeFunc {s : AS} {Q : Exit → AS → Prop} {g : Operand} {ps : Array Tmp} {assign body : Code} {it : FuncId} {cap : List AV} {xs : List (List AV)} {τ : Type} (hp : τ → List (Nat × Option Blk)) (gc : τ → Nat) (I : Nat → τ → Prop) (t0 : τ) (hit : IterC P it cap xs) (hg : s.ev g = .clo (.func it) [] cap) (hcl : ∀ x, x ∈ cap → Closed x) (hxs : ∀ x, x ∈ xs → x.length = ps.toList.length) (hxc : ∀ x, x ∈ xs → ∀ a, a ∈ x → Closed a)
    (hps : ps.toList.all (fun p => Nat.blt p n) = true) (h0 : I 0 t0) (hs : HpLe s.hp (hp t0) ∧ s.gc ≤ gc t0)
    (round : ∀ (w0 : World) (st0 lent : Nat → Prop) (l : Nat) (c0 : RC) (i : Nat) (x : List AV) (t : τ), xs[i]? = some x → I i t →
      awp ⟨P, T, ok, n, w0, st0, lent, (some l, true), c0⟩ assign ⟨setPs ps.toList x s.fr, hp t, gc t⟩ (thenA (fun s' => ∀ (w0 : World) (st0 lent : Nat → Prop) (c0 : RC), awp ⟨P, T, ok, n, w0, st0, lent, (some l, true), c0⟩ body s' (roundA s.fr (fun hp' gc' => ∃ t', HpLe hp' (hp t') ∧ gc' ≤ gc t' ∧ I (i + 1) t') Q)) (fun _ _ => False)))
    (fin : ∀ t, I xs.length t → Q .normal ⟨s.fr, hp t, gc t⟩) : awp ⟨P, T, ok, n, w0, st0, lent, (none, false), c00⟩ (.rangeFunc g ps assign body) s Q :=
  awp_rangeFunc0 hg hit hcl hxs hxc (fun p hp => lt_of_blt (List.all_eq_true.1 hps p hp)) hp gc I t0 h0 hs round fin
end
end Go.Proofs.Ytedfegoafallhaa
