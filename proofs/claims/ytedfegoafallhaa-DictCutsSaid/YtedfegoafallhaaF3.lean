/- Bytes of a text, as a row of the call's own; pointers that are looked at. -/
import Derived.Test.YtedfegoafallhaaF2
import Derived.Lib.ConvBytes
namespace Go.Proofs.Ytedfegoafallhaa
set_option linter.unusedVariables false
set_option linter.unusedSimpArgs false
open Go Go.RowKit
set_option maxRecDepth 100000
section
variable {C : ACtx} {ops : Array Oper} {K : AS → List (List Nat × List Nat) → Prop} {k : Nat} {rest : List Oper} {fr : List (Nat × AV)} {hp : List (Nat × Option Blk)} {gc : Nat} {fps : List (List Nat × List Nat)}
  {d : Nat} {ty : TypeId} {pos : String} {after : Array Edge} {gd : Option (Nat × Bool)} {x y z : Operand} {v : AV}

/-- A text's bytes, in a row of the call's own. -/
theorem ARun.strBytesO {ts td e : Nat} {si di te : TI} {s : ByteArray} (hx : evA fr x = .val (.string s)) (hsm : (s.size : Nat) ≤ maxLen) (ht : C.T ts = some si) (hk : si.k = .str) (htd : C.T td = some di) (hkd : di.k = .slice e) (hte : C.T e = some te) (hke : te.k = .int .u8)
    (hd : Nat.blt d C.n = true) (hg : guardIs ops ⟨fr, hp, gc⟩ ⟨some d, .convert ts td x, ty, pos, after, gd⟩ true)
    (nx : ARun C ops K (k + 1) rest ⟨(d, .own d (gc + k) 0 s.data.toList.length) :: fr, (d, some ⟨gc + k, 1, s.data.toList.map encB⟩) :: hp, gc⟩ (fps ++ [([], [d])])) : ARun C ops K k (⟨some d, .convert ts td x, ty, pos, after, gd⟩ :: rest) ⟨fr, hp, gc⟩ fps := by
  refine ARun.step (.own d (gc + k) 0 s.data.toList.length) [] [(d, some ⟨gc + k, 1, s.data.toList.map encB⟩)] hg (by simp) ?_ nx
  intro st c a w hS hf hargs _
  have hrx : Rep c w (evA fr x) (a.eval x) := by
    rw [← args_ev hargs x (by simp [Op.operands])]
    exact hS.ev x
  rw [hx] at hrx
  have hrx := hrx.val_inv
  have hr := Go.Lib.run_convert_string_bytes (P := C.P) w ts td e s (und_str ht hk) (und_slice htd hkd) (und_int hte hke)
  have hrun : (execOp a.eval ⟨some d, .convert ts td x, ty, pos, after, gd⟩).run C.P w = .ok (.value (.slice (some ⟨w.heap.size, 0, none⟩) s.size (grownCap w s.size 0 e))) (Go.Lib.bytesWorld w e s) := by
    simp [execOp, hrx, hr]
  have hlen : s.data.toList.length = s.size := Array.length_toList
  have hcs : (Go.Lib.bytesCells w e s).size = grownCap w s.size 0 e := by
    have hge := grownCap_ge w s.size 0 e
    simp [Go.Lib.bytesCells]
    omega
  have hrow : RowAt (Go.Lib.bytesWorld w e s) w.heap.size (Go.Lib.bytesCells w e s) e := ⟨_, .inr (Nat.le_refl _), Go.Lib.bytesWorld_at_new w e s⟩
  let o : OB := ⟨some w.heap.size, 1, (Go.Lib.bytesCells w e s).size⟩
  refine wp_value hrun ⟨_, hS.upd (w' := Go.Lib.bytesWorld w e s) d ⟨gc + k, 1, s.data.toList.map encB⟩ o (.inl hf) rfl rfl rfl (by rw [Go.Lib.bytesWorld_size]; omega) (fun β hβ _ => Go.Lib.bytesWorld_at_old w e s β hβ) (fun β hβ => ?_) (fun hm => .inl ⟨rfl, fun el hel => ?_, _, e, hrow, rfl, fun i el f x hi hx => ?_⟩) (some d) (.own d (gc + k) 0 s.data.toList.length) (.slice (some ⟨w.heap.size, 0, none⟩) s.size (grownCap w s.size 0 e)) (dst_lt hd) (fun _ _ => ?_), fun g hg => ?_⟩
  · simp only [o, Option.some.injEq] at hβ
    subst hβ
    exact .inl ⟨Nat.le_refl _, by rw [Go.Lib.bytesWorld_size]; omega⟩
  · obtain ⟨b, _, rfl⟩ := List.mem_map.1 hel
    rfl
  · simp only at hi
    rw [List.getElem?_map] at hi
    cases hb : s.data.toList[i]? with
    | none => rw [hb] at hi; cases hi
    | some b =>
      rw [hb] at hi
      obtain rfl := Option.some.inj hi
      have hil := (List.getElem?_eq_some_iff.1 hb).1
      have hf0 : f = 0 := by
        have := (List.getElem?_eq_some_iff.1 hx).1
        simp [encB] at this
        exact this
      subst hf0
      simp only [encB, List.getElem?_cons_zero, Option.some.injEq] at hx
      have h1 := Go.Lib.bytesWorld_cell w e s i (by rw [Array.length_toList] at hil; exact hil)
      rw [hrow.cell] at h1
      refine ⟨_, by simpa using h1, rfl, ?_⟩
      have hb2 : s.data[i]? = some b := by simpa using hb
      rw [hb2, ← hx]
      exact .val _
  · refine .own _ _ _ _ _ _ _ (.inr rfl) (fun q hq => ?_)
    have hq : (if d = d then (if gc + k = gc + k then some o else none) else c.own d (gc + k)) = some q := hq
    rw [if_pos rfl, if_pos rfl] at hq
    obtain rfl := Option.some.inj hq
    refine ⟨hlen.symm, ?_, grownCap_le_maxLen w s.size 0 e hsm, (fun h => by cases h), by simp [o], .inr ⟨w.heap.size, rfl, by simp, ?_⟩⟩
    · rw [hlen]
      exact grownCap_ge w s.size 0 e
    · simp only [o]
      rw [hcs]
      omega
  · rcases hg with h | h
    · exact .inl h
    · exact .inr h

/-- A pointer that isn't nil. -/
theorem ARun.nilCheckP {b g i f : Nat} (hx : evA fr x = .ptr b g i f) (hd : Nat.blt d C.n = true) (hg : guardIs ops ⟨fr, hp, gc⟩ ⟨some d, .nilCheck x, ty, pos, after, gd⟩ true)
    (nx : ARun C ops K (k + 1) rest ⟨(d, .ptr b g i f) :: fr, hp, gc⟩ (fps ++ [([], [])])) : ARun C ops K k (⟨some d, .nilCheck x, ty, pos, after, gd⟩ :: rest) ⟨fr, hp, gc⟩ fps :=
  ARun.quiet hd hg [] (by simp) (fun s c a w hS hev _ => by
    have h1 := hev x (by simp [Op.operands])
    rw [hx] at h1
    generalize hu : a.eval x = u at h1
    cases h1 with
    | ptr _ _ _ _ β o hu' hp' => exact ⟨_, by simp [execOp, hu], .ptr b g i f β o hu' hp'⟩) nx
end
section
variable {P : Program} {T : Nat → Option TI} {ok : ∀ t ti, T t = some ti → tiOf P t = some ti} {nn : Nat} {w0 : World} {st0 lent : Nat → Prop} {rdd : Option Nat × Bool} {c00 : RC} {ops : Array Oper} {K : AS → List (List Nat × List Nat) → Prop} {k : Nat} {rest : List Oper} {fr : List (Nat × AV)} {hp : List (Nat × Option Blk)} {gc : Nat} {fps : List (List Nat × List Nat)}
  {d : Nat} {ty : TypeId} {pos : String} {after : Array Edge} {gd : Option (Nat × Bool)} {v : AV}
theorem callLX {dst : Option Nat} {fx : Operand} {args : Array Operand} {ats : Array TypeId} {f : FuncId} {first cap cavs : List AV} {bs : List LB} {res : AV} {bs' : List (List (List AV))} (ls ls' : List (Nat × Blk)) (hF : FnL P f cavs bs res bs') (hf : FunA (evA fr fx) f first cap) (hlk : LkAll hp ls)
    (ha : RelL (Ln (ls.map fun p => (p.1, p.2.gen))) (first ++ args.toList.map (evA fr) ++ cap) cavs) (hin : LentIn (Ln (ls.map fun p => (p.1, p.2.gen))) ls bs) (hout : LentOut (Lb (ls.map fun p => (p.1, p.2.gen))) ls ls' bs') (hres : Lb (ls.map fun p => (p.1, p.2.gen)) v res)
    (hnd : nodupB (ls.map (·.1)) = true) (hd : (match dst with | some d => Nat.blt d nn | none => true) = true) (hg : guardF ops fr ⟨dst, .call ⟨.value fx, args, ats⟩, ty, pos, after, gd⟩ = some true)
    (nx : ARun ⟨P, T, ok, nn, w0, st0, lent, rdd, c00⟩ ops K (k + 1) rest ⟨putFr fr dst v, ls'.map (fun p => (p.1, some p.2)) ++ hp, gc⟩ (fps ++ [(ls.map (·.1), ls'.map (·.1))])) : ARun ⟨P, T, ok, nn, w0, st0, lent, rdd, c00⟩ ops K k (⟨dst, .call ⟨.value fx, args, ats⟩, ty, pos, after, gd⟩ :: rest) ⟨fr, hp, gc⟩ fps :=
  ARun.callL ls ls' hF hf ha hlk hnd hin hout hres hd (guardF_spec hg) nx
end
end Go.Proofs.Ytedfegoafallhaa
