/- Regions whose ways meet again; short words for walks. -/
import Derived.Test.YtedfegoafallhaaB3
namespace Go.Proofs.Ytedfegoafallhaa
set_option linter.unusedVariables false
set_option linter.unusedSimpArgs false
open Go Go.RowKit

theorem awp_condT {C : ACtx} {s : AS} {Q : Exit → AS → Prop} {x : Operand} {c d : Code} {b : Bool} (hv : s.ev x = .val (.bool b)) (hb : b = true) (h : awp C c s Q) : awp C (.cond x c d) s Q := awp_cond hv (fun _ => h) (fun h' => by rw [hb] at h'; cases h')
theorem awp_condF {C : ACtx} {s : AS} {Q : Exit → AS → Prop} {x : Operand} {c d : Code} {b : Bool} (hv : s.ev x = .val (.bool b)) (hb : b = false) (h : awp C d s Q) : awp C (.cond x c d) s Q := awp_cond hv (fun h' => by rw [hb] at h'; cases h') (fun _ => h)
theorem get_map {α : Type} {f : α → List AV} {l : List α} {k : Nat} {x : α} (h : l[k]? = some x) : (l.map f)[((k : Nat) : Int).toNat]? = some (f x) := by
  rw [Int.toNat_natCast, List.getElem?_map, h]
  rfl
theorem succI (k : Nat) : AV.val (.int .i64 ((k : Int) + 1)) = AV.val (.int .i64 ((k + 1 : Nat) : Int)) := rfl
theorem closed_map {α : Type} {sz : Nat} {full : Bool} {f : α → List AV} {l : List α} (h : ∀ a x, x ∈ f a → Closed x) : Closed (.sl sz full (l.map f)) := .sl (fun el x hel hx => by
  obtain ⟨a, _, rfl⟩ := List.mem_map.1 hel
  exact h a x hx)
theorem nott {b : Bool} (h : (!b) = true) : b = false := by cases b <;> first | rfl | cases h
theorem notf {b : Bool} (h : (!b) = false) : b = true := by cases b <;> first | rfl | cases h
/-- All ways of a region come to one state (of which less may be known). -/
def toK (draw : Bool) (l : List Oper) (S : AS) : AS → List (List Nat × List Nat) → Prop := fun s fps => (draw = true → regOk l fps = true) ∧ FrLe s.fr S.fr ∧ HpLe s.hp S.hp ∧ s.gc + l.length ≤ S.gc
theorem FrLe.congr {l l2 : List (Nat × AV)} (h : ∀ t, lkA l t = lkA l2 t) : ∀ {l' : List (Nat × AV)}, FrLe l l' → FrLe l2 l'
  | [], _ => trivial
  | (t, _) :: _, k => ⟨(h t).symm.trans k.1, FrLe.congr h k.2⟩
theorem HpLe.congr {l l2 : List (Nat × Option Blk)} (h : ∀ t, lkH l t = lkH l2 t) : ∀ {l' : List (Nat × Option Blk)}, HpLe l l' → HpLe l2 l'
  | [], _ => trivial
  | (t, _) :: _, k => ⟨(h t).symm.trans k.1, HpLe.congr h k.2⟩
theorem toK.eqv {draw : Bool} {l : List Oper} {S s s' : AS} {fps : List (List Nat × List Nat)} (h : toK draw l S s fps) (e : s.eqv s') : toK draw l S s' fps :=
  ⟨h.1, FrLe.congr e.fr h.2.1, HpLe.congr e.hp h.2.2.1, by rw [← e.gc]; exact h.2.2.2⟩
theorem ARun.eqvK {C : ACtx} {ops : Array Oper} {K : AS → List (List Nat × List Nat) → Prop} (hK : ∀ s s' fps, K s fps → s.eqv s' → K s' fps) : ∀ (l : List Oper) {k : Nat} {s s' : AS} {fps : List (List Nat × List Nat)}, ARun C ops K k l s fps → s.eqv s' → ARun C ops K k l s' fps
  | [], _, _, _, _, h, e => hK _ _ _ h e
  | o :: l, k, s, s', fps, ⟨it, h1, h2, h3, h4⟩, e => ⟨it, h1, h2, h3.eqv e, ARun.eqvK hK l h4 (app_eqv e it)⟩
theorem ARun.mono {C : ACtx} {ops : Array Oper} {K K' : AS → List (List Nat × List Nat) → Prop} (hK : ∀ s fps, K s fps → K' s fps) : ∀ (l : List Oper) {k : Nat} {s : AS} {fps : List (List Nat × List Nat)}, ARun C ops K k l s fps → ARun C ops K' k l s fps
  | [], _, _, _, h => hK _ _ h
  | o :: l, k, s, fps, ⟨it, h1, h2, h3, h4⟩ => ⟨it, h1, h2, h3, ARun.mono hK l h4⟩

theorem awp_region_to {C : ACtx} {s : AS} {Q : Exit → AS → Prop} {id : Nat} {l : List Oper} {draw : Bool} (S : AS) (hm : draw = true → C.P.follows .mixedOrders = true) (h : ARun C l.toArray (toK draw l S) 0 l s []) (k : Q .normal S) : awp C (.region id l.toArray draw) s Q := by
  have h' : awp C (.region id l.toArray draw) s (fun e s' => e = .normal ∧ FrLe s'.fr S.fr ∧ HpLe s'.hp S.hp ∧ s'.gc ≤ S.gc) :=
    awp_region hm (ARun.mono (fun s fps hs => ⟨hs.1, s, AS.eqv.refl s, rfl, hs.2.1, hs.2.2.1, hs.2.2.2⟩) l h)
  intro a w hs
  refine wpIn_mono (h' a w hs) (fun e a' w' ⟨s', h1, h2, h3, h4, h5⟩ => ?_)
  subst h2
  exact ⟨S, h1.le h3 h4 h5, k⟩

section
variable {C : ACtx} {ops : Array Oper} {k : Nat} {rest : List Oper} {fr : List (Nat × AV)} {hp : List (Nat × Option Blk)} {gc : Nat} {fps : List (List Nat × List Nat)}
  {ty : TypeId} {pos : String} {after : Array Edge} {draw : Bool} {l0 : List Oper} {S : AS}
theorem ARun.finT {s : AS} {l : List Oper} (h1 : draw = true → regOk l fps = true) (h2 : FrLe s.fr S.fr ∧ HpLe s.hp S.hp ∧ s.gc + l.length ≤ S.gc) : ARun C ops (toK draw l S) k [] s fps := ⟨h1, h2⟩
theorem ARun.forkT {dst : Option Nat} {op : Op} {j : Nat} {want b : Bool} {oj : Oper} {e : Nat} (h1 : ops[j]? = some oj) (h2 : oj.dst = some e) (h3 : lkA fr e = .val (.bool b))
    (ht : b = true → ARun C ops (toK draw l0 S) k (⟨dst, op, ty, pos, after, some (j, want)⟩ :: rest) ⟨(e, .val (.bool true)) :: fr, hp, gc⟩ fps) (hf : b = false → ARun C ops (toK draw l0 S) k (⟨dst, op, ty, pos, after, some (j, want)⟩ :: rest) ⟨(e, .val (.bool false)) :: fr, hp, gc⟩ fps) :
    ARun C ops (toK draw l0 S) k (⟨dst, op, ty, pos, after, some (j, want)⟩ :: rest) ⟨fr, hp, gc⟩ fps := by
  have hq : ∀ b', b = b' → AS.eqv ⟨(e, .val (.bool b')) :: fr, hp, gc⟩ ⟨fr, hp, gc⟩ := by
    intro b' hb
    refine ⟨fun t => ?_, fun _ => rfl, rfl⟩
    simp only [lkA_cons]
    split
    · rename_i he
      subst he
      rw [h3, hb]
    · rfl
  cases b
  · exact ARun.eqvK (fun _ _ _ h e => h.eqv e) _ (hf rfl) (hq false rfl)
  · exact ARun.eqvK (fun _ _ _ h e => h.eqv e) _ (ht rfl) (hq true rfl)
end
section
variable {C : ACtx} {ops : Array Oper} {k : Nat} {rest : List Oper} {fr : List (Nat × AV)} {hp : List (Nat × Option Blk)} {gc : Nat} {fps : List (List Nat × List Nat)}
  {ty : TypeId} {pos : String} {after : Array Edge} {draw : Bool} {l0 : List Oper} {Q : Exit → AS → Prop}
/-- A guard that is known. -/
theorem ARun.knowT {dst : Option Nat} {op : Op} {j : Nat} {want b : Bool} {oj : Oper} {e : Nat} (h1 : ops[j]? = some oj) (h2 : oj.dst = some e) (h3 : lkA fr e = .val (.bool b)) (hb : b = true)
    (ht : ARun C ops (regK draw l0 Q) k (⟨dst, op, ty, pos, after, some (j, want)⟩ :: rest) ⟨(e, .val (.bool true)) :: fr, hp, gc⟩ fps) :
    ARun C ops (regK draw l0 Q) k (⟨dst, op, ty, pos, after, some (j, want)⟩ :: rest) ⟨fr, hp, gc⟩ fps := ARun.fork h1 h2 h3 (fun _ => ht) (fun h => absurd (hb.symm.trans h) (by decide))
theorem ARun.knowF {dst : Option Nat} {op : Op} {j : Nat} {want b : Bool} {oj : Oper} {e : Nat} (h1 : ops[j]? = some oj) (h2 : oj.dst = some e) (h3 : lkA fr e = .val (.bool b)) (hb : b = false)
    (hf : ARun C ops (regK draw l0 Q) k (⟨dst, op, ty, pos, after, some (j, want)⟩ :: rest) ⟨(e, .val (.bool false)) :: fr, hp, gc⟩ fps) :
    ARun C ops (regK draw l0 Q) k (⟨dst, op, ty, pos, after, some (j, want)⟩ :: rest) ⟨fr, hp, gc⟩ fps := ARun.fork h1 h2 h3 (fun h => absurd (hb.symm.trans h) (by decide)) (fun _ => hf)
end
end Go.Proofs.Ytedfegoafallhaa
