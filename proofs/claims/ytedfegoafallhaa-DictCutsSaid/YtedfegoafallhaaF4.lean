/- A field of an element of a row is written: told what comes of it. -/
import Derived.Test.YtedfegoafallhaaF3
namespace Go.Proofs.Ytedfegoafallhaa
set_option linter.unusedVariables false
set_option linter.unusedSimpArgs false
open Go Go.RowKit
set_option maxRecDepth 100000

section
variable {C : ACtx} {ops : Array Oper} {K : AS → List (List Nat × List Nat) → Prop} {k : Nat} {rest : List Oper} {fr : List (Nat × AV)} {hp : List (Nat × Option Blk)} {gc : Nat} {fps : List (List Nat × List Nat)}
  {d : Nat} {ty : TypeId} {pos : String} {after : Array Edge} {gd : Option (Nat × Bool)} {x y z : Operand} {v : AV}
theorem ARun.storeAt {t : Nat} {ti : TI} {b g i f : Nat} {gen sz : Nat} {els els' : List (List AV)} {el el' cs : List AV} (hx : evA fr x = .ptr b g i f) (hb : lkH hp b = some ⟨gen, sz, els⟩) (hgg : gen = g) (he : els[i]? = some el)
    (ht : C.T t = some ti) (hc : cellsA (evA fr y) = some cs) (hl : cs.length = ti.size) (h0 : Nat.blt 0 ti.size = true) (hs : setF el f cs = some el') (hu : els.set i el' = els')
    (hg : guardIs ops ⟨fr, hp, gc⟩ ⟨none, .store t x y, ty, pos, after, gd⟩ true)
    (nx : ARun C ops K (k + 1) rest ⟨fr, (b, some ⟨gen, sz, els'⟩) :: hp, gc⟩ (fps ++ [([b], [b])])) : ARun C ops K k (⟨none, .store t x y, ty, pos, after, gd⟩ :: rest) ⟨fr, hp, gc⟩ fps := by
  subst hu
  exact ARun.store hx hb hgg he ht hc hl h0 (setF_spec hs) hg nx
end
end Go.Proofs.Ytedfegoafallhaa
