/- Values that are read of arguments: more of them. -/
import Derived.Test.YtedfegoafallhaaD8
import Derived.Test.YtedfegoafallhaaC1
namespace Go.Proofs.Ytedfegoafallhaa
set_option linter.unusedVariables false
set_option linter.unusedSimpArgs false
open Go Go.RowKit Go.ChangeShapes Go.WideShapes Go.Deep
set_option maxRecDepth 100000
section
variable {P : Program} {H : Type} {encT : TypeId × Value → H} {w : World} {base : Nat} {spare : Nat → Bool} {held : Bool}
theorem Opens.map {t : TypeId} {α β : Type} {enc : α → List AV} {Q : α → Prop} {enc' : β → List AV} {Q' : β → Prop} (h : Opens encT P w base spare held t enc Q) (f : α → β) (he : ∀ y, Q y → enc y = enc' (f y)) (hq : ∀ y, Q y → Q' (f y)) : Opens encT P w base spare held t enc' Q' := fun n cs x hx => by
  obtain ⟨y, h1, h2⟩ := h n cs x hx
  exact ⟨f y, by rw [← he y h2]; exact h1, hq y h2⟩
theorem opens_byte {t : TypeId} (ht : P.underlying t = some (.int .u8)) : Opens encT P w base spare held t encB (fun _ => True) :=
  (opens_u8 ht).map (fun n => UInt8.ofNat n.toNat) (fun n hn => by
    have : ((UInt8.ofNat n.toNat).toNat : Int) = n := by
      rw [UInt8.toNat_ofNat']
      omega
    show [AV.val (.int .u8 n)] = [AV.val (.int .u8 ((UInt8.ofNat n.toNat).toNat : Int))]
    rw [this]) (fun _ _ => trivial)
end
end Go.Proofs.Ytedfegoafallhaa
