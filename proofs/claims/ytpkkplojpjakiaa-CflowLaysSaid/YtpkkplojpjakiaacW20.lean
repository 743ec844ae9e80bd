/- cH1, cX31. -/
import Derived.Test.YtpkkplojpjakiaaW1
import Derived.Test.YtpkkplojpjakiaaW2
import Derived.Test.YtpkkplojpjakiaaW3
import Derived.Test.YtpkkplojpjakiaaW4
import Derived.Test.YtpkkplojpjakiaacW5
import Derived.Test.YtpkkplojpjakiaacW6
import Derived.Test.YtpkkplojpjakiaacW7
import Derived.Test.YtpkkplojpjakiaacW8
import Derived.Test.YtpkkplojpjakiaacW9
import Derived.Test.YtpkkplojpjakiaacW10
import Derived.Test.YtpkkplojpjakiaacW11
import Derived.Test.YtpkkplojpjakiaacW12
import Derived.Test.YtpkkplojpjakiaacW13
import Derived.Test.YtpkkplojpjakiaacW14
import Derived.Test.YtpkkplojpjakiaacW15
import Derived.Test.YtpkkplojpjakiaacW16
import Derived.Test.YtpkkplojpjakiaacW17
import Derived.Test.YtpkkplojpjakiaacW18
import Derived.Test.YtpkkplojpjakiaacW19
import Derived.Test.YtpkkplojpjakiaaRows
/- vm: machines that are read of arguments. -/
namespace Go.Proofs.Ytpkkplojpjakiaa
set_option linter.unusedVariables false
set_option linter.unusedSimpArgs false
open Go Go.RowKit Go.ChangeShapes Go.WideShapes Go.Deep Go.Proofs.Ytpkkplojpjakiaa
open Go.Proofs.Ytpkkplojpjakiaa.Dict (St Bs Wd encW encWs)
open Go.Proofs.Ytpkkplojpjakiaa.Mem (Mm encM encBs encP Pt)
open Go.Proofs.Ytpkkplojpjakiaa.Stk (encS)
set_option maxRecDepth 100000
theorem own_knob : ownKnob Try.prog.godebug = none := by kernel_rfl
theorem laid_out : laidOutB Try.prog = true := by kernel_rfl
section
variable {H : Type} {encT : TypeId × Value → H} {w : World} {base : Nat} {spare : Nat → Bool} {held : Bool}
theorem opens_i : Opens encT Try.prog w base spare held 3 encI In64 := opens_int Try.underlying3
theorem opens_s : Opens encT Try.prog w base spare held 9 (fun l => [St l]) (fun l : Bs => l.length ≤ maxLen) := (opens_str Try.underlying9).map (fun s => s.data.toList) (fun s _ => rfl) (fun s h => h)
theorem arg_str {t : TypeId} {r : Reach} {b0 : Nat} {v : Value} {d : DataW H} {p : List MemPlace} {spare' : Nat → Bool} {held' : Bool} (ht : Try.prog.underlying t = some .string) (hv : Value.okWide Try.prog w r b0 t v)
    (h : DataW.Trod encT Try.prog w base spare' held' t v d p) : ∃ l : Bs, Rep (still w) w (St l) v ∧ l.length ≤ maxLen := by
  obtain ⟨s, rfl⟩ := okWide_string ht hv
  obtain ⟨y, h1, h2⟩ := arg_one (enc := fun s => .val (.string s)) rfl h (opens_str ht)
  exact ⟨y.data.toList, h1, h2⟩
theorem opens_w : Opens encT Try.prog w base spare held 130 encW (fun w => In64 w.fl) := (opens_struct Try.underlying130 (by kernel_rfl) (OpensFs.cons (sz := 1) rfl (by kernel_rfl) opens_s (OpensFs.cons (sz := 1) rfl (by kernel_rfl) opens_i (OpensFs.cons (sz := 1) rfl (by kernel_rfl) opens_i OpensFs.nil)))).map (fun y => ⟨y.1, y.2.1, y.2.2.1⟩) (fun _ _ => rfl) (fun _ h => h.2.2.1)
theorem opens_ws : Opens encT Try.prog w base spare held 30 (fun l => [encWs l]) (fun l => ∀ w, w ∈ l → In64 w.fl) := (opens_slice (sz := 3) (enc := encW) Try.underlying30 (by kernel_rfl) (by decide) (fun _ => rfl) opens_w).map id (fun _ _ => rfl) (fun _ h => h.2)
theorem opens_bs : Opens encT Try.prog w base spare held 24 (fun l => [encBs l]) (fun l : List UInt8 => True) := (opens_slice (sz := 1) (enc := encB) Try.underlying24 (by kernel_rfl) (by decide) (fun _ => rfl) (opens_byte Try.underlying5)).map id (fun _ _ => rfl) (fun _ _ => trivial)
theorem opens_p : Opens encT Try.prog w base spare held 128 encP (fun _ => True) := (opens_struct Try.underlying128 (by kernel_rfl) (OpensFs.cons (sz := 1) rfl (by kernel_rfl) opens_i (OpensFs.cons (sz := 1) rfl (by kernel_rfl) opens_bs OpensFs.nil))).map (fun y => (y.1, y.2.1)) (fun _ _ => rfl) (fun _ _ => trivial)
theorem opens_ps : Opens encT Try.prog w base spare held 25 (fun l : List Pt => [.sl 2 false (l.map encP)]) (fun l => True) := (opens_slice (sz := 2) (enc := encP) Try.underlying25 (by kernel_rfl) (by decide) (fun _ => rfl) opens_p).map id (fun _ _ => rfl) (fun _ _ => trivial)
theorem opens_m : Opens encT Try.prog w base spare held 27 encM (fun m => True) := (opens_struct Try.underlying27 (by kernel_rfl) (OpensFs.cons (sz := 1) rfl (by kernel_rfl) opens_bs (OpensFs.cons (sz := 1) rfl (by kernel_rfl) opens_ps OpensFs.nil))).map (fun y => ⟨y.1, y.2.1⟩) (fun _ _ => rfl) (fun _ _ => trivial)
theorem opens_is : Opens encT Try.prog w base spare held 28 (fun l => [encS l]) (fun l => True) := (opens_slice (sz := 1) (enc := encI) Try.underlying28 (by kernel_rfl) (by decide) (fun _ => rfl) opens_i).map id (fun _ _ => rfl) (fun _ _ => trivial)
theorem opens_b : Opens encT Try.prog w base spare held 4 (fun b => [.val (.bool b)]) (fun b : Bool => True) := opens_bool Try.underlying4
theorem opens_fr : Opens encT Try.prog w base spare held 110 encFr (fun _ => True) := (opens_struct Try.underlying110 (by kernel_rfl) (OpensFs.cons (sz := 1) rfl (by kernel_rfl) opens_i (OpensFs.cons (sz := 1) rfl (by kernel_rfl) opens_i (OpensFs.cons (sz := 1) rfl (by kernel_rfl) opens_i OpensFs.nil)))).map (fun y => ⟨y.1, y.2.1, y.2.2.1⟩) (fun _ _ => rfl) (fun _ _ => trivial)
theorem opens_frs : Opens encT Try.prog w base spare held 29 (fun l => [encLFr l]) (fun l => True) := (opens_slice (sz := 3) (enc := encFr) Try.underlying29 (by kernel_rfl) (by decide) (fun _ => rfl) opens_fr).map id (fun _ _ => rfl) (fun _ _ => trivial)
theorem opens_rq : Opens encT Try.prog w base spare held 132 encRq (fun _ => True) := (opens_struct Try.underlying132 (by kernel_rfl) (OpensFs.cons (sz := 1) rfl (by kernel_rfl) opens_i (OpensFs.cons (sz := 1) rfl (by kernel_rfl) opens_i (OpensFs.cons (sz := 1) rfl (by kernel_rfl) opens_i (OpensFs.cons (sz := 1) rfl (by kernel_rfl) opens_i (OpensFs.cons (sz := 1) rfl (by kernel_rfl) opens_i (OpensFs.cons (sz := 1) rfl (by kernel_rfl) opens_i OpensFs.nil))))))).map (fun y => ⟨y.1, y.2.1, y.2.2.1, y.2.2.2.1, y.2.2.2.2.1, y.2.2.2.2.2.1⟩) (fun _ _ => rfl) (fun _ _ => trivial)
theorem opens_rqs : Opens encT Try.prog w base spare held 33 (fun l => [encLRq l]) (fun l => True) := (opens_slice (sz := 6) (enc := encRq) Try.underlying33 (by kernel_rfl) (by decide) (fun _ => rfl) opens_rq).map id (fun _ _ => rfl) (fun _ _ => trivial)
theorem opens_hn : Opens encT Try.prog w base spare held 112 encHn (fun _ => True) := (opens_struct Try.underlying112 (by kernel_rfl) (OpensFs.cons (sz := 1) rfl (by kernel_rfl) opens_i (OpensFs.cons (sz := 1) rfl (by kernel_rfl) opens_i (OpensFs.cons (sz := 1) rfl (by kernel_rfl) opens_i (OpensFs.cons (sz := 1) rfl (by kernel_rfl) opens_b OpensFs.nil))))).map (fun y => ⟨y.1, y.2.1, y.2.2.1, y.2.2.2.1⟩) (fun _ _ => rfl) (fun _ _ => trivial)
theorem opens_hns : Opens encT Try.prog w base spare held 34 (fun l => [encLHn l]) (fun l => True) := (opens_slice (sz := 4) (enc := encHn) Try.underlying34 (by kernel_rfl) (by decide) (fun _ => rfl) opens_hn).map id (fun _ _ => rfl) (fun _ _ => trivial)
theorem opens_cf : Opens encT Try.prog w base spare held 23 encC (fun _ => True) := (opens_struct Try.underlying23 (by kernel_rfl) (OpensFs.cons (sz := 1) rfl (by kernel_rfl) opens_i (OpensFs.cons (sz := 1) rfl (by kernel_rfl) opens_i (OpensFs.cons (sz := 1) rfl (by kernel_rfl) opens_i (OpensFs.cons (sz := 1) rfl (by kernel_rfl) opens_i (OpensFs.cons (sz := 1) rfl (by kernel_rfl) opens_i OpensFs.nil)))))).map (fun y => ⟨y.1, y.2.1, y.2.2.1, y.2.2.2.1, y.2.2.2.2.1⟩) (fun _ _ => rfl) (fun _ _ => trivial)
theorem opens_pic : Opens encT Try.prog w base spare held 32 (fun p : Bs × Bool => [encBs p.1, .val (.bool p.2)]) (fun _ => True) := (opens_struct Try.underlying32 (by kernel_rfl) (OpensFs.cons (sz := 1) rfl (by kernel_rfl) opens_bs (OpensFs.cons (sz := 1) rfl (by kernel_rfl) opens_b OpensFs.nil))).map (fun y => (y.1, y.2.1)) (fun _ _ => rfl) (fun _ _ => trivial)
theorem opens_v : Opens encT Try.prog w base spare held 36 encV (fun v => ∀ w, w ∈ v.dict → In64 w.fl) := (opens_struct Try.underlying36 (by kernel_rfl) (OpensFs.cons (sz := 5) rfl (by kernel_rfl) opens_cf (OpensFs.cons (sz := 2) rfl (by kernel_rfl) opens_m (OpensFs.cons (sz := 1) rfl (by kernel_rfl) opens_i (OpensFs.cons (sz := 1) rfl (by kernel_rfl) opens_is (OpensFs.cons (sz := 1) rfl (by kernel_rfl) opens_is (OpensFs.cons (sz := 1) rfl (by kernel_rfl) opens_frs (OpensFs.cons (sz := 1) rfl (by kernel_rfl) opens_ws (OpensFs.cons (sz := 1) rfl (by kernel_rfl) opens_i (OpensFs.cons (sz := 1) rfl (by kernel_rfl) opens_bs (OpensFs.cons (sz := 2) rfl (by kernel_rfl) opens_pic (OpensFs.cons (sz := 1) rfl (by kernel_rfl) opens_rqs (OpensFs.cons (sz := 1) rfl (by kernel_rfl) opens_i (OpensFs.cons (sz := 1) rfl (by kernel_rfl) opens_i (OpensFs.cons (sz := 1) rfl (by kernel_rfl) opens_i (OpensFs.cons (sz := 1) rfl (by kernel_rfl) opens_i (OpensFs.cons (sz := 1) rfl (by kernel_rfl) opens_i (OpensFs.cons (sz := 1) rfl (by kernel_rfl) opens_hns OpensFs.nil)))))))))))))))))).map (fun y => ⟨y.1, y.2.1, y.2.2.1, y.2.2.2.1, y.2.2.2.2.1, y.2.2.2.2.2.1, y.2.2.2.2.2.2.1, y.2.2.2.2.2.2.2.1, y.2.2.2.2.2.2.2.2.1, y.2.2.2.2.2.2.2.2.2.1.1, y.2.2.2.2.2.2.2.2.2.1.2, y.2.2.2.2.2.2.2.2.2.2.1, y.2.2.2.2.2.2.2.2.2.2.2.1, y.2.2.2.2.2.2.2.2.2.2.2.2.1, y.2.2.2.2.2.2.2.2.2.2.2.2.2.1, y.2.2.2.2.2.2.2.2.2.2.2.2.2.2.1, y.2.2.2.2.2.2.2.2.2.2.2.2.2.2.2.1, y.2.2.2.2.2.2.2.2.2.2.2.2.2.2.2.2.1⟩) (fun _ _ => rfl) (fun _ h => h.2.2.2.2.2.2.1)
end
end Go.Proofs.Ytpkkplojpjakiaa
/- cflow: brackets that are read of arguments. -/
namespace Go.Proofs.Ytpkkplojpjakiaa
set_option linter.unusedVariables false
set_option linter.unusedSimpArgs false
open Go Go.RowKit Go.ChangeShapes Go.WideShapes Go.Deep Go.Proofs.Ytpkkplojpjakiaa
set_option maxRecDepth 100000
open Go.Proofs.Ytpkkplojpjakiaa.Stk (encS)
section
variable {H : Type} {encT : TypeId × Value → H} {w : World} {base : Nat} {spare : Nat → Bool} {held : Bool}
theorem len64 {α : Type} {l : List α} (h : l.length ≤ maxLen) : l.length ≤ 9223372036854775807 := by
  unfold maxLen at h
  omega
theorem opens_br : Opens encT Try.prog w base spare held 66 encCf (fun _ => True) := (opens_struct Try.underlying66 (by kernel_rfl) (OpensFs.cons (sz := 1) rfl (by kernel_rfl) opens_i (OpensFs.cons (sz := 1) rfl (by kernel_rfl) opens_i (OpensFs.cons (sz := 1) rfl (by kernel_rfl) opens_is OpensFs.nil)))).map (fun y => ⟨y.1, y.2.1, y.2.2.1⟩) (fun _ _ => rfl) (fun _ _ => trivial)
theorem opens_brs : Opens encT Try.prog w base spare held 37 (fun l => [encLCf l]) (fun l => l.length ≤ 9223372036854775807) := (opens_slice (sz := 3) (enc := encCf) Try.underlying37 (by kernel_rfl) (by decide) (fun _ => rfl) opens_br).map id (fun _ _ => rfl) (fun _ h => len64 h.1)
end
end Go.Proofs.Ytpkkplojpjakiaa
