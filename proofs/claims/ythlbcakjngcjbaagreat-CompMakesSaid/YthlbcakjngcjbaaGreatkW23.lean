/- kH1, kX31, kC30. -/
import Derived.Test.YthlbcakjngcjbaaGreatW1
import Derived.Test.YthlbcakjngcjbaaGreatW2
import Derived.Test.YthlbcakjngcjbaaGreatW3
import Derived.Test.YthlbcakjngcjbaaGreatW4
import Derived.Test.YthlbcakjngcjbaaGreatkW5
import Derived.Test.YthlbcakjngcjbaaGreatkW6
import Derived.Test.YthlbcakjngcjbaaGreatkW7
import Derived.Test.YthlbcakjngcjbaaGreatkW8
import Derived.Test.YthlbcakjngcjbaaGreatkW9
import Derived.Test.YthlbcakjngcjbaaGreatkW10
import Derived.Test.YthlbcakjngcjbaaGreatkW11
import Derived.Test.YthlbcakjngcjbaaGreatkW12
import Derived.Test.YthlbcakjngcjbaaGreatkW13
import Derived.Test.YthlbcakjngcjbaaGreatkW14
import Derived.Test.YthlbcakjngcjbaaGreatkW15
import Derived.Test.YthlbcakjngcjbaaGreatkW16
import Derived.Test.YthlbcakjngcjbaaGreatkW17
import Derived.Test.YthlbcakjngcjbaaGreatkW18
import Derived.Test.YthlbcakjngcjbaaGreatkW19
import Derived.Test.YthlbcakjngcjbaaGreatkW20
import Derived.Test.YthlbcakjngcjbaaGreatkW21
import Derived.Test.YthlbcakjngcjbaaGreatkW22
import Derived.Test.YthlbcakjngcjbaaGreatRows
set_option linter.unusedVariables false
set_option linter.unusedSimpArgs false
namespace Go.Proofs.YthlbcakjngcjbaaGreat
open Go Go.RowKit Go.ChangeShapes Go.WideShapes Go.Deep Go.Proofs.YthlbcakjngcjbaaGreat
open Go.Proofs.YthlbcakjngcjbaaGreat.Dict (St Bs Wd encW encWs)
open Go.Proofs.YthlbcakjngcjbaaGreat.Mem (Mm encM encBs encP Pt)
open Go.Proofs.YthlbcakjngcjbaaGreat.Stk (encS)
set_option maxRecDepth 100000
theorem own_knob : ownKnob Tryz.prog.godebug = none := by kernel_rfl
theorem laid_out : laidOutB Tryz.prog = true := by kernel_rfl
section
variable {H : Type} {encT : TypeId × Value → H} {w : World} {base : Nat} {spare : Nat → Bool} {held : Bool}
theorem opens_i : Opens encT Tryz.prog w base spare held 3 encI In64 := opens_int Tryz.underlying3
theorem opens_s : Opens encT Tryz.prog w base spare held 9 (fun l => [St l]) (fun l : Bs => l.length ≤ maxLen) := (opens_str Tryz.underlying9).map (fun s => s.data.toList) (fun s _ => rfl) (fun s h => h)
theorem arg_str {t : TypeId} {r : Reach} {b0 : Nat} {v : Value} {d : DataW H} {p : List MemPlace} {spare' : Nat → Bool} {held' : Bool} (ht : Tryz.prog.underlying t = some .string) (hv : Value.okWide Tryz.prog w r b0 t v)
  (h : DataW.Trod encT Tryz.prog w base spare' held' t v d p) : ∃ l : Bs, Rep (still w) w (St l) v ∧ l.length ≤ maxLen := by
 obtain ⟨s, rfl⟩ := okWide_string ht hv
 obtain ⟨y, h1, h2⟩ := arg_one (enc := fun s => .val (.string s)) rfl h (opens_str ht)
 exact ⟨y.data.toList, h1, h2⟩
theorem opens_w : Opens encT Tryz.prog w base spare held 68 encW (fun w => In64 w.fl) := (opens_struct Tryz.underlying68 (by kernel_rfl) (OpensFs.cons (sz := 1) rfl (by kernel_rfl) opens_s (OpensFs.cons (sz := 1) rfl (by kernel_rfl) opens_i (OpensFs.cons (sz := 1) rfl (by kernel_rfl) opens_i OpensFs.nil)))).map (fun y => ⟨y.1, y.2.1, y.2.2.1⟩) (fun _ _ => rfl) (fun _ h => h.2.2.1)
theorem opens_ws : Opens encT Tryz.prog w base spare held 30 (fun l => [encWs l]) (fun l => ∀ w, w ∈ l → In64 w.fl) := (opens_slice (sz := 3) (enc := encW) Tryz.underlying30 (by kernel_rfl) (by decide) (fun _ => rfl) opens_w).map id (fun _ _ => rfl) (fun _ h => h.2)
theorem opens_bs : Opens encT Tryz.prog w base spare held 24 (fun l => [encBs l]) (fun l : List UInt8 => True) := (opens_slice (sz := 1) (enc := encB) Tryz.underlying24 (by kernel_rfl) (by decide) (fun _ => rfl) (opens_byte Tryz.underlying5)).map id (fun _ _ => rfl) (fun _ _ => trivial)
theorem opens_p : Opens encT Tryz.prog w base spare held 167 encP (fun _ => True) := (opens_struct Tryz.underlying167 (by kernel_rfl) (OpensFs.cons (sz := 1) rfl (by kernel_rfl) opens_i (OpensFs.cons (sz := 1) rfl (by kernel_rfl) opens_bs OpensFs.nil))).map (fun y => (y.1, y.2.1)) (fun _ _ => rfl) (fun _ _ => trivial)
theorem opens_ps : Opens encT Tryz.prog w base spare held 25 (fun l : List Pt => [.sl 2 false (l.map encP)]) (fun l => True) := (opens_slice (sz := 2) (enc := encP) Tryz.underlying25 (by kernel_rfl) (by decide) (fun _ => rfl) opens_p).map id (fun _ _ => rfl) (fun _ _ => trivial)
theorem opens_m : Opens encT Tryz.prog w base spare held 27 encM (fun m => True) := (opens_struct Tryz.underlying27 (by kernel_rfl) (OpensFs.cons (sz := 1) rfl (by kernel_rfl) opens_bs (OpensFs.cons (sz := 1) rfl (by kernel_rfl) opens_ps OpensFs.nil))).map (fun y => ⟨y.1, y.2.1⟩) (fun _ _ => rfl) (fun _ _ => trivial)
theorem opens_is : Opens encT Tryz.prog w base spare held 28 (fun l => [encS l]) (fun l => True) := (opens_slice (sz := 1) (enc := encI) Tryz.underlying28 (by kernel_rfl) (by decide) (fun _ => rfl) opens_i).map id (fun _ _ => rfl) (fun _ _ => trivial)
theorem opens_b : Opens encT Tryz.prog w base spare held 4 (fun b => [.val (.bool b)]) (fun b : Bool => True) := opens_bool Tryz.underlying4
theorem opens_fr : Opens encT Tryz.prog w base spare held 131 encFr (fun _ => True) := (opens_struct Tryz.underlying131 (by kernel_rfl) (OpensFs.cons (sz := 1) rfl (by kernel_rfl) opens_i (OpensFs.cons (sz := 1) rfl (by kernel_rfl) opens_i (OpensFs.cons (sz := 1) rfl (by kernel_rfl) opens_i OpensFs.nil)))).map (fun y => ⟨y.1, y.2.1, y.2.2.1⟩) (fun _ _ => rfl) (fun _ _ => trivial)
theorem opens_frs : Opens encT Tryz.prog w base spare held 29 (fun l => [encLFr l]) (fun l => True) := (opens_slice (sz := 3) (enc := encFr) Tryz.underlying29 (by kernel_rfl) (by decide) (fun _ => rfl) opens_fr).map id (fun _ _ => rfl) (fun _ _ => trivial)
theorem opens_rq : Opens encT Tryz.prog w base spare held 138 encRq (fun _ => True) := (opens_struct Tryz.underlying138 (by kernel_rfl) (OpensFs.cons (sz := 1) rfl (by kernel_rfl) opens_i (OpensFs.cons (sz := 1) rfl (by kernel_rfl) opens_i (OpensFs.cons (sz := 1) rfl (by kernel_rfl) opens_i (OpensFs.cons (sz := 1) rfl (by kernel_rfl) opens_i (OpensFs.cons (sz := 1) rfl (by kernel_rfl) opens_i (OpensFs.cons (sz := 1) rfl (by kernel_rfl) opens_i OpensFs.nil))))))).map (fun y => ⟨y.1, y.2.1, y.2.2.1, y.2.2.2.1, y.2.2.2.2.1, y.2.2.2.2.2.1⟩) (fun _ _ => rfl) (fun _ _ => trivial)
theorem opens_rqs : Opens encT Tryz.prog w base spare held 33 (fun l => [encLRq l]) (fun l => True) := (opens_slice (sz := 6) (enc := encRq) Tryz.underlying33 (by kernel_rfl) (by decide) (fun _ => rfl) opens_rq).map id (fun _ _ => rfl) (fun _ _ => trivial)
theorem opens_hn : Opens encT Tryz.prog w base spare held 101 encHn (fun _ => True) := (opens_struct Tryz.underlying101 (by kernel_rfl) (OpensFs.cons (sz := 1) rfl (by kernel_rfl) opens_i (OpensFs.cons (sz := 1) rfl (by kernel_rfl) opens_i (OpensFs.cons (sz := 1) rfl (by kernel_rfl) opens_i (OpensFs.cons (sz := 1) rfl (by kernel_rfl) opens_b OpensFs.nil))))).map (fun y => ⟨y.1, y.2.1, y.2.2.1, y.2.2.2.1⟩) (fun _ _ => rfl) (fun _ _ => trivial)
theorem opens_hns : Opens encT Tryz.prog w base spare held 34 (fun l => [encLHn l]) (fun l => True) := (opens_slice (sz := 4) (enc := encHn) Tryz.underlying34 (by kernel_rfl) (by decide) (fun _ => rfl) opens_hn).map id (fun _ _ => rfl) (fun _ _ => trivial)
theorem opens_cf : Opens encT Tryz.prog w base spare held 23 encC (fun _ => True) := (opens_struct Tryz.underlying23 (by kernel_rfl) (OpensFs.cons (sz := 1) rfl (by kernel_rfl) opens_i (OpensFs.cons (sz := 1) rfl (by kernel_rfl) opens_i (OpensFs.cons (sz := 1) rfl (by kernel_rfl) opens_i (OpensFs.cons (sz := 1) rfl (by kernel_rfl) opens_i (OpensFs.cons (sz := 1) rfl (by kernel_rfl) opens_i OpensFs.nil)))))).map (fun y => ⟨y.1, y.2.1, y.2.2.1, y.2.2.2.1, y.2.2.2.2.1⟩) (fun _ _ => rfl) (fun _ _ => trivial)
theorem opens_pic : Opens encT Tryz.prog w base spare held 32 (fun p : Bs × Bool => [encBs p.1, .val (.bool p.2)]) (fun _ => True) := (opens_struct Tryz.underlying32 (by kernel_rfl) (OpensFs.cons (sz := 1) rfl (by kernel_rfl) opens_bs (OpensFs.cons (sz := 1) rfl (by kernel_rfl) opens_b OpensFs.nil))).map (fun y => (y.1, y.2.1)) (fun _ _ => rfl) (fun _ _ => trivial)
theorem opens_v : Opens encT Tryz.prog w base spare held 36 encV (fun v => ∀ w, w ∈ v.dict → In64 w.fl) := (opens_struct Tryz.underlying36 (by kernel_rfl) (OpensFs.cons (sz := 5) rfl (by kernel_rfl) opens_cf (OpensFs.cons (sz := 2) rfl (by kernel_rfl) opens_m (OpensFs.cons (sz := 1) rfl (by kernel_rfl) opens_i (OpensFs.cons (sz := 1) rfl (by kernel_rfl) opens_is (OpensFs.cons (sz := 1) rfl (by kernel_rfl) opens_is (OpensFs.cons (sz := 1) rfl (by kernel_rfl) opens_frs (OpensFs.cons (sz := 1) rfl (by kernel_rfl) opens_ws (OpensFs.cons (sz := 1) rfl (by kernel_rfl) opens_i (OpensFs.cons (sz := 1) rfl (by kernel_rfl) opens_bs (OpensFs.cons (sz := 2) rfl (by kernel_rfl) opens_pic (OpensFs.cons (sz := 1) rfl (by kernel_rfl) opens_rqs (OpensFs.cons (sz := 1) rfl (by kernel_rfl) opens_i (OpensFs.cons (sz := 1) rfl (by kernel_rfl) opens_i (OpensFs.cons (sz := 1) rfl (by kernel_rfl) opens_i (OpensFs.cons (sz := 1) rfl (by kernel_rfl) opens_i (OpensFs.cons (sz := 1) rfl (by kernel_rfl) opens_i (OpensFs.cons (sz := 1) rfl (by kernel_rfl) opens_hns OpensFs.nil)))))))))))))))))).map (fun y => ⟨y.1, y.2.1, y.2.2.1, y.2.2.2.1, y.2.2.2.2.1, y.2.2.2.2.2.1, y.2.2.2.2.2.2.1, y.2.2.2.2.2.2.2.1, y.2.2.2.2.2.2.2.2.1, y.2.2.2.2.2.2.2.2.2.1.1, y.2.2.2.2.2.2.2.2.2.1.2, y.2.2.2.2.2.2.2.2.2.2.1, y.2.2.2.2.2.2.2.2.2.2.2.1, y.2.2.2.2.2.2.2.2.2.2.2.2.1, y.2.2.2.2.2.2.2.2.2.2.2.2.2.1, y.2.2.2.2.2.2.2.2.2.2.2.2.2.2.1, y.2.2.2.2.2.2.2.2.2.2.2.2.2.2.2.1, y.2.2.2.2.2.2.2.2.2.2.2.2.2.2.2.2.1⟩) (fun _ _ => rfl) (fun _ h => h.2.2.2.2.2.2.1)
end
end Go.Proofs.YthlbcakjngcjbaaGreat
namespace Go.Proofs.YthlbcakjngcjbaaGreat
open Go Go.RowKit Go.ChangeShapes Go.WideShapes Go.Deep Go.Proofs.YthlbcakjngcjbaaGreat
set_option maxRecDepth 100000
open Go.Proofs.YthlbcakjngcjbaaGreat.Stk (encS)
section
variable {H : Type} {encT : TypeId × Value → H} {w : World} {base : Nat} {spare : Nat → Bool} {held : Bool}
theorem len64 {α : Type} {l : List α} (h : l.length ≤ maxLen) : l.length ≤ 9223372036854775807 := by
 unfold maxLen at h
 omega
theorem opens_br : Opens encT Tryz.prog w base spare held 123 encCf (fun _ => True) := (opens_struct Tryz.underlying123 (by kernel_rfl) (OpensFs.cons (sz := 1) rfl (by kernel_rfl) opens_i (OpensFs.cons (sz := 1) rfl (by kernel_rfl) opens_i (OpensFs.cons (sz := 1) rfl (by kernel_rfl) opens_is OpensFs.nil)))).map (fun y => ⟨y.1, y.2.1, y.2.2.1⟩) (fun _ _ => rfl) (fun _ _ => trivial)
theorem opens_brs : Opens encT Tryz.prog w base spare held 37 (fun l => [encLCf l]) (fun l => l.length ≤ 9223372036854775807) := (opens_slice (sz := 3) (enc := encCf) Tryz.underlying37 (by kernel_rfl) (by decide) (fun _ => rfl) opens_br).map id (fun _ _ => rfl) (fun _ h => len64 h.1)
end
end Go.Proofs.YthlbcakjngcjbaaGreat
namespace Go.Proofs.YthlbcakjngcjbaaGreat
open Go Go.RowKit Go.ChangeShapes Go.WideShapes Go.Deep Go.Proofs.YthlbcakjngcjbaaGreat
set_option maxRecDepth 100000
section
variable {H : Type} {encT : TypeId × Value → H} {w : World} {base : Nat} {spare : Nat → Bool} {held : Bool}
theorem opens_cp : Opens encT Tryz.prog w base spare held 39 encCp (fun _ => True) := (opens_struct Tryz.underlying39 (by kernel_rfl) (OpensFs.cons (sz := 1) rfl (by kernel_rfl) opens_i (OpensFs.cons (sz := 1) rfl (by kernel_rfl) opens_brs (OpensFs.cons (sz := 1) rfl (by kernel_rfl) opens_i (OpensFs.cons (sz := 1) rfl (by kernel_rfl) opens_i (OpensFs.cons (sz := 1) rfl (by kernel_rfl) opens_i (OpensFs.cons (sz := 1) rfl (by kernel_rfl) opens_b (OpensFs.cons (sz := 1) rfl (by kernel_rfl) opens_i OpensFs.nil)))))))).map (fun y => ⟨y.1, y.2.1, y.2.2.1, y.2.2.2.1, y.2.2.2.2.1, y.2.2.2.2.2.1, y.2.2.2.2.2.2.1⟩) (fun _ _ => rfl) (fun _ _ => trivial)
theorem opens_fo : Opens encT Tryz.prog w base spare held 41 encFo (fun f => FlIn f.v.dict) := (opens_struct Tryz.underlying41 (by kernel_rfl) (OpensFs.cons (sz := 23) rfl (by kernel_rfl) opens_v (OpensFs.cons (sz := 7) rfl (by kernel_rfl) opens_cp OpensFs.nil))).map (fun y => ⟨y.1, y.2.1⟩) (fun _ _ => rfl) (fun _ h => h.1)
end
end Go.Proofs.YthlbcakjngcjbaaGreat
