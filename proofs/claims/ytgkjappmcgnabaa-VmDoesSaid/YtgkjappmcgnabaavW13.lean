/- vG18, vH1. -/
import Derived.Test.YtgkjappmcgnabaaW1
import Derived.Test.YtgkjappmcgnabaaW2
import Derived.Test.YtgkjappmcgnabaaW3
import Derived.Test.YtgkjappmcgnabaaW4
import Derived.Test.YtgkjappmcgnabaavW5
import Derived.Test.YtgkjappmcgnabaavW6
import Derived.Test.YtgkjappmcgnabaavW7
import Derived.Test.YtgkjappmcgnabaavW8
import Derived.Test.YtgkjappmcgnabaavW9
import Derived.Test.YtgkjappmcgnabaavW10
import Derived.Test.YtgkjappmcgnabaavW11
import Derived.Test.YtgkjappmcgnabaavW12
import Derived.Test.YtgkjappmcgnabaaRows
/- vm: VmDoes returns true. -/
namespace Go.Proofs.Ytgkjappmcgnabaa
set_option linter.unusedVariables false
set_option linter.unusedSimpArgs false
open Go Go.RowKit
open Dict (St Bs bs_eq Wd encW encWs closed_ws)
open Mem (Mm encM encBs closed_bs)
open Stk (encS closed_s popD pushD pushD_ok pushD_over popD_snoc snoc_of)
set_option maxRecDepth 100000
theorem Held.withD {v : V} (h : Held v) {s : List Int} (hs : s.length ≤ 1000000) : Held (withD v s) := ⟨h.mb, h.mo, hs, h.rl, h.fl, h.wl, h.wi, h.ol, h.pl, h.ql, h.hl⟩
theorem Held.withR {v : V} (h : Held v) {s : List Int} (hs : s.length ≤ 1000000) : Held (withR v s) := ⟨h.mb, h.mo, h.dl, hs, h.fl, h.wl, h.wi, h.ol, h.pl, h.ql, h.hl⟩
theorem Held.withOut {v : V} (h : Held v) {s : Bs} (hs : s.length ≤ 1000000) : Held (withOut v s) := ⟨h.mb, h.mo, h.dl, h.rl, h.fl, h.wl, h.wi, hs, h.pl, h.ql, h.hl⟩
theorem push_len (s : List Int) (n l : Int) : (pushD s n l).1.length ≤ s.length + 1 := by
  unfold pushD
  split
  · exact Nat.le_succ _
  · simp
theorem pop_len (s : List Int) : (popD s).2.1.length ≤ s.length := by
  unfold popD
  split
  · exact Nat.le_refl _
  · simp
theorem print_len (v : V) (s : Bs) : (printD v s).1 = v ∨ (printD v s).1 = withOut v (v.out ++ s) := by
  unfold printD
  split
  · exact .inl rfl
  · exact .inr rfl
attribute [local irreducible] Decidable.decide awp ARun regK toK
theorem selfb (x : Int) : (x != x) = false := by simp
set_option maxHeartbeats 16000000 in
theorem does_c (v : V) (n : Int) (s : Bs) (hi : FlIn v.dict) : FnC Try.prog 5 [.agg (encV v), .val (.int .i64 n), St s] (.val (.bool true)) := by
  have c0 := shown_c
  have cm := may_c v hi
  by_cases hm : FewV v ∧ RightV v
  case neg =>
    rw [pD_no hm] at cm
    refine FnC.of_awp (T := tt) (ok := tok) Try.func5 (by kernel_rfl) rfl (by kernel_rfl) (closedL_cons (closedV v) (closedL_cons (.val _) (closedL_cons (.val _) closedL_nil))) (fun w0 st0 => ?_)
    dsimp only [frOf]
    (repeat' (first | refine awp_seq ?_ | refine awp_block ?_ | refine awp_region (fun _ => hmix) ?_ | refine ARun.op rfl (by first | exact True.intro | exact rfl | (unfold inR; omega) | omega | ((try unfold inR); simp only [decide_eq_true_eq, decide_eq_false_iff_not, beq_iff_eq, beq_eq_false_iff_ne, ne_eq, Bool.not_eq_true', Bool.not_eq_false', List.length_map, List.length_append, List.length_take, List.length_drop, List.length_replicate, List.length_cons, List.length_nil] at *; omega)) ?_ | refine callX (c0) rfl rfl rfl rfl ?_ | refine callX (cm) rfl rfl rfl rfl ?_ | ((first | refine ARun.fin (by first | (intro h; cases h; done) | (intro _; kernel_rfl)) ?_ | refine awp_skip ?_ | refine awp_exit ?_); dsimp only [thenA, blockA, AS.bump, List.length_cons, List.length_nil, reduceIte, Nat.reduceEqDiff]) | refine awp_condT rfl (by first | rfl | assumption | exact beq_int _ | exact bne_int _) ?_ | refine awp_condF rfl (by first | rfl | assumption | exact beq_int _ | exact bne_int _) ?_ | ((fail_if_success refine ARun.plain rfl ?_); first | refine ARun.knowT rfl rfl rfl (by first | rfl | assumption | exact beq_int _ | exact bne_int _) ?_ | refine ARun.knowF rfl rfl rfl (by first | rfl | assumption | exact beq_int _ | exact bne_int _) ?_)))
    exact awp_ret ⟨_, ResL.cons (ResA.tmp (.val _)) .nil, rfl⟩
  rw [pD_yes hm] at cm
  have hz : (ByteArray.mk s.toArray).size = s.length := rfl
  by_cases hs : 600 < s.length
  · have d : decide ((600 : Int) < ((ByteArray.mk s.toArray).size : Nat)) = true := decide_eq_true (by omega)
    refine FnC.of_awp (T := tt) (ok := tok) Try.func5 (by kernel_rfl) rfl (by kernel_rfl) (closedL_cons (closedV v) (closedL_cons (.val _) (closedL_cons (.val _) closedL_nil))) (fun w0 st0 => ?_)
    dsimp only [frOf]
    (repeat' (first | refine awp_seq ?_ | refine awp_block ?_ | refine awp_region (fun _ => hmix) ?_ | refine ARun.op rfl (by first | exact True.intro | exact rfl | (unfold inR; omega) | omega | ((try unfold inR); simp only [decide_eq_true_eq, decide_eq_false_iff_not, beq_iff_eq, beq_eq_false_iff_ne, ne_eq, Bool.not_eq_true', Bool.not_eq_false', List.length_map, List.length_append, List.length_take, List.length_drop, List.length_replicate, List.length_cons, List.length_nil] at *; omega)) ?_ | refine callX (c0) rfl rfl rfl rfl ?_ | refine callX (cm) rfl rfl rfl rfl ?_ | ((first | refine ARun.fin (by first | (intro h; cases h; done) | (intro _; kernel_rfl)) ?_ | refine awp_skip ?_ | refine awp_exit ?_); dsimp only [thenA, blockA, AS.bump, List.length_cons, List.length_nil, reduceIte, Nat.reduceEqDiff]) | refine awp_condT rfl (by first | rfl | assumption | exact beq_int _ | exact bne_int _) ?_ | refine awp_condF rfl (by first | rfl | assumption | exact beq_int _ | exact bne_int _) ?_ | ((fail_if_success refine ARun.plain rfl ?_); first | refine ARun.knowT rfl rfl rfl (by first | rfl | assumption | exact beq_int _ | exact bne_int _) ?_ | refine ARun.knowF rfl rfl rfl (by first | rfl | assumption | exact beq_int _ | exact bne_int _) ?_)))
    exact awp_ret ⟨_, ResL.cons (ResA.tmp (.val _)) .nil, rfl⟩
  have d : decide ((600 : Int) < ((ByteArray.mk s.toArray).size : Nat)) = false := decide_eq_false (by omega)
  have hv := hm.1.held hi
  have ho := hm.2.1.1.2.2.2.2.2
  have f6 := hm.1.f6
  have f3 := hm.1.f3
  have f4 := hm.1.f4
  have c1 := kind_c v n hv.mb
  have c2 := ref_kind_c v n hv.mb
  have c3 := push_c v n hv.dl
  have c4 := ref_push_c v n hv.dl
  have c5 := pop_c v hv.dl
  have c6 := ref_pop_c v hv.dl
  have c7 := rpush_c v n hv.rl
  have c8 := ref_rpush_c v n hv.rl
  have c9 := rpop_c v hv.rl
  have c10 := ref_rpop_c v hv.rl
  have c11 := print_c v s hv.ol (by omega) (by omega)
  have c12 := ref_print_c v s hv.ol (by omega) (by omega)
  have h1 : Held (vpushD v n).1 := hv.withD (by have := push_len v.d n v.cf.data; omega)
  have h2 : Held (vpopD v).2.1 := hv.withD (by have := pop_len v.d; omega)
  have h3 : Held (rpushD v n).1 := hv.withR (by have := push_len v.r n v.cf.ret; omega)
  have h4 : Held (rpopD v).2.1 := hv.withR (by have := pop_len v.r; omega)
  have h5 : Held (printD v s).1 := by
    rcases print_len v s with e | e
    · rw [e]; exact hv
    · rw [e]; exact hv.withOut (by rw [List.length_append]; omega)
  have s1 := ref_same_c _ _ h1 h1
  have s2 := ref_same_c _ _ h2 h2
  have s3 := ref_same_c _ _ h3 h3
  have s4 := ref_same_c _ _ h4 h4
  have s5 := ref_same_c _ _ h5 h5
  rw [pD_yes rfl] at s1 s2 s3 s4 s5
  clear h1 h2 h3 h4 h5 hm hs ho f6 f3 f4
  generalize kindD v n = p1 at *
  generalize vpushD v n = p2 at *
  generalize vpopD v = p3 at *
  generalize rpushD v n = p4 at *
  generalize rpopD v = p5 at *
  generalize printD v s = p6 at *
  clear hv
  have q1 := selfb p1.1
  have q2 := selfb p1.2
  have q3 := selfb p2.2
  have q4 := selfb p3.1
  have q5 := selfb p3.2.2
  simp only [encVE, encIVE] at c3 c4 c5 c6 c7 c8 c9 c10 c11 c12
  refine FnC.of_awp (T := tt) (ok := tok) Try.func5 (by kernel_rfl) rfl (by kernel_rfl) (closedL_cons (closedV v) (closedL_cons (.val _) (closedL_cons (.val _) closedL_nil))) (fun w0 st0 => ?_)
  dsimp only [frOf]
  (repeat' (first | refine awp_seq ?_ | refine awp_block ?_ | refine awp_region (fun _ => hmix) ?_ | refine ARun.op rfl (by first | exact True.intro | exact rfl | (unfold inR; omega) | omega | ((try unfold inR); simp only [decide_eq_true_eq, decide_eq_false_iff_not, beq_iff_eq, beq_eq_false_iff_ne, ne_eq, Bool.not_eq_true', Bool.not_eq_false', List.length_map, List.length_append, List.length_take, List.length_drop, List.length_replicate, List.length_cons, List.length_nil] at *; omega)) ?_ | refine callX (c0) rfl rfl rfl rfl ?_ | refine callX (cm) rfl rfl rfl rfl ?_ | refine callX (c1) rfl rfl rfl rfl ?_ | refine callX (c2) rfl rfl rfl rfl ?_ | refine callX (c3) rfl rfl rfl rfl ?_ | refine callX (c4) rfl rfl rfl rfl ?_ | refine callX (c5) rfl rfl rfl rfl ?_ | refine callX (c6) rfl rfl rfl rfl ?_ | refine callX (c7) rfl rfl rfl rfl ?_ | refine callX (c8) rfl rfl rfl rfl ?_ | refine callX (c9) rfl rfl rfl rfl ?_ | refine callX (c10) rfl rfl rfl rfl ?_ | refine callX (c11) rfl rfl rfl rfl ?_ | refine callX (c12) rfl rfl rfl rfl ?_ | refine callX (s1) rfl rfl rfl rfl ?_ | refine callX (s2) rfl rfl rfl rfl ?_ | refine callX (s3) rfl rfl rfl rfl ?_ | refine callX (s4) rfl rfl rfl rfl ?_ | refine callX (s5) rfl rfl rfl rfl ?_ | ((first | refine ARun.fin (by first | (intro h; cases h; done) | (intro _; kernel_rfl)) ?_ | refine awp_skip ?_ | refine awp_exit ?_); dsimp only [thenA, blockA, AS.bump, List.length_cons, List.length_nil, reduceIte, Nat.reduceEqDiff]) | refine awp_condT rfl (by first | rfl | assumption | exact beq_int _ | exact bne_int _) ?_ | refine awp_condF rfl (by first | rfl | assumption | exact beq_int _ | exact bne_int _) ?_ | ((fail_if_success refine ARun.plain rfl ?_); first | refine ARun.knowT rfl rfl rfl (by first | rfl | assumption | exact beq_int _ | exact bne_int _) ?_ | refine ARun.knowF rfl rfl rfl (by first | rfl | assumption | exact beq_int _ | exact bne_int _) ?_)))
  (refine awp_ret ⟨_, ResL.cons (ResA.tmp (.val _)) .nil, congrArg (fun b => AV.val (.bool b)) ?_⟩; first | rfl | (symm; assumption) | exact (beq_int _).symm)
end Go.Proofs.Ytgkjappmcgnabaa
/- vm: machines that are read of arguments. -/
namespace Go.Proofs.Ytgkjappmcgnabaa
set_option linter.unusedVariables false
set_option linter.unusedSimpArgs false
open Go Go.RowKit Go.ChangeShapes Go.WideShapes Go.Deep Go.Proofs.Ytgkjappmcgnabaa
open Go.Proofs.Ytgkjappmcgnabaa.Dict (St Bs Wd encW encWs)
open Go.Proofs.Ytgkjappmcgnabaa.Mem (Mm encM encBs encP Pt)
open Go.Proofs.Ytgkjappmcgnabaa.Stk (encS)
set_option maxRecDepth 100000
theorem own_knob : ownKnob Try.prog.godebug = none := by kernel_rfl
theorem laid_out : laidOutB Try.prog = true := by kernel_rfl
section
variable {H : Type} {encT : TypeId × Value → H} {w : World} {base : Nat} {spare : Nat → Bool} {held : Bool}
theorem opens_i : Opens encT Try.prog w base spare held 3 encI In64 := opens_int Try.underlying3
theorem opens_s : Opens encT Try.prog w base spare held 9 (fun l => [St l]) (fun l : Bs => l.length ≤ maxLen) := (opens_str Try.underlying9).map (fun s => s.data.toList) (fun s _ => rfl) (fun s h => h)
theorem arg_str {t : TypeId} {r : Reach} {b0 : Nat} {v : Value} {d : DataW H} {p : List MemPlace} {spare' : Nat → Bool} {held' : Bool} (ht : Try.prog.underlying t = some .string) (hv : Value.okWide Try.prog w r b0 t v)
    (h : DataW.Trod encT Try.prog w base spare' held' t v d p) : ∃ l : Bs, Rep (still w) w (St l) v ∧ l.length ≤ maxLen := by
  obtain ⟨s, rfl⟩ := okWide_string ht hv
  obtain ⟨y, h1, h2⟩ := arg_one (enc := fun s => .val (.string s)) rfl h (opens_str ht)
  exact ⟨y.data.toList, h1, h2⟩
theorem opens_w : Opens encT Try.prog w base spare held 52 encW (fun w => In64 w.fl) := (opens_struct Try.underlying52 (by kernel_rfl) (OpensFs.cons (sz := 1) rfl (by kernel_rfl) opens_s (OpensFs.cons (sz := 1) rfl (by kernel_rfl) opens_i (OpensFs.cons (sz := 1) rfl (by kernel_rfl) opens_i OpensFs.nil)))).map (fun y => ⟨y.1, y.2.1, y.2.2.1⟩) (fun _ _ => rfl) (fun _ h => h.2.2.1)
theorem opens_ws : Opens encT Try.prog w base spare held 30 (fun l => [encWs l]) (fun l => ∀ w, w ∈ l → In64 w.fl) := (opens_slice (sz := 3) (enc := encW) Try.underlying30 (by kernel_rfl) (by decide) (fun _ => rfl) opens_w).map id (fun _ _ => rfl) (fun _ h => h.2)
theorem opens_bs : Opens encT Try.prog w base spare held 24 (fun l => [encBs l]) (fun l : List UInt8 => True) := (opens_slice (sz := 1) (enc := encB) Try.underlying24 (by kernel_rfl) (by decide) (fun _ => rfl) (opens_byte Try.underlying5)).map id (fun _ _ => rfl) (fun _ _ => trivial)
theorem opens_p : Opens encT Try.prog w base spare held 118 encP (fun _ => True) := (opens_struct Try.underlying118 (by kernel_rfl) (OpensFs.cons (sz := 1) rfl (by kernel_rfl) opens_i (OpensFs.cons (sz := 1) rfl (by kernel_rfl) opens_bs OpensFs.nil))).map (fun y => (y.1, y.2.1)) (fun _ _ => rfl) (fun _ _ => trivial)
theorem opens_ps : Opens encT Try.prog w base spare held 25 (fun l : List Pt => [.sl 2 false (l.map encP)]) (fun l => True) := (opens_slice (sz := 2) (enc := encP) Try.underlying25 (by kernel_rfl) (by decide) (fun _ => rfl) opens_p).map id (fun _ _ => rfl) (fun _ _ => trivial)
theorem opens_m : Opens encT Try.prog w base spare held 27 encM (fun m => True) := (opens_struct Try.underlying27 (by kernel_rfl) (OpensFs.cons (sz := 1) rfl (by kernel_rfl) opens_bs (OpensFs.cons (sz := 1) rfl (by kernel_rfl) opens_ps OpensFs.nil))).map (fun y => ⟨y.1, y.2.1⟩) (fun _ _ => rfl) (fun _ _ => trivial)
theorem opens_is : Opens encT Try.prog w base spare held 28 (fun l => [encS l]) (fun l => True) := (opens_slice (sz := 1) (enc := encI) Try.underlying28 (by kernel_rfl) (by decide) (fun _ => rfl) opens_i).map id (fun _ _ => rfl) (fun _ _ => trivial)
theorem opens_b : Opens encT Try.prog w base spare held 4 (fun b => [.val (.bool b)]) (fun b : Bool => True) := opens_bool Try.underlying4
theorem opens_fr : Opens encT Try.prog w base spare held 96 encFr (fun _ => True) := (opens_struct Try.underlying96 (by kernel_rfl) (OpensFs.cons (sz := 1) rfl (by kernel_rfl) opens_i (OpensFs.cons (sz := 1) rfl (by kernel_rfl) opens_i (OpensFs.cons (sz := 1) rfl (by kernel_rfl) opens_i OpensFs.nil)))).map (fun y => ⟨y.1, y.2.1, y.2.2.1⟩) (fun _ _ => rfl) (fun _ _ => trivial)
theorem opens_frs : Opens encT Try.prog w base spare held 29 (fun l => [encLFr l]) (fun l => True) := (opens_slice (sz := 3) (enc := encFr) Try.underlying29 (by kernel_rfl) (by decide) (fun _ => rfl) opens_fr).map id (fun _ _ => rfl) (fun _ _ => trivial)
theorem opens_rq : Opens encT Try.prog w base spare held 101 encRq (fun _ => True) := (opens_struct Try.underlying101 (by kernel_rfl) (OpensFs.cons (sz := 1) rfl (by kernel_rfl) opens_i (OpensFs.cons (sz := 1) rfl (by kernel_rfl) opens_i (OpensFs.cons (sz := 1) rfl (by kernel_rfl) opens_i (OpensFs.cons (sz := 1) rfl (by kernel_rfl) opens_i (OpensFs.cons (sz := 1) rfl (by kernel_rfl) opens_i (OpensFs.cons (sz := 1) rfl (by kernel_rfl) opens_i OpensFs.nil))))))).map (fun y => ⟨y.1, y.2.1, y.2.2.1, y.2.2.2.1, y.2.2.2.2.1, y.2.2.2.2.2.1⟩) (fun _ _ => rfl) (fun _ _ => trivial)
theorem opens_rqs : Opens encT Try.prog w base spare held 33 (fun l => [encLRq l]) (fun l => True) := (opens_slice (sz := 6) (enc := encRq) Try.underlying33 (by kernel_rfl) (by decide) (fun _ => rfl) opens_rq).map id (fun _ _ => rfl) (fun _ _ => trivial)
theorem opens_hn : Opens encT Try.prog w base spare held 98 encHn (fun _ => True) := (opens_struct Try.underlying98 (by kernel_rfl) (OpensFs.cons (sz := 1) rfl (by kernel_rfl) opens_i (OpensFs.cons (sz := 1) rfl (by kernel_rfl) opens_i (OpensFs.cons (sz := 1) rfl (by kernel_rfl) opens_i (OpensFs.cons (sz := 1) rfl (by kernel_rfl) opens_b OpensFs.nil))))).map (fun y => ⟨y.1, y.2.1, y.2.2.1, y.2.2.2.1⟩) (fun _ _ => rfl) (fun _ _ => trivial)
theorem opens_hns : Opens encT Try.prog w base spare held 34 (fun l => [encLHn l]) (fun l => True) := (opens_slice (sz := 4) (enc := encHn) Try.underlying34 (by kernel_rfl) (by decide) (fun _ => rfl) opens_hn).map id (fun _ _ => rfl) (fun _ _ => trivial)
theorem opens_cf : Opens encT Try.prog w base spare held 23 encC (fun _ => True) := (opens_struct Try.underlying23 (by kernel_rfl) (OpensFs.cons (sz := 1) rfl (by kernel_rfl) opens_i (OpensFs.cons (sz := 1) rfl (by kernel_rfl) opens_i (OpensFs.cons (sz := 1) rfl (by kernel_rfl) opens_i (OpensFs.cons (sz := 1) rfl (by kernel_rfl) opens_i (OpensFs.cons (sz := 1) rfl (by kernel_rfl) opens_i OpensFs.nil)))))).map (fun y => ⟨y.1, y.2.1, y.2.2.1, y.2.2.2.1, y.2.2.2.2.1⟩) (fun _ _ => rfl) (fun _ _ => trivial)
theorem opens_pic : Opens encT Try.prog w base spare held 32 (fun p : Bs × Bool => [encBs p.1, .val (.bool p.2)]) (fun _ => True) := (opens_struct Try.underlying32 (by kernel_rfl) (OpensFs.cons (sz := 1) rfl (by kernel_rfl) opens_bs (OpensFs.cons (sz := 1) rfl (by kernel_rfl) opens_b OpensFs.nil))).map (fun y => (y.1, y.2.1)) (fun _ _ => rfl) (fun _ _ => trivial)
theorem opens_v : Opens encT Try.prog w base spare held 36 encV (fun v => ∀ w, w ∈ v.dict → In64 w.fl) := (opens_struct Try.underlying36 (by kernel_rfl) (OpensFs.cons (sz := 5) rfl (by kernel_rfl) opens_cf (OpensFs.cons (sz := 2) rfl (by kernel_rfl) opens_m (OpensFs.cons (sz := 1) rfl (by kernel_rfl) opens_i (OpensFs.cons (sz := 1) rfl (by kernel_rfl) opens_is (OpensFs.cons (sz := 1) rfl (by kernel_rfl) opens_is (OpensFs.cons (sz := 1) rfl (by kernel_rfl) opens_frs (OpensFs.cons (sz := 1) rfl (by kernel_rfl) opens_ws (OpensFs.cons (sz := 1) rfl (by kernel_rfl) opens_i (OpensFs.cons (sz := 1) rfl (by kernel_rfl) opens_bs (OpensFs.cons (sz := 2) rfl (by kernel_rfl) opens_pic (OpensFs.cons (sz := 1) rfl (by kernel_rfl) opens_rqs (OpensFs.cons (sz := 1) rfl (by kernel_rfl) opens_i (OpensFs.cons (sz := 1) rfl (by kernel_rfl) opens_i (OpensFs.cons (sz := 1) rfl (by kernel_rfl) opens_i (OpensFs.cons (sz := 1) rfl (by kernel_rfl) opens_i (OpensFs.cons (sz := 1) rfl (by kernel_rfl) opens_i (OpensFs.cons (sz := 1) rfl (by kernel_rfl) opens_hns OpensFs.nil)))))))))))))))))).map (fun y => ⟨y.1, y.2.1, y.2.2.1, y.2.2.2.1, y.2.2.2.2.1, y.2.2.2.2.2.1, y.2.2.2.2.2.2.1, y.2.2.2.2.2.2.2.1, y.2.2.2.2.2.2.2.2.1, y.2.2.2.2.2.2.2.2.2.1.1, y.2.2.2.2.2.2.2.2.2.1.2, y.2.2.2.2.2.2.2.2.2.2.1, y.2.2.2.2.2.2.2.2.2.2.2.1, y.2.2.2.2.2.2.2.2.2.2.2.2.1, y.2.2.2.2.2.2.2.2.2.2.2.2.2.1, y.2.2.2.2.2.2.2.2.2.2.2.2.2.2.1, y.2.2.2.2.2.2.2.2.2.2.2.2.2.2.2.1, y.2.2.2.2.2.2.2.2.2.2.2.2.2.2.2.2.1⟩) (fun _ _ => rfl) (fun _ h => h.2.2.2.2.2.2.1)
end
end Go.Proofs.Ytgkjappmcgnabaa
