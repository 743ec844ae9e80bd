/- gJ13, gJ14. -/
import Derived.Test.YtfphgelollhdhaaW1
import Derived.Test.YtfphgelollhdhaaW2
import Derived.Test.YtfphgelollhdhaaW3
import Derived.Test.YtfphgelollhdhaaW4
import Derived.Test.YtfphgelollhdhaagW5
import Derived.Test.YtfphgelollhdhaagW6
import Derived.Test.YtfphgelollhdhaagW7
import Derived.Test.YtfphgelollhdhaagW8
import Derived.Test.YtfphgelollhdhaaRows
set_option linter.unusedVariables false
set_option linter.unusedSimpArgs false
namespace Go.Proofs.Ytfphgelollhdhaa
open Go Go.RowKit
set_option maxRecDepth 100000
def exT : List Nod := [.mk 3 0 [.mk 1 1 [] []] []]
theorem ex_ok : okDs exT = true := by decide
theorem ex_cnt : cntL exT = 2 := by decide
theorem ex_siz : sizS exT = 4 := by decide
theorem ex_cod : codeS 1368 exT 1376 = [XS.zb, 1408, XS.lit, 1, XS.ex] := by
 unfold codeS exT
 simp [codL, codN_eq, Nod.k, Nod.n, Nod.a, Nod.b, oneS, sizS, wr_eq]
theorem ex_wd : Wd (.sl 4 true [[.val (.int .i64 3), .val (.int .i64 0), .sl 4 true [[.val (.int .i64 1), .val (.int .i64 1), .sl 0 true [], .sl 0 true []]], .sl 0 true []]]) (encTr exT) := by
 unfold exT encTr
 rw [List.map_cons, List.map_nil, encD, encDs, encDs, encD, encDs]
 exact .slR (RelR.cons (RelL.cons (.wk (.same _)) (RelL.cons (.wk (.same _)) (RelL.cons (.slR (RelR.cons (RelL.cons (.wk (.same _)) (RelL.cons (.wk (.same _)) (RelL.cons (.wk .nilSl) (RelL.cons (.wk .nilSl) (RelL.nil _))))) (RelR.nil _))) (RelL.cons (.wk .nilSl) (RelL.nil _))))) (RelR.nil _))
attribute [local irreducible] Decidable.decide awp ARun regK toK XS
set_option maxHeartbeats 4000000 in
theorem shown_c : FnC Try.prog 6 [] (.val (.bool true)) := by
 have c1 := code_c exT 1376 1368 ex_ok (by rw [ex_cnt]; omega) ⟨by omega, by omega⟩
 rw [ex_cod] at c1
 have c2 := siz_c exT ex_ok (by rw [ex_cnt]; omega)
 unfold SizC at c2
 rw [ex_siz] at c2
 have c3 := ref_same_c [XS.zb, 1408, XS.lit, 1, XS.ex] [XS.zb, 1408, XS.lit, 1, XS.ex] (by simp) (by simp)
 rw [show sameD [XS.zb, 1408, XS.lit, 1, XS.ex] [XS.zb, 1408, XS.lit, 1, XS.ex] = true from decide_eq_true rfl] at c3
 have hw := ex_wd
 generalize exT = T at *
 refine goF Try.func6 closedL_nil (fun w0 st0 => ?_)
 dsimp only [frOf]
 (repeat' (first | refine goN ?_ | refine awp_region_ne 2 rfl (fun _ => hmix) ?_ | refine ARun.o rfl ?_ | refine goB ?_ | ((fail_if_success refine ARun.plain rfl ?_); refine ARun.fork rfl rfl rfl (fun h => ?_) (fun h => ?_)) | refine awp_cond rfl (fun h => ?_) (fun h => ?_)))
 refine awp_wdF 1 (encTr T) hw ?_
 (repeat' (first | refine goA ?_ | refine cX c1 ?_ | refine cX rxt_zb ?_ | refine cX rxt_lit ?_ | refine cX rxt_ex ?_ | refine callW (c3) rfl wkT rfl rfl ?_ | refine cX c2 ?_ | refine goB ?_ | fail))
 exact awp_ret ⟨_, ResL.cons (ResA.tmp (.val _)) .nil, congrArg (fun b => AV.val (.bool b)) (beq_self_eq_true (4 : Int)).symm⟩
set_option maxHeartbeats 4000000 in
theorem tells_c (t : List Nod) (at_ self : Int) (hl : lenL t) (ha : In64 at_) : FnC Try.prog 3 [encTr t, .val (.int .i64 at_), .val (.int .i64 self)] (.val (.bool true)) := by
 have c0 := shown_c
 have c1 := few_c t hl
 have c2 := mayL_c t hl
 cases hf : fewD t
 ·rw [hf] at c1
  refine goF Try.func3 (closedL_cons (closed_tr _) (closedL_cons (.val _) (closedL_cons (.val _) closedL_nil))) (fun w0 st0 => ?_)
  dsimp only [frOf]
  (repeat' (first | refine goA ?_ | refine cX c0 ?_ | refine cX c1 ?_ | refine cX c2 ?_ | refine goB ?_ | fail))
  exact awp_ret ⟨_, ResL.cons (ResA.tmp (.val _)) .nil, rfl⟩
 rw [hf] at c1
 cases hm : mayL t
 ·rw [hm] at c2
  refine goF Try.func3 (closedL_cons (closed_tr _) (closedL_cons (.val _) (closedL_cons (.val _) closedL_nil))) (fun w0 st0 => ?_)
  dsimp only [frOf]
  (repeat' (first | refine goA ?_ | refine cX c0 ?_ | refine cX c1 ?_ | refine cX c2 ?_ | refine goB ?_ | fail))
  exact awp_ret ⟨_, ResL.cons (ResA.tmp (.val _)) .nil, rfl⟩
 rw [hm] at c2
 obtain ⟨hok, hcnt⟩ := few_cnt hl hf hm
 have c3 := siz_c t hok (by omega)
 have c4 := rsiz_c t hok (by omega)
 unfold SizC at c3
 unfold RsizC at c4
 have c5 := code_c t at_ self hok (by omega) ha
 have c6 := rcode_c t at_ self hok (by omega) ha
 have b1 := sizS_bound t
 have z1 : ((codL XS self t at_ 0).length : Int) = sizS t := codL_len _ _ _ _ _ hok
 have z2 : (codeS self t at_).length ≤ 1000000 := by
  unfold codeS
  rw [List.length_append, List.length_singleton]
  omega
 have c7 := ref_same_c (codeS self t at_) (codeS self t at_) z2 z2
 rw [show sameD (codeS self t at_) (codeS self t at_) = true from decide_eq_true rfl] at c7
 have he : (sizS t == sizS t) = true := beq_self_eq_true _
 generalize codeS self t at_ = X at *
 refine goF Try.func3 (closedL_cons (closed_tr _) (closedL_cons (.val _) (closedL_cons (.val _) closedL_nil))) (fun w0 st0 => ?_)
 dsimp only [frOf]
 (repeat' (first | refine goA ?_ | refine cX c0 ?_ | refine cX c1 ?_ | refine cX c2 ?_ | refine cX c3 ?_ | refine cX c4 ?_ | refine cX c5 ?_ | refine cX c6 ?_ | refine cX c7 ?_ | refine goB ?_ | fail))
 exact awp_ret ⟨_, ResL.cons (ResA.tmp (.val _)) .nil, rfl⟩
end Go.Proofs.Ytfphgelollhdhaa
namespace Go.Proofs.Ytfphgelollhdhaa
open Go Go.RowKit Go.ChangeShapes Go.WideShapes Go.Deep Go.Proofs.Ytfphgelollhdhaa
set_option maxRecDepth 100000
theorem own_knob : ownKnob Try.prog.godebug = none := by kernel_rfl
theorem laid_out : laidOutB Try.prog = true := by kernel_rfl
section
variable {H : Type} {encT : TypeId × Value → H} {w : World} {base : Nat} {spare : Nat → Bool} {held : Bool}
theorem cells39 : Try.prog.cellsOf 39 = 4 := by kernel_rfl
theorem bytes39 : Try.prog.bytesOf 39 = 64 := by kernel_rfl
theorem cells22 : Try.prog.cellsOf 22 = 1 := by kernel_rfl
theorem cells3 : Try.prog.cellsOf 3 = 1 := by kernel_rfl
theorem sizeOf_mem_map {α : Type} (D : Nat → DataW H) (n i : Nat) (h : i < n) : SizeOf.sizeOf (D i) < SizeOf.sizeOf ((List.range n).map D) :=
 List.sizeOf_lt_of_mem (List.mem_map.2 ⟨i, List.mem_range.2 h, rfl⟩)
theorem open_row {d : DataW H} {n : Nat} {cs : List Value} {p : List MemPlace} (h : DataW.trod encT Try.prog w base spare held n 22 cs = some (d, p)) (hs : Sized Try.prog 22 d)
  (hd : ∀ d' : DataW H, SizeOf.sizeOf d' < SizeOf.sizeOf d → ∀ n cs p, DataW.trod encT Try.prog w base spare held n 39 cs = some (d', p) → Sized Try.prog 39 d' → ∃ y : Nod, CR (still w) w (encD y) cs ∧ lenN y) :
  ∃ l : List Nod, CR (still w) w [encTr l] cs ∧ lenL l := by
 rcases open_slice Try.underlying22 h with ⟨rfl, _⟩ | ⟨a, len, cap, m, n', D, Pl, rfl, hb, hl, hm, hmm, hx, hi⟩
 ·exact ⟨[], cr_nil (enc := encD), by simp, by rw [lenA]; trivial⟩
 ·simp only [Prod.mk.injEq] at hx
  obtain ⟨rfl, _⟩ := hx
  obtain ⟨s1, s2⟩ := hs.elem Try.underlying22
  rw [bytes39, List.length_map, List.length_range] at s1
  have hlm : len ≤ m := by rw [hmm]; split <;> omega
  obtain ⟨l, q1, q2, q3⟩ := cr_slice (α := Nod) (sz := 4) (enc := encD) (Q := lenN) (base := base) (a := a) (len := len) (cap := cap) (w := w) (by omega) encD_len hl hm (fun i hil => by
   obtain ⟨cs', h1, h2⟩ := hi i (by omega)
   rw [cells39] at h1
   have hmem : D i ∈ (List.range len).map D := List.mem_map.2 ⟨i, List.mem_range.2 hil, rfl⟩
   obtain ⟨y, k1, k2⟩ := hd (D i) (by
    have := List.sizeOf_lt_of_mem hmem
    simp only [DataW.slice.sizeOf_spec]
    omega) _ _ _ h2 (s2 _ hmem)
   exact ⟨y, k2, cs', h1, k1⟩)
  refine ⟨l, q2, ?_, ?_⟩
  ·rw [q1]
   have : reachBytes < 2 ^ 47 := reachBytes_lt
   omega
  ·refine lenA_of (fun x hx => ?_)
   have := q3 x hx
   obtain ⟨k, n, a, b⟩ := x
   rw [lenN] at this
   exact this
theorem open_nod : ∀ (N : Nat) (d : DataW H), SizeOf.sizeOf d < N → ∀ n cs p, DataW.trod encT Try.prog w base spare held n 39 cs = some (d, p) → Sized Try.prog 39 d → ∃ y : Nod, CR (still w) w (encD y) cs ∧ lenN y := by
 intro N
 induction N with
 | zero => exact fun d h => absurd h (Nat.not_lt_zero _)
 | succ N ih =>
  intro d hN n cs p h hs
  obtain ⟨xs, n', _, hx, hlen, hxl, hf⟩ := DataW.trod_struct Try.underlying39 h
  simp only [Prod.mk.injEq] at hx
  obtain ⟨rfl, _⟩ := hx
  rw [cells39] at hlen
  match xs, hxl, cs, hlen with
  | [x0, x1, x2, x3], _, [c0, c1, c2, c3], _ =>
   have f0 := hf 0 _ rfl
   have f1 := hf 1 _ rfl
   have f2 := hf 2 _ rfl
   have f3 := hf 3 _ rfl
   obtain ⟨k, r0, _⟩ := opens_int Try.underlying3 _ _ _ f0
   obtain ⟨m, r1, _⟩ := opens_int Try.underlying3 _ _ _ f1
   have s2 : Sized Try.prog 22 x2.1 := hs.part Try.underlying39 (j := 2) rfl rfl
   have s3 : Sized Try.prog 22 x3.1 := hs.part Try.underlying39 (j := 3) rfl rfl
   have z : SizeOf.sizeOf x2.1 < SizeOf.sizeOf (DataW.agg (H := H) ([x0, x1, x2, x3].map (·.1))) ∧ SizeOf.sizeOf x3.1 < SizeOf.sizeOf (DataW.agg (H := H) ([x0, x1, x2, x3].map (·.1))) := by
    have e2 := List.sizeOf_lt_of_mem (show x2.1 ∈ [x0, x1, x2, x3].map (·.1) by simp)
    have e3 := List.sizeOf_lt_of_mem (show x3.1 ∈ [x0, x1, x2, x3].map (·.1) by simp)
    simp only [DataW.agg.sizeOf_spec]
    omega
   obtain ⟨a, r2, l2⟩ := open_row (d := x2.1) (p := x2.2) f2 s2 (fun d' hd' => ih d' (by omega))
   obtain ⟨b, r3, l3⟩ := open_row (d := x3.1) (p := x3.2) f3 s3 (fun d' hd' => ih d' (by omega))
   refine ⟨.mk k m a b, ?_, ?_⟩
   ·rw [encD_eq]
    exact r0.app (r1.app (r2.app r3))
   ·rw [lenN]
    exact ⟨l2, l3⟩
theorem open_tree {d : DataW H} {n : Nat} {cs : List Value} {p : List MemPlace} (h : DataW.trod encT Try.prog w base spare held n 22 cs = some (d, p)) (hs : Sized Try.prog 22 d) : ∃ l : List Nod, CR (still w) w [encTr l] cs ∧ lenL l :=
 open_row h hs (fun d' _ => open_nod (SizeOf.sizeOf d' + 1) d' (Nat.lt_succ_self _))
theorem arg_tree {r : Reach} {b0 : Nat} {v : Value} {d : DataW H} {p : List MemPlace} (hv : Value.okWide Try.prog w r b0 22 v) (h : DataW.Trod encT Try.prog w base spare held 22 v d p) (hs : Sized Try.prog 22 d) : ∃ l : List Nod, Rep (still w) w (encTr l) v ∧ lenL l := by
 obtain ⟨a, len, cap, rfl⟩ := okWide_slice Try.underlying22 hv
 obtain ⟨fuel, hf⟩ := h
 obtain ⟨l, h1, h2⟩ := open_tree hf hs
 exact ⟨l, CR.val (by simpa [Value.cells] using h1), h2⟩
end
end Go.Proofs.Ytfphgelollhdhaa
