/- GenParts returns true at every input, and leaves its arguments as they were. -/
import Derived.Test.YtfphgelollhdhaaW1
import Derived.Test.YtfphgelollhdhaaW2
import Derived.Test.YtfphgelollhdhaaW3
import Derived.Test.YtfphgelollhdhaaW4
import Derived.Test.YtfphgelollhdhaagW5
import Derived.Test.YtfphgelollhdhaagW6
import Derived.Test.YtfphgelollhdhaagW7
import Derived.Test.YtfphgelollhdhaagW8
import Derived.Test.YtfphgelollhdhaagW9
set_option linter.unusedVariables false
set_option linter.unusedSimpArgs false
namespace Go.Proofs.Ytfphgelollhdhaa
open Go Go.RowKit
set_option maxRecDepth 100000
theorem okDs_append : ∀ {a b : List Nod}, okDs a = true → okDs b = true → okDs (a ++ b) = true
 | [], b, _, h => h
 | x :: a, b, h1, h2 => by
  rw [okDs, Bool.and_eq_true] at h1
  rw [List.cons_append, okDs, h1.1, okDs_append h1.2 h2]
  rfl
def encPa (a b : List Nod) (at_ self : Int) : List AV := [encTr a, encTr b, .val (.int .u16 at_), .val (.int .i64 self)]
theorem encPa_closed (a b : List Nod) (at_ self : Int) : ∀ x, x ∈ encPa a b at_ self → Closed x := closedL_cons (closed_tr _) (closedL_cons (closed_tr _) (closedL_cons (.val _) (closedL_cons (.val _) closedL_nil)))
theorem wr64 {n : Int} (h : -9223372036854775808 ≤ n ∧ n ≤ 9223372036854775807) : IntKind.i64.wrap n = n := wr_in h
attribute [local irreducible] Decidable.decide awp ARun regK toK XS
set_option maxHeartbeats 8000000 in
theorem parts_c (a b : List Nod) (at_ self : Int) (la : lenL a) (lb : lenL b) (ha : 0 ≤ at_ ∧ at_ ≤ 65535) : FnC Try.prog 5 [.agg (encPa a b at_ self)] (.val (.bool true)) := by
 have c0 := shown_c
 have f1 := few_c a la
 have f2 := few_c b lb
 have m1 := mayL_c a la
 have m2 := mayL_c b lb
 cases h1 : fewD a
 ·rw [h1] at f1
  (refine goF Try.func5 (closedL_cons (.agg (encPa_closed a b at_ self)) closedL_nil) (fun w0 st0 => ?_); dsimp only [frOf, encPa])
  (repeat' (first | refine goA ?_ | refine cX c0 ?_ | refine cX f1 ?_ | refine cX f2 ?_ | refine cX m1 ?_ | refine cX m2 ?_ | refine goB ?_ | fail))
  exact awp_ret ⟨_, ResL.cons (ResA.tmp (.val _)) .nil, rfl⟩
 rw [h1] at f1
 cases h2 : fewD b
 ·rw [h2] at f2
  (refine goF Try.func5 (closedL_cons (.agg (encPa_closed a b at_ self)) closedL_nil) (fun w0 st0 => ?_); dsimp only [frOf, encPa])
  (repeat' (first | refine goA ?_ | refine cX c0 ?_ | refine cX f1 ?_ | refine cX f2 ?_ | refine cX m1 ?_ | refine cX m2 ?_ | refine goB ?_ | fail))
  exact awp_ret ⟨_, ResL.cons (ResA.tmp (.val _)) .nil, rfl⟩
 rw [h2] at f2
 cases h3 : mayL a
 ·rw [h3] at m1
  (refine goF Try.func5 (closedL_cons (.agg (encPa_closed a b at_ self)) closedL_nil) (fun w0 st0 => ?_); dsimp only [frOf, encPa])
  (repeat' (first | refine goA ?_ | refine cX c0 ?_ | refine cX f1 ?_ | refine cX f2 ?_ | refine cX m1 ?_ | refine cX m2 ?_ | refine goB ?_ | fail))
  exact awp_ret ⟨_, ResL.cons (ResA.tmp (.val _)) .nil, rfl⟩
 rw [h3] at m1
 cases h4 : mayL b
 ·rw [h4] at m2
  (refine goF Try.func5 (closedL_cons (.agg (encPa_closed a b at_ self)) closedL_nil) (fun w0 st0 => ?_); dsimp only [frOf, encPa])
  (repeat' (first | refine goA ?_ | refine cX c0 ?_ | refine cX f1 ?_ | refine cX f2 ?_ | refine cX m1 ?_ | refine cX m2 ?_ | refine goB ?_ | fail))
  exact awp_ret ⟨_, ResL.cons (ResA.tmp (.val _)) .nil, rfl⟩
 rw [h4] at m2
 obtain ⟨oka, na⟩ := few_cnt la h1 h3
 obtain ⟨okb, nb⟩ := few_cnt lb h2 h4
 have lna := cnt_len a
 have lnb := cnt_len b
 have okab := okDs_append oka okb
 have nab := cntL_append a b
 have sab := sizS_append a b
 have ba := sizS_bound a
 have bb := sizS_bound b
 have hp : In64 (8 * at_) := ⟨by omega, by omega⟩
 have sa := siz_c a oka (by omega)
 have sb := siz_c b okb (by omega)
 have sc := siz_c (a ++ b) okab (by omega)
 unfold SizC at sa sb sc
 have za : ((codL XS self a (8 * at_) 0).length : Int) = sizS a := codL_len _ _ _ _ _ oka
 have ca := code_c a (8 * at_) self oka (by omega) hp
 have cc := code_c (a ++ b) (8 * at_) self okab (by omega) hp
 have eab := codL_append XS self 0 a b (8 * at_) hp
 rw [wr_in (n := 8 * at_ + 8 * sizS a) (by omega)] at eab
 have zb : ((codL XS self b (8 * at_ + 8 * sizS a) 0).length : Int) = sizS b := codL_len _ _ _ _ _ okb
 have cb := code_c b (8 * at_ + 8 * sizS a) self okb (by omega) ⟨by omega, by omega⟩
 unfold codeS at ca cb cc
 rw [eab, List.append_assoc] at cc
 generalize codL XS self a (8 * at_) 0 = A at *
 generalize codL XS self b (8 * at_ + 8 * sizS a) 0 = B at *
 have hX : (((A ++ [XS.ex]).map encI).length : Int) - 1 = sizS a := by rw [List.length_map, List.length_append, List.length_singleton]; omega
 have hT : ((A ++ [XS.ex]).map encI).take ((((A ++ [XS.ex]).map encI).length : Int) - 1).toNat = A.map encI := by
  rw [hX, List.map_append, List.take_append_of_le_length (by rw [List.length_map]; omega), List.take_of_length_le (by rw [List.length_map]; omega)]
 have hab : (a ++ b).map encD = [] ++ a.map encD ++ b.map encD := by rw [List.nil_append, List.map_append]
 have c7 := ref_same_c (A ++ (B ++ [XS.ex])) (A ++ (B ++ [XS.ex])) (by simp only [List.length_append, List.length_singleton]; omega) (by simp only [List.length_append, List.length_singleton]; omega)
 rw [show sameD (A ++ (B ++ [XS.ex])) (A ++ (B ++ [XS.ex])) = true from decide_eq_true rfl] at c7
 (refine goF Try.func5 (closedL_cons (.agg (encPa_closed a b at_ self)) closedL_nil) (fun w0 st0 => ?_); dsimp only [frOf, encPa])
 (repeat' (first | refine goN ?_ | refine awp_region_ne 10 rfl (fun _ => hmix) ?_ | refine ARun.o rfl ?_ | refine cX c0 ?_ | refine cX f1 ?_ | refine cX f2 ?_ | refine cX m1 ?_ | refine cX m2 ?_ | refine ARun.convInt rfl rfl rfl rfl rfl (guardF_spec rfl) ?_ | refine appF rfl ?_ | refine appO rfl ?_ | refine goB ?_ | ((fail_if_success refine ARun.plain rfl ?_); refine ARun.fork rfl rfl rfl (fun h => ?_) (fun h => ?_)) | refine awp_cond rfl (fun h => ?_) (fun h => ?_)))
 refine awp_freeze 45 _ 4 ((a ++ b).map encD) (by rw [hab]; rfl) (own_closed_map encD_closed) (fr' := [(3, encTr a), (4, encTr b), (6, .val (.int .i64 self)), (7, .val (.bool true)), (8, .val (.int .i64 (8 * at_))), (9, encTr (a ++ b))]) (hp' := []) ⟨.inl rfl, .inl rfl, .inl rfl, .inl rfl, .inl rfl, .inr ⟨_, rfl, by rw [hab], rfl⟩, trivial⟩ trivial ?_
 have e1 : decide ((((A ++ [XS.ex]).map encI).length : Int) < 1) = false := decide_eq_false (by omega)
 have e2 : (sizS a != (((A ++ [XS.ex]).map encI).length : Int) - 1) = false := by rw [hX]; simp
 have e3 : (sizS (a ++ b) == sizS a + sizS b) = true := by rw [sab]; simp
 have e4 : 8 * at_ + 8 * ((((A ++ [XS.ex]).map encI).length : Int) - 1) = 8 * at_ + 8 * sizS a := by rw [hX]
 rw [← e4] at cb
 have hXs : (A ++ [XS.ex]).map encI = A.map encI ++ [encI XS.ex] := by rw [List.map_append]; rfl
 have hXi : (((A ++ [XS.ex]).map encI).length : Int) - 1 = ((A.map encI).length : Nat) := by rw [hX, List.length_map]; omega
 have hZ : [] ++ A.map encI ++ (B ++ [XS.ex]).map encI = (A ++ (B ++ [XS.ex])).map encI := by rw [List.nil_append, ← List.map_append]
 unfold encS at c7
 have c8 : FnC Try.prog 11 [encS (A ++ (B ++ [XS.ex])), .sl 1 false ([] ++ A.map encI ++ (B ++ [XS.ex]).map encI)] (.val (.bool true)) := by
  rw [hZ]
  exact c7
 have hlX : ((A ++ [XS.ex]).map encI).length ≤ 10000 := by omega
 have hlY : ((B ++ [XS.ex]).map encI).length ≤ 10000 := by
  rw [List.length_map, List.length_append, List.length_singleton]
  omega
 have hcl : ∀ el x, el ∈ [] ++ A.map encI ++ (B ++ [XS.ex]).map encI → x ∈ el → Closed x := by
  rw [hZ]
  exact map_cl _
 unfold encS at ca cb cc c8
 clear hT
 have hlA : (A.map encI).length ≤ 10000 := by rw [List.length_map]; omega
 generalize A.map encI = A' at *
 generalize (A ++ [XS.ex]).map encI = X at *
 generalize (B ++ [XS.ex]).map encI = Y at *
 generalize A ++ (B ++ [XS.ex]) = Z at *
 (repeat' (first | refine goA ?_ | refine cX ca ?_ | refine cX cb ?_ | refine cX cc ?_ | refine cX sa ?_ | refine cX sb ?_ | refine cX sc ?_ | refine ARun.sliceTo rfl hXs rfl hXi rfl rfl rfl rfl rfl (guardF_spec rfl) ?_ | refine appF rfl ?_ | refine appO rfl ?_ | refine callGX [(84, _)] c8 (BsOk.cons rfl hcl (BsOk.nil _)) rfl (by (repeat (refine FzL.cons (by first | exact Fz.same _ | exact Fz.wk Wk.nilSl | exact Fz.wk (Wk.weak _ _ _) | exact Fz.own1 (by first | (simp; done) | (simp; rfl)) rfl (by simp) | exact Fz.cloL (FzL.nil _) (by (repeat (refine FzL.cons (by first | exact Fz.ptr1 (by first | exact .head _ | exact .tail _ (.head _) | exact .tail _ (.tail _ (.head _))) rfl rfl | exact Fz.same _) ?_)); exact FzL.nil _) | exact Fz.aggL (by (repeat (refine FzL.cons (by first | exact Fz.same _ | exact Fz.wk Wk.nilSl | exact Fz.wk (Wk.weak _ _ _) | exact Fz.own1 (by first | (simp; done) | (simp; rfl)) rfl (by simp)) ?_)); exact FzL.nil _)) ?_)); exact FzL.nil _) rfl rfl ?_ | refine goB ?_ | fail))
 exact awp_ret ⟨_, ResL.cons (ResA.tmp (.val _)) .nil, congrArg (fun b => AV.val (.bool b)) e3.symm⟩
end Go.Proofs.Ytfphgelollhdhaa
namespace Go.Proofs.Ytfphgelollhdhaa
open Go Go.RowKit Go.ChangeShapes Go.WideShapes Go.Deep Go.Proofs.Ytfphgelollhdhaa
set_option maxRecDepth 100000
section
variable {H : Type} {encT : TypeId × Value → H} {w : World} {base : Nat} {spare : Nat → Bool} {held : Bool}
theorem cells36 : Try.prog.cellsOf 36 = 4 := by kernel_rfl
theorem arg_parts {r : Reach} {b0 : Nat} {v : Value} {d : DataW H} {p : List MemPlace} (hv : Value.okWide Try.prog w r b0 36 v) (h : DataW.Trod encT Try.prog w base spare held 36 v d p) (hs : Sized Try.prog 36 d) :
  ∃ y : List Nod × List Nod × Int × Int, Rep (still w) w (.agg (encPa y.1 y.2.1 y.2.2.1 y.2.2.2)) v ∧ lenL y.1 ∧ lenL y.2.1 ∧ (0 ≤ y.2.2.1 ∧ y.2.2.1 ≤ 65535) := by
 obtain ⟨cs, rfl, hsz⟩ := okWide_struct Try.underlying36 hv
 obtain ⟨fuel, hf⟩ := h
 obtain ⟨xs, n', _, hx, hlen, hxl, hfs⟩ := DataW.trod_struct Try.underlying36 hf
 simp only [Prod.mk.injEq] at hx
 obtain ⟨rfl, _⟩ := hx
 rw [cells36] at hlen
 have hcs : (Value.agg cs).cells.toList = cs.toList := rfl
 rw [hcs] at hlen hfs
 generalize hL : cs.toList = L at *
 match xs, hxl, L, hlen with
 | [x0, x1, x2, x3], _, [c0, c1, c2, c3], _ =>
  have f0 := hfs 0 _ rfl
  have f1 := hfs 1 _ rfl
  have f2 := hfs 2 _ rfl
  have f3 := hfs 3 _ rfl
  have s0 : Sized Try.prog 22 x0.1 := hs.part Try.underlying36 (j := 0) rfl rfl
  have s1 : Sized Try.prog 22 x1.1 := hs.part Try.underlying36 (j := 1) rfl rfl
  obtain ⟨a, r0, l0⟩ := open_tree (d := x0.1) (p := x0.2) f0 s0
  obtain ⟨b, r1, l1⟩ := open_tree (d := x1.1) (p := x1.2) f1 s1
  obtain ⟨t, r2, l2⟩ := opens_u16 Try.underlying30 _ _ _ f2
  obtain ⟨m, r3, _⟩ := opens_int Try.underlying3 _ _ _ f3
  refine ⟨(a, b, t, m), ?_, l0, l1, l2⟩
  have := (r0.app (r1.app (r2.app r3))).agg
  have e : cs = [c0, c1, c2, c3].toArray := by rw [← hL]
  rw [e]
  exact this
end
theorem genParts_lifted (os : Os) (started : os.Started) (H : Type) (enc : TypeId × Value → H) :
  ReturnsInHanded {} Try.checked os 5 .any (Rows.genPartsSpec.pre6 enc Try.prog Try.f5 Rows.genPartsRow.domain false) (Rows.genPartsSpec.post enc Try.prog Try.f5 false true false false) := by
 refine returnsInHanded_of_change_sized (C := Try.checked) own_knob started (by kernel_rfl) Try.func5
  (ChangeSpec.witness6 (enc := enc) (C := Try.checked) false ⟨#[], #[.agg #[.slice none 0 0, .slice none 0 0, .int .u16 0, .int .i64 0]], []⟩ 12 (by kernel_rfl) (by kernel_rfl) (by kernel_rfl) (by kernel_rfl)) ?_
 intro W base args ds gs before hval0 hW hcnd hszw _
 have hval : ∀ (j : Nat) t v, Try.f5.params[j]? = some t → args[j]? = some v → Value.okWide Try.prog W .any base t v := hval0
 have hW' := hW
 obtain ⟨p, q, hA0, hV, rfl, hfz, hnd⟩ := hW
 have hA : DataW.TrodAll enc Try.prog W 0 (fun _ => true) true Try.f5.params.toList args.toList ds p := hA0
 rw [Try.params5] at hA hval
 obtain ⟨v0, vs0, d0, ds0, p0, q0, hargs, rfl, rfl, h0, r0⟩ := trodAll_cons hA
 obtain ⟨rfl, rfl, rfl⟩ := trodAll_nil r0
 obtain rfl : args = #[v0] := by cases args; simp_all
 obtain ⟨rfl, rfl⟩ := trodVars_none hV
 have k0 := h0
 have lt0 : ∀ x ∈ p0, x.block < W.heap.size := by obtain ⟨m, hm⟩ := k0; exact DataW.trod_lt m _ _ _ hm
 obtain ⟨y0, rep0, hy0⟩ := arg_parts (hval 0 36 v0 rfl rfl) h0 (sized_at (j := 0) hszw rfl rfl)
 clear hA0 hval0
 refine ((parts_c y0.1 y0.2.1 y0.2.2.1 y0.2.2.2 hy0.1 hy0.2.1 hy0.2.2).law (us := [v0]) rfl (fun i x u hx hu => by
  cases i with
  | zero => simp only [List.getElem?_cons_zero, Option.some.injEq] at hx hu; rw [← hx, ← hu]; exact rep0
  | succ i =>
   simp only [List.getElem?_cons_succ] at hx hu
   simp at hx)).mono fun e W' ⟨he, bel⟩ => ?_
 subst he
 exact ⟨_, rfl, _, _, _, [], _, [], hW', trodAll_mk1 (shut_bool Try.underlying4 _), (trodAll_cons_mk (Below.trod laid_out (by kernel_rfl) (of_decide_eq_true (by kernel_rfl)) k0 bel lt0) trodAll_mk0), rfl, bel.frame _, fun h => by cases h⟩
theorem genParts_holds : Rows.GenPartsSaid :=
 OpenClaim.holds_of_wide 5 Try.f5 rfl rfl rfl rfl rfl rfl rfl ⟨rfl, rfl, rfl, rfl, rfl⟩ rfl rfl rfl rfl rfl (by kernel_rfl) Try.func5 (by kernel_rfl)
  (of_decide_eq_true (by kernel_rfl)) (by unfold Func.isWrapper; first | (rw [if_pos (by decide +kernel)]; kernel_rfl) | (rw [if_neg (by decide +kernel)]; exact ⟨rfl, rfl⟩))
  (fun os started H enc _ => genParts_lifted os started H enc)
#print axioms genParts_holds
end Go.Proofs.Ytfphgelollhdhaa
