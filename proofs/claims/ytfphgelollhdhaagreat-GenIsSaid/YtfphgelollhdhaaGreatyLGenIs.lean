/- GenIs returns true at every input, and leaves its arguments as they were. -/
import Derived.Test.YtfphgelollhdhaaGreatW1
import Derived.Test.YtfphgelollhdhaaGreatW2
import Derived.Test.YtfphgelollhdhaaGreatW3
import Derived.Test.YtfphgelollhdhaaGreatW4
import Derived.Test.YtfphgelollhdhaaGreatyW5
import Derived.Test.YtfphgelollhdhaaGreatyW6
import Derived.Test.YtfphgelollhdhaaGreatyW7
import Derived.Test.YtfphgelollhdhaaGreatyW8
import Derived.Test.YtfphgelollhdhaaGreatyW9
import Derived.Test.YtfphgelollhdhaaGreatyW10
import Derived.Test.YtfphgelollhdhaaGreatyW11
import Derived.Test.YtfphgelollhdhaaGreatyW12
import Derived.Test.YtfphgelollhdhaaGreatyW13
import Derived.Test.YtfphgelollhdhaaGreatyW14
import Derived.Test.YtfphgelollhdhaaGreatyW15
import Derived.Test.YtfphgelollhdhaaGreatyW16
import Derived.Test.YtfphgelollhdhaaGreatyW17
import Derived.Test.YtfphgelollhdhaaGreatyW18
import Derived.Test.YtfphgelollhdhaaGreatyW19
import Derived.Test.YtfphgelollhdhaaGreatyW20
import Derived.Test.YtfphgelollhdhaaGreatyW21
import Derived.Test.YtfphgelollhdhaaGreatyW22
import Derived.Test.YtfphgelollhdhaaGreatyW23
import Derived.Test.YtfphgelollhdhaaGreatyW24
import Derived.Test.YtfphgelollhdhaaGreatyW25
import Derived.Test.YtfphgelollhdhaaGreatyW26
import Derived.Test.YtfphgelollhdhaaGreatyW27
import Derived.Test.YtfphgelollhdhaaGreatyW28
import Derived.Test.YtfphgelollhdhaaGreatRows
set_option linter.unusedVariables false
set_option linter.unusedSimpArgs false
namespace Go.Proofs.YtfphgelollhdhaaGreat
open Go Go.RowKit
open Go.Proofs.YtfphgelollhdhaaGreat.Dict (St Bs bs_eq st_app st_size)
open Go.Proofs.YtfphgelollhdhaaGreat.Mem (Mm encM encBs closed_bs encP encP_closed closed_m storeD fetchD)
open Go.Proofs.YtfphgelollhdhaaGreat.Stk (encS closed_s encI_closed)
open Gen (Nod encTr closed_tr codeS)
set_option maxRecDepth 100000
theorem fits1 : FitsP conf1 := ⟨⟨by decide, by decide⟩, by decide, ⟨by decide, by decide⟩, ⟨by decide, by decide⟩, ⟨by decide, by decide⟩, by decide, by decide⟩
theorem flat_snoc {ws : List Bs} {i : Nat} {w : Bs} (h : ws[i]? = some w) : (ws.take (i + 1)).flatMap (fun w => 32 :: w) = (ws.take i).flatMap (fun w => 32 :: w) ++ (32 :: w) := by
 rw [take_succ' h, List.flatMap_append, List.flatMap_cons, List.flatMap_nil, List.append_nil]
attribute [local irreducible] Decidable.decide awp ARun regK toK
theorem new15_c : FnC Tryz.prog 5 [] (.agg (encFo ⟨v1, cp0⟩)) := by
 have c1 := ref_new_c conf1
 rw [newV_new fits1] at c1
 rw [show vNew conf1 = v1 from rfl] at c1
 generalize v1 = v at *
 refine goF Tryz.func5 closedL_nil (fun w0 st0 => ?_)
 dsimp only [frOf]
 (repeat' (first | refine goA ?_ | refine cX c1 ?_ | refine goB ?_ | fail))
 exact awp_ret ⟨_, ResL.cons (ResA.agg rfl rfl rfl rfl rfl rfl rfl (by repeat' (first | exact RL.nil _ | refine RL.cons (by first | exact Reif.val _ | exact Reif.nilSl | exact .closed _ (by first | exact closed_bs _ | exact closed_s _ | exact Dict.closed_ws _ | exact closedFr _ | exact closedRq _ | exact closedHn _ | exact closedLCf _ | exact closed_map encP_closed)) ?_))) .nil, rfl⟩
set_option maxHeartbeats 16000000 in
theorem genis_c (ws : List Bs) (hlen : ws.length ≤ maxLen) (hwl : ∀ w, w ∈ ws → w.length ≤ maxLen) : FnC Tryz.prog 3 [.sl 1 false (ws.map encN)] (.val (.bool true)) := by
 have e0 : (((ws.map encN).length : Nat) : Int) = ws.length := by rw [List.length_map]
 have c0 := Gen.shown_c
 by_cases h40 : 40 < ws.length
 ·have d1 : decide ((40 : Int) < (((ws.map encN).length : Nat) : Int)) = true := decide_eq_true (by omega)
  refine goF Tryz.func3 (closedL_cons (closed_nms ws) closedL_nil) (fun w0 st0 => ?_)
  dsimp only [frOf]
  (repeat' (first | refine goA ?_ | refine cX c0 ?_ | refine goB ?_ | fail))
  exact awp_ret ⟨_, ResL.cons (ResA.tmp (.val _)) .nil, rfl⟩
 have d1 : decide ((40 : Int) < (((ws.map encN).length : Nat) : Int)) = false := decide_eq_false (by omega)
 refine goF Tryz.func3 (closedL_cons (closed_nms ws) closedL_nil) (fun w0 st0 => ?_)
 dsimp only [frOf]
 (repeat' (first | refine goA ?_ | refine cX c0 ?_ | refine goB ?_ | fail))
 refine awp_loopT (T := Nat × Bs × Nat) (fun t => ⟨[(5, .val (.int .i64 (t.1 : Nat))), (4, St t.2.1), (3, .val (.bool true)), (0, .sl 1 false (ws.map encN))], [], t.2.2⟩) (fun t => t.1 ≤ ws.length ∧ t.2.1 = [58, 32, 105, 116] ++ (ws.take t.1).flatMap (fun w => 32 :: w) ∧ t.2.1.length ≤ 4 + 41 * t.1 ∧ ∀ w, w ∈ ws.take t.1 → GoodW w ∧ w.length ≤ 40) (fun t => ws.length - t.1) (0, [58, 32, 105, 116], _) ⟨Nat.zero_le _, rfl, by decide, fun w h => by cases h⟩ ⟨⟨rfl, rfl, rfl, rfl, trivial⟩, trivial, Nat.le_refl _⟩ (fun t ht => ?_)
 obtain ⟨i, acc, gc⟩ := t
 obtain ⟨hi, hA, hal, hG⟩ := ht
 dsimp only at hi hA hal hG ⊢
 by_cases hlt : i < ws.length
 ·have hc : decide (((i : Nat) : Int) < (((ws.map encN).length : Nat) : Int)) = true := decide_eq_true (by omega)
  have hp : ws[i]? = some ws[i] := List.getElem?_eq_getElem hlt
  have hwm : ws[i] ∈ ws := List.getElem_mem hlt
  generalize ws[i] = w at hp hwm
  have hwml := hwl w hwm
  have hz : (ByteArray.mk w.toArray).size = w.length := rfl
  by_cases k1 : 40 < w.length
  ·have d2 : decide ((40 : Int) < (((ByteArray.mk w.toArray).size : Nat) : Int)) = true := decide_eq_true (by omega)
   (repeat' (first | refine goA ?_ | refine ARun.indexAddr rfl rfl (by omega) (by first | with_reducible exact get_map hp | with_reducible exact get_map hp) rfl rfl rfl rfl rfl (guardF_spec rfl) ?_ | refine goB ?_ | fail))
   exact awp_ret ⟨_, ResL.cons (ResA.tmp (.val _)) .nil, rfl⟩
  have d2 : decide ((40 : Int) < (((ByteArray.mk w.toArray).size : Nat) : Int)) = false := decide_eq_false (by omega)
  by_cases k2 : w = []
  ·subst k2
   have d3 : ((((ByteArray.mk ([] : Bs).toArray).size : Nat) : Int) == 0) = true := beq_iff_eq.2 rfl
   (repeat' (first | refine goA ?_ | refine ARun.indexAddr rfl rfl (by omega) (by first | with_reducible exact get_map hp | with_reducible exact get_map hp) rfl rfl rfl rfl rfl (guardF_spec rfl) ?_ | refine goB ?_ | fail))
   exact awp_ret ⟨_, ResL.cons (ResA.tmp (.val _)) .nil, rfl⟩
  have hpos : 0 < w.length := List.length_pos_iff.2 k2
  have d3 : ((((ByteArray.mk w.toArray).size : Nat) : Int) == 0) = false := beq_eq_false_iff_ne.2 (by omega)
  (repeat' (first | refine goA ?_ | refine ARun.indexAddr rfl rfl (by omega) (by first | with_reducible exact get_map hp | with_reducible exact get_map hp) rfl rfl rfl rfl rfl (guardF_spec rfl) ?_ | refine goB ?_ | fail))
  refine awp_loopT (T := Nat × Nat) (fun t => ⟨[(6, .val (.int .i64 (t.1 : Nat))), (5, .val (.int .i64 (i : Nat))), (4, St acc), (3, .val (.bool true)), (0, .sl 1 false (ws.map encN))], [], t.2⟩) (fun t => t.1 ≤ w.length ∧ ∀ c, c ∈ w.take t.1 → 32 < c.toNat) (fun t => w.length - t.1) (0, _) ⟨Nat.zero_le _, fun c h => by cases h⟩ ⟨⟨rfl, rfl, rfl, rfl, rfl, trivial⟩, trivial, Nat.le_refl _⟩ (fun t ht => ?_)
  obtain ⟨k, gc2⟩ := t
  obtain ⟨hk, hB⟩ := ht
  dsimp only at hk hB ⊢
  by_cases hkl : k < w.length
  ·have hc2 : decide (((k : Nat) : Int) < (((ByteArray.mk w.toArray).size : Nat) : Int)) = true := decide_eq_true (by omega)
   have h1 : w[k]? = some w[k] := List.getElem?_eq_getElem hkl
   generalize w[k] = ch at h1
   have hs : (ByteArray.mk w.toArray).data[((k : Nat) : Int).toNat]? = some ch := by rw [Int.toNat_natCast]; simpa using h1
   have hc8 := ch.toNat_lt
   by_cases h32 : 32 < ch.toNat
   ·have d4 : decide ((((ch.toNat : Nat) : Int)) ≤ 32) = false := decide_eq_false (by omega)
    (repeat' (first | refine goA ?_ | refine ARun.indexAddr rfl rfl (by omega) (by first | with_reducible exact get_map hp | with_reducible exact get_map hp) rfl rfl rfl rfl rfl (guardF_spec rfl) ?_ | refine ARun.index_str rfl rfl (by omega) hs rfl rfl rfl (guardF_spec rfl) ?_ | refine goB ?_ | fail))
    refine ⟨(k + 1, _), ⟨⟨succI k, rfl, rfl, rfl, rfl, trivial⟩, trivial, Nat.le_refl _⟩, ⟨hkl, fun c hc => ?_⟩, (by dsimp only; omega)⟩
    rw [take_succ' h1] at hc
    rcases List.mem_append.1 hc with hc | hc
    ·exact hB c hc
    ·rw [List.mem_singleton.1 hc]; exact h32
   ·have d4 : decide ((((ch.toNat : Nat) : Int)) ≤ 32) = true := decide_eq_true (by omega)
    (repeat' (first | refine goA ?_ | refine ARun.indexAddr rfl rfl (by omega) (by first | with_reducible exact get_map hp | with_reducible exact get_map hp) rfl rfl rfl rfl rfl (guardF_spec rfl) ?_ | refine ARun.index_str rfl rfl (by omega) hs rfl rfl rfl (guardF_spec rfl) ?_ | refine goB ?_ | fail))
    exact awp_ret ⟨_, ResL.cons (ResA.tmp (.val _)) .nil, rfl⟩
  ·have hkk : k = w.length := by omega
   subst hkk
   have hc2 : decide (((w.length : Nat) : Int) < (((ByteArray.mk w.toArray).size : Nat) : Int)) = false := decide_eq_false (by omega)
   rw [List.take_length] at hB
   have z1 : (ByteArray.mk acc.toArray).size = acc.length := rfl
   have z2 : (ByteArray.mk #[32]).size = 1 := rfl
   have z3 := st_app acc [32]
   have z4 : (ByteArray.mk acc.toArray ++ ByteArray.mk #[32]).size = acc.length + 1 := by rw [show ByteArray.mk #[32] = ByteArray.mk ([32] : Bs).toArray from rfl, z3, st_size, List.length_append]; rfl
   have z5 : (ByteArray.mk acc.toArray ++ ByteArray.mk #[32]) ++ ByteArray.mk w.toArray = ByteArray.mk (acc ++ 32 :: w).toArray := by
    rw [show ByteArray.mk #[32] = ByteArray.mk ([32] : Bs).toArray from rfl, z3, st_app, List.append_assoc]
    rfl
   (repeat' (first | refine goA ?_ | refine ARun.indexAddr rfl rfl (by omega) (by first | with_reducible exact get_map hp | with_reducible exact get_map hp) rfl rfl rfl rfl rfl (guardF_spec rfl) ?_ | refine ARun.bin rfl rfl (bin_cat (by first | (rw [z1, z2]; omega) | (rw [z4, hz]; omega))) rfl (guardF_spec rfl) ?_ | refine goB ?_ | fail))
   refine ⟨(i + 1, acc ++ 32 :: w, _), ⟨⟨succI i, congrArg (fun z => AV.val (Value.string z)) z5, rfl, rfl, trivial⟩, trivial, Nat.le_refl _⟩, ⟨hlt, by dsimp only; rw [hA, flat_snoc hp, List.append_assoc], by dsimp only; rw [List.length_append, List.length_cons]; omega, fun x hx => ?_⟩, (by dsimp only; omega)⟩
   dsimp only at hx
   rw [take_succ' hp] at hx
   rcases List.mem_append.1 hx with hx | hx
   ·exact hG x hx
   ·rw [List.mem_singleton.1 hx]; exact ⟨⟨k2, hB⟩, by omega⟩
 have hii : i = ws.length := by omega
 subst hii
 have hc : decide (((ws.length : Nat) : Int) < (((ws.map encN).length : Nat) : Int)) = false := decide_eq_false (by omega)
 rw [List.take_length] at hA hG
 have g : GoodWs ws := ⟨by omega, hG⟩
 have c1 := new15_c
 have c2 := parse_c v1 ws v1_ok (by omega) (fun w hw => ⟨by have := (hG w hw).2; omega, (hG w hw).1.1⟩)
 by_cases hbad : (parseP ws).2 = 0
 case neg =>
  have d2 : ((parseP ws).2 != 0) = true := by simp [hbad]
  generalize parseP ws = pw at *
  generalize v1 = v at *
  (repeat' (first | refine goA ?_ | refine cX c1 ?_ | refine cX c2 ?_ | refine goB ?_ | fail))
  exact awp_ret ⟨_, ResL.cons (ResA.tmp (.val _)) .nil, rfl⟩
 have d2 : ((parseP ws).2 != 0) = false := by simp [hbad]
 obtain ⟨⟨hok, hcnt⟩, hline⟩ := genis_plain g hbad
 have z1 : (ByteArray.mk acc.toArray).size = acc.length := rfl
 have z2 : (ByteArray.mk #[32, 59]).size = 2 := rfl
 have z3 : ByteArray.mk acc.toArray ++ ByteArray.mk #[32, 59] = ByteArray.mk (lineT ws).toArray := by
  rw [show ByteArray.mk #[32, 59] = ByteArray.mk ([32, 59] : Bs).toArray from rfl, st_app, hA]
  rfl
 rcases hline with ⟨x, hx⟩ | ⟨x, c3⟩
 case inr =>
  have d3 : ((-22 : Int) != 0) = true := by simp
  have d4 : ((-22 : Int) != -13) = true := by simp
  rw [show St (lineT ws) = AV.val (Value.string (ByteArray.mk acc.toArray ++ ByteArray.mk #[32, 59])) from congrArg (fun z => AV.val (Value.string z)) z3.symm] at c3
  generalize parseP ws = pw at *
  generalize v1 = v at *
  (repeat' (first | refine goA ?_ | refine cX c1 ?_ | refine cX c2 ?_ | refine cX c3 ?_ | refine ARun.bin rfl rfl (bin_cat (by rw [z1, z2]; omega)) rfl (guardF_spec rfl) ?_ | refine goB ?_ | fail))
  first
   | exact awp_ret ⟨_, ResL.cons (ResA.tmp (.val _)) .nil, rfl⟩
   | exact awp_ret ⟨_, ResL.cons (ResA.tmp (.val _)) .nil, congrArg (fun b => AV.val (.bool b)) d4.symm⟩
   | exact awp_ret ⟨_, ResL.cons (ResA.tmp (.val _)) .nil, congrArg (fun b => AV.val (.bool b)) d4⟩
 have c3 := hx.line
 rw [show St (lineT ws) = AV.val (Value.string (ByteArray.mk acc.toArray ++ ByteArray.mk #[32, 59])) from congrArg (fun z => AV.val (Value.string z)) z3.symm] at c3
 have c4 := Gen.code_c (parseP ws).1 1376 1368 hok (by omega) ⟨by omega, by omega⟩
 have h1 := hx.here
 have h2 := hx.mb
 have h3 := hx.cells
 have hclen := Gen.codL_len Gen.XS 1368 (parseP ws).1 1376 0 hok
 have hsb := Gen.sizS_bound (parseP ws).1
 have hcl : (codeS 1368 (parseP ws).1 1376).length ≤ 1000 := by
  unfold codeS
  rw [List.length_append, List.length_singleton]
  omega
 generalize codeS 1368 (parseP ws).1 1376 = code at *
 generalize parseP ws = pw at *
 have e1 : (((code.map encI).length : Nat) : Int) = code.length := by rw [List.length_map]
 have d3 : ((0 : Int) != 0) = false := by simp
 have d4 : (x.v.here != 1376 + 8 * (((code.map encI).length : Nat) : Int)) = false := by rw [e1, h1]; simp
 generalize v1 = v at *
 (repeat' (first | refine goA ?_ | refine cX c1 ?_ | refine cX c2 ?_ | refine cX c3 ?_ | refine cX c4 ?_ | refine ARun.bin rfl rfl (bin_cat (by rw [z1, z2]; omega)) rfl (guardF_spec rfl) ?_ | refine goB ?_ | fail))
 refine awp_loopT (T := Nat × Nat × Nat) (fun t => ⟨[(14, .val (.int .i64 (t.1 : Nat))), (13, encS code), (10, .ptr 10 t.2.1 0 0), (3, .val (.bool true))], [(10, some ⟨t.2.1, 30, [encFo x]⟩)], t.2.2⟩) (fun t => t.1 ≤ code.length) (fun t => code.length - t.1) (0, _, _) (Nat.zero_le _) ⟨⟨rfl, rfl, rfl, rfl, trivial⟩, ⟨rfl, trivial⟩, Nat.le_refl _⟩ (fun t ht => ?_)
 obtain ⟨k, gg, gc2⟩ := t
 dsimp only at ht ⊢
 by_cases hk : k < code.length
 ·have hc2 : decide (((k : Nat) : Int) < (((code.map encI).length : Nat) : Int)) = true := decide_eq_true (by omega)
  have hp : code[k]? = some code[k] := List.getElem?_eq_getElem hk
  generalize code[k] = cc at hp
  have hf := h3 k cc hp
  have c5 := Mem.ref_fetch_c x.v.m (1376 + 8 * (k : Int)) h2
  rw [hf] at c5
  have d5 : (cc != cc) = false := by simp
  (repeat' (first | refine goA ?_ | refine cX c5 ?_ | refine ARun.indexAddr rfl rfl (by omega) (by first | with_reducible exact get_map hp | with_reducible exact get_map hp) rfl rfl rfl rfl rfl (guardF_spec rfl) ?_ | refine goB ?_ | fail))
  exact ⟨(k + 1, gg, _), ⟨⟨succI k, rfl, rfl, rfl, trivial⟩, ⟨rfl, trivial⟩, Nat.le_refl _⟩, hk, (by dsimp only; omega)⟩
 ·have hkk : k = code.length := by omega
  subst hkk
  have hc2 : decide (((code.length : Nat) : Int) < (((code.map encI).length : Nat) : Int)) = false := decide_eq_false (by omega)
  (repeat' (first | refine goA ?_ | refine goB ?_ | fail))
  exact awp_ret ⟨_, ResL.cons (ResA.tmp (.val _)) .nil, rfl⟩
end Go.Proofs.YtfphgelollhdhaaGreat
namespace Go.Proofs.YtfphgelollhdhaaGreat
open Go Go.RowKit Go.ChangeShapes Go.WideShapes Go.Deep Go.Proofs.YtfphgelollhdhaaGreat
open Go.Proofs.YtfphgelollhdhaaGreat.Dict (St Bs)
set_option maxRecDepth 100000
theorem own_knob : ownKnob Tryz.prog.godebug = none := by kernel_rfl
theorem laid_out : laidOutB Tryz.prog = true := by kernel_rfl
section
variable {H : Type} {encT : TypeId × Value → H} {w : World} {base : Nat} {spare : Nat → Bool} {held : Bool}
theorem opens_s : Opens encT Tryz.prog w base spare held 9 encN (fun l : Bs => l.length ≤ maxLen) := (opens_str Tryz.underlying9).map (fun s => s.data.toList) (fun s _ => rfl) (fun s h => h)
theorem opens_ss : Opens encT Tryz.prog w base spare held 22 (encL 1 encN) (fun l => l.length ≤ maxLen ∧ ∀ w, w ∈ l → w.length ≤ maxLen) := opens_slice (sz := 1) (enc := encN) Tryz.underlying22 (by kernel_rfl) (by decide) (fun _ => rfl) opens_s
end
theorem genIs_lifted (os : Os) (started : os.Started) (H : Type) (enc : TypeId × Value → H) :
  ReturnsInHanded {} Tryz.checked os 3 .any (Rows.genIsSpec.pre6 enc Tryz.prog Tryz.f3 Rows.genIsRow.domain false) (Rows.genIsSpec.post enc Tryz.prog Tryz.f3 false true false false) := by
 refine returnsInHanded_of_change (C := Tryz.checked) own_knob started (by kernel_rfl) Tryz.func3
  (ChangeSpec.witness6 (enc := enc) (C := Tryz.checked) false ⟨#[], #[.slice none 0 0], []⟩ 12 (by kernel_rfl) (by kernel_rfl) (by kernel_rfl) (by kernel_rfl)) ?_
 intro W base args ds gs before hval0 hW hcnd _
 have hval : ∀ (j : Nat) t v, Tryz.f3.params[j]? = some t → args[j]? = some v → Value.okWide Tryz.prog W .any base t v := hval0
 have hW' := hW
 obtain ⟨p, q, hA0, hV, rfl, hfz, hnd⟩ := hW
 have hA : DataW.TrodAll enc Tryz.prog W 0 (fun _ => true) true Tryz.f3.params.toList args.toList ds p := hA0
 rw [Tryz.params3] at hA hval
 obtain ⟨v0, vs0, d0, ds0, p0, q0, hargs, rfl, rfl, h0, r0⟩ := trodAll_cons hA
 obtain ⟨rfl, rfl, rfl⟩ := trodAll_nil r0
 obtain rfl : args = #[v0] := by cases args; simp_all
 obtain ⟨rfl, rfl⟩ := trodVars_none hV
 have k0 := h0
 have lt0 : ∀ x ∈ p0, x.block < W.heap.size := by obtain ⟨m, hm⟩ := k0; exact DataW.trod_lt m _ _ _ hm
 obtain ⟨y0, rep0, hy0⟩ := arg_slice (enc := encN) Tryz.underlying22 (hval 0 22 v0 rfl rfl) h0 opens_ss
 clear hA0 hval0
 refine ((genis_c y0 hy0.1 hy0.2).law (us := [v0]) rfl (fun i x u hx hu => by
  cases i with
  | zero => simp only [List.getElem?_cons_zero, Option.some.injEq] at hx hu; rw [← hx, ← hu]; exact rep0
  | succ i =>
   simp only [List.getElem?_cons_succ] at hx hu
   simp at hx)).mono fun e W' ⟨he, bel⟩ => ?_
 subst he
 exact ⟨_, rfl, _, _, _, [], _, [], hW', trodAll_mk1 (shut_bool Tryz.underlying4 _), (trodAll_cons_mk (Below.trod laid_out (by kernel_rfl) (of_decide_eq_true (by kernel_rfl)) k0 bel lt0) trodAll_mk0), rfl, bel.frame _, fun h => by cases h⟩
theorem genIs_holds : Rows.GenIsSaid :=
 OpenClaim.holds_of_wide 3 Tryz.f3 rfl rfl rfl rfl rfl rfl rfl ⟨rfl, rfl, rfl, rfl, rfl⟩ rfl rfl rfl rfl rfl (by kernel_rfl) Tryz.func3 (by kernel_rfl)
  (of_decide_eq_true (by kernel_rfl)) (by unfold Func.isWrapper; first | (rw [if_pos (by decide +kernel)]; kernel_rfl) | (rw [if_neg (by decide +kernel)]; exact ⟨rfl, rfl⟩))
  (fun os started H enc _ => genIs_lifted os started H enc)
#print axioms genIs_holds
end Go.Proofs.YtfphgelollhdhaaGreat
