/- kG7, kG8, kG9, kG10, kG11. -/
import Derived.Test.YthlbcakjngcjbaaGreatW1
import Derived.Test.YthlbcakjngcjbaaGreatW2
import Derived.Test.YthlbcakjngcjbaaGreatW3
import Derived.Test.YthlbcakjngcjbaaGreatW4
import Derived.Test.YthlbcakjngcjbaaGreatkW5
import Derived.Test.YthlbcakjngcjbaaGreatkW6
import Derived.Test.YthlbcakjngcjbaaGreatkW7
import Derived.Test.YthlbcakjngcjbaaGreatkW8
import Derived.Test.YthlbcakjngcjbaaGreatkW9
import Derived.Test.YthlbcakjngcjbaaGreatkW10
set_option linter.unusedVariables false
set_option linter.unusedSimpArgs false
namespace Go.Proofs.YthlbcakjngcjbaaGreat
open Go Go.RowKit
open Dict (St Bs bs_eq)
open Mem (encBs closed_bs)
set_option maxRecDepth 100000
attribute [local irreducible] Decidable.decide awp ARun regK toK
def FrOk (x : Fr) : Prop := (0 ≤ x.d ∧ x.d ≤ 256) ∧ 0 ≤ x.r ∧ x.r ≤ 256
def FramedP (l : List Fr) : Prop := (∀ x, x ∈ l → FrOk x) ∧ l.length ≤ 64
def HandP (l : List Hn) : Prop := (∀ x, x ∈ l → 0 ≤ x.fuel) ∧ l.length ≤ 64
open Classical in
noncomputable def pD (p : Prop) : Bool := if p then true else false
theorem pD_yes {p : Prop} (h : p) : pD p = true := by unfold pD; exact if_pos h
theorem pD_no {p : Prop} (h : ¬ p) : pD p = false := by unfold pD; exact if_neg h
theorem pD_iff {p : Prop} : pD p = true ↔ p := by unfold pD; split <;> simp_all
theorem pD_congr {p q : Prop} (h : p ↔ q) : pD p = pD q := by
 by_cases hp : p
 ·rw [pD_yes hp, pD_yes (h.1 hp)]
 ·rw [pD_no hp, pD_no (fun e => hp (h.2 e))]
theorem mem_snocG {α : Type} {l : List α} {k : Nat} {w : α} {R : α → Prop} (h : l[k]? = some w) (h1 : ∀ v, v ∈ l.take k → R v) (h2 : R w) : ∀ v, v ∈ l.take (k + 1) → R v := fun v hv => by
 rw [take_succ' h] at hv
 rcases List.mem_append.1 hv with hv | hv
 ·exact h1 v hv
 ·rw [List.mem_singleton.1 hv]; exact h2
set_option maxHeartbeats 4000000 in
theorem framed_c (l : List Fr) (hl : l.length ≤ 1000000) : FnC Tryz.prog 87 [encLFr l] (.val (.bool (pD (FramedP l)))) := by
 refine goF Tryz.func87 (closedL_cons (closedFr l) closedL_nil) (fun w0 st0 => ?_)
 dsimp only [frOf]
 (repeat' (first | refine goA ?_ | refine goB ?_ | ((fail_if_success refine ARun.plain rfl ?_); refine ARun.fork rfl rfl rfl (fun h => ?_) (fun h => ?_)) | refine awp_cond rfl (fun h => ?_) (fun h => ?_)))
 refine awp_loopT (T := Nat × Nat) (fun t => ⟨[(7, .val (.int .i64 (t.1 : Nat))), (6, .val (.int .i64 ((l.map encFr).length : Nat))), (5, encLFr l), (0, encLFr l)], [], t.2⟩) (fun t => t.1 ≤ l.length ∧ ∀ x, x ∈ l.take t.1 → FrOk x) (fun t => l.length - t.1) (0, _) ⟨Nat.zero_le _, fun w h => by cases h⟩ ⟨⟨rfl, rfl, rfl, rfl, trivial⟩, trivial, Nat.le_refl _⟩ (fun t ht => ?_)
 obtain ⟨i, gc⟩ := t
 obtain ⟨hi, hA⟩ := ht
 dsimp only at hi hA ⊢
 by_cases hlt : i < l.length
 ·have hc : decide (((i : Nat) : Int) < ((l.map encFr).length : Nat)) = true := by simp; omega
  have hp : l[i]? = some l[i] := List.getElem?_eq_getElem hlt
  have hm : l[i] ∈ l := List.getElem_mem hlt
  generalize l[i] = x at hp hm
  have c1 := within_c x.d 0 256
  have c2 := within_c x.r 0 256
  by_cases h1 : 0 ≤ x.d ∧ x.d ≤ 256
  ·rw [decide_eq_true h1] at c1
   by_cases h2 : 0 ≤ x.r ∧ x.r ≤ 256
   ·rw [decide_eq_true h2] at c2
    (repeat' (first | refine goA ?_ | refine ARun.indexAddr rfl rfl (by omega) (by first | with_reducible exact get_map hp | with_reducible exact get_map hp) rfl rfl rfl rfl rfl (guardF_spec rfl) ?_ | refine cX c1 ?_ | refine cX c2 ?_ | refine goB ?_ | fail))
    exact ⟨(i + 1, _), ⟨⟨succI i, rfl, rfl, rfl, trivial⟩, trivial, Nat.le_refl _⟩, ⟨hlt, mem_snocG hp hA ⟨h1, h2⟩⟩, (by dsimp only; omega)⟩
   ·rw [decide_eq_false h2] at c2
    rw [pD_no (fun h => h2 (h.1 x hm).2)]
    (repeat' (first | refine goA ?_ | refine ARun.indexAddr rfl rfl (by omega) (by first | with_reducible exact get_map hp | with_reducible exact get_map hp) rfl rfl rfl rfl rfl (guardF_spec rfl) ?_ | refine cX c1 ?_ | refine cX c2 ?_ | refine goB ?_ | fail))
    exact awp_ret ⟨_, ResL.cons (ResA.tmp (.val _)) .nil, rfl⟩
  ·rw [decide_eq_false h1] at c1
   rw [pD_no (fun h => h1 (h.1 x hm).1)]
   (repeat' (first | refine goA ?_ | refine ARun.indexAddr rfl rfl (by omega) (by first | with_reducible exact get_map hp | with_reducible exact get_map hp) rfl rfl rfl rfl rfl (guardF_spec rfl) ?_ | refine cX c1 ?_ | refine cX c2 ?_ | refine goB ?_ | fail))
   exact awp_ret ⟨_, ResL.cons (ResA.tmp (.val _)) .nil, rfl⟩
 ·have hii : i = l.length := by omega
  subst hii
  have hc : decide (((l.length : Nat) : Int) < ((l.map encFr).length : Nat)) = false := by simp
  rw [List.take_length] at hA
  (repeat' (first | refine goA ?_ | refine goB ?_ | fail))
  refine awp_ret ⟨_, ResL.cons (ResA.tmp (.val _)) .nil, congrArg (fun b => AV.val (.bool b)) ?_⟩
  by_cases h4 : l.length ≤ 64
  ·rw [pD_yes ⟨hA, h4⟩, decide_eq_true (by rw [List.length_map]; omega)]
  ·rw [pD_no (fun h => h4 h.2), decide_eq_false (by rw [List.length_map]; omega)]
set_option maxHeartbeats 4000000 in
theorem handled_c (l : List Hn) (hl : l.length ≤ 1000000) : FnC Tryz.prog 90 [encLHn l] (.val (.bool (pD (HandP l)))) := by
 refine goF Tryz.func90 (closedL_cons (closedHn l) closedL_nil) (fun w0 st0 => ?_)
 dsimp only [frOf]
 (repeat' (first | refine goA ?_ | refine goB ?_ | ((fail_if_success refine ARun.plain rfl ?_); refine ARun.fork rfl rfl rfl (fun h => ?_) (fun h => ?_)) | refine awp_cond rfl (fun h => ?_) (fun h => ?_)))
 refine awp_loopT (T := Nat × Nat) (fun t => ⟨[(7, .val (.int .i64 (t.1 : Nat))), (6, .val (.int .i64 ((l.map encHn).length : Nat))), (5, encLHn l), (0, encLHn l)], [], t.2⟩) (fun t => t.1 ≤ l.length ∧ ∀ x, x ∈ l.take t.1 → 0 ≤ x.fuel) (fun t => l.length - t.1) (0, _) ⟨Nat.zero_le _, fun w h => by cases h⟩ ⟨⟨rfl, rfl, rfl, rfl, trivial⟩, trivial, Nat.le_refl _⟩ (fun t ht => ?_)
 obtain ⟨i, gc⟩ := t
 obtain ⟨hi, hA⟩ := ht
 dsimp only at hi hA ⊢
 by_cases hlt : i < l.length
 ·have hc : decide (((i : Nat) : Int) < ((l.map encHn).length : Nat)) = true := by simp; omega
  have hp : l[i]? = some l[i] := List.getElem?_eq_getElem hlt
  have hm : l[i] ∈ l := List.getElem_mem hlt
  generalize l[i] = x at hp hm
  by_cases h1 : x.fuel < 0
  ·have d1 : decide (x.fuel < 0) = true := decide_eq_true h1
   rw [pD_no (fun h => by have := h.1 x hm; omega)]
   (repeat' (first | refine goA ?_ | refine ARun.indexAddr rfl rfl (by omega) (by first | with_reducible exact get_map hp | with_reducible exact get_map hp) rfl rfl rfl rfl rfl (guardF_spec rfl) ?_ | refine goB ?_ | fail))
   exact awp_ret ⟨_, ResL.cons (ResA.tmp (.val _)) .nil, rfl⟩
  ·have d1 : decide (x.fuel < 0) = false := decide_eq_false h1
   (repeat' (first | refine goA ?_ | refine ARun.indexAddr rfl rfl (by omega) (by first | with_reducible exact get_map hp | with_reducible exact get_map hp) rfl rfl rfl rfl rfl (guardF_spec rfl) ?_ | refine goB ?_ | fail))
   exact ⟨(i + 1, _), ⟨⟨succI i, rfl, rfl, rfl, trivial⟩, trivial, Nat.le_refl _⟩, ⟨hlt, mem_snocG hp hA (by omega)⟩, (by dsimp only; omega)⟩
 ·have hii : i = l.length := by omega
  subst hii
  have hc : decide (((l.length : Nat) : Int) < ((l.map encHn).length : Nat)) = false := by simp
  rw [List.take_length] at hA
  (repeat' (first | refine goA ?_ | refine goB ?_ | fail))
  refine awp_ret ⟨_, ResL.cons (ResA.tmp (.val _)) .nil, congrArg (fun b => AV.val (.bool b)) ?_⟩
  by_cases h4 : l.length ≤ 64
  ·rw [pD_yes ⟨hA, h4⟩, decide_eq_true (by rw [List.length_map]; omega)]
  ·rw [pD_no (fun h => h4 h.2), decide_eq_false (by rw [List.length_map]; omega)]
def encPc (b : Bs) (o : Bool) : List AV := [encBs b, .val (.bool o)]
def PicP (b : Bs) (o : Bool) : Prop := b.length ≤ 130 ∧ (o = true ∨ b.length = 0)
theorem pic_right_c (b : Bs) (o : Bool) : FnC Tryz.prog 89 [.agg (encPc b o)] (.val (.bool (pD (PicP b o)))) := by
 by_cases h1 : b.length ≤ 130
 ·have d1 : decide ((((b.map encB).length : Nat) : Int) ≤ 130) = true := decide_eq_true (by rw [List.length_map]; omega)
  cases o with
  | true =>
   rw [pD_yes ⟨h1, .inl rfl⟩]
   refine goF Tryz.func89 (closedL_cons (.agg (closedL_cons (closed_bs _) (closedL_cons (.val _) closedL_nil))) closedL_nil) (fun w0 st0 => ?_)
   dsimp only [frOf]
   (repeat' (first | refine goA ?_ | refine goB ?_ | fail))
   exact awp_ret ⟨_, ResL.cons (ResA.tmp (.val _)) .nil, rfl⟩
  | false =>
   refine goF Tryz.func89 (closedL_cons (.agg (closedL_cons (closed_bs _) (closedL_cons (.val _) closedL_nil))) closedL_nil) (fun w0 st0 => ?_)
   dsimp only [frOf]
   (repeat' (first | refine goA ?_ | refine goB ?_ | fail))
   refine awp_ret ⟨_, ResL.cons (ResA.tmp (.val _)) .nil, congrArg (fun b => AV.val (.bool b)) ?_⟩
   by_cases h2 : b.length = 0
   ·rw [pD_yes ⟨h1, .inr h2⟩]
    exact (beq_iff_eq.2 (by rw [List.length_map, h2]; rfl)).symm
   ·rw [pD_no (fun h => h2 (h.2.resolve_left (by simp)))]
    exact (beq_eq_false_iff_ne.2 (by rw [List.length_map]; omega)).symm
 ·have d1 : decide ((((b.map encB).length : Nat) : Int) ≤ 130) = false := decide_eq_false (by rw [List.length_map]; omega)
  rw [pD_no (fun h => h1 h.1)]
  refine goF Tryz.func89 (closedL_cons (.agg (closedL_cons (closed_bs _) (closedL_cons (.val _) closedL_nil))) closedL_nil) (fun w0 st0 => ?_)
  dsimp only [frOf]
  (repeat' (first | refine goA ?_ | refine goB ?_ | fail))
  exact awp_ret ⟨_, ResL.cons (ResA.tmp (.val _)) .nil, rfl⟩
theorem ref_pic_right_c (b : Bs) (o : Bool) : FnC Tryz.prog 95 [.agg (encPc b o)] (.val (.bool (pD (PicP b o)))) := by
 by_cases h1 : b.length ≤ 130
 ·have d1 : decide ((((b.map encB).length : Nat) : Int) ≤ 130) = true := decide_eq_true (by rw [List.length_map]; omega)
  cases o with
  | true =>
   rw [pD_yes ⟨h1, .inl rfl⟩]
   refine goF Tryz.func95 (closedL_cons (.agg (closedL_cons (closed_bs _) (closedL_cons (.val _) closedL_nil))) closedL_nil) (fun w0 st0 => ?_)
   dsimp only [frOf]
   (repeat' (first | refine goA ?_ | refine goB ?_ | fail))
   exact awp_ret ⟨_, ResL.cons (ResA.tmp (.val _)) .nil, rfl⟩
  | false =>
   refine goF Tryz.func95 (closedL_cons (.agg (closedL_cons (closed_bs _) (closedL_cons (.val _) closedL_nil))) closedL_nil) (fun w0 st0 => ?_)
   dsimp only [frOf]
   (repeat' (first | refine goA ?_ | refine goB ?_ | fail))
   refine awp_ret ⟨_, ResL.cons (ResA.tmp (.val _)) .nil, congrArg (fun b => AV.val (.bool b)) ?_⟩
   by_cases h2 : b.length = 0
   ·rw [pD_yes ⟨h1, .inr h2⟩]
    exact (beq_iff_eq.2 (by rw [List.length_map, h2]; rfl)).symm
   ·rw [pD_no (fun h => h2 (h.2.resolve_left (by simp)))]
    exact (beq_eq_false_iff_ne.2 (by rw [List.length_map]; omega)).symm
 ·have d1 : decide ((((b.map encB).length : Nat) : Int) ≤ 130) = false := decide_eq_false (by rw [List.length_map]; omega)
  rw [pD_no (fun h => h1 h.1)]
  refine goF Tryz.func95 (closedL_cons (.agg (closedL_cons (closed_bs _) (closedL_cons (.val _) closedL_nil))) closedL_nil) (fun w0 st0 => ?_)
  dsimp only [frOf]
  (repeat' (first | refine goA ?_ | refine goB ?_ | fail))
  exact awp_ret ⟨_, ResL.cons (ResA.tmp (.val _)) .nil, rfl⟩
theorem tf1 : (true == false) = false := by simp
theorem tf2 : (false == true) = false := by simp
theorem tf3 : (true == true) = true := by simp
theorem tf4 : (false == false) = true := by simp
theorem pic_same_c (b b' : Bs) (o o' : Bool) : FnC Tryz.prog 101 [.agg (encPc b o), .agg (encPc b' o')] (.val (.bool (pD (o = o' ∧ b = b')))) := by
  have c1 := Mem.bequal_c b b'
  have q1 := tf1
  have q2 := tf2
  have q3 := tf3
  have q4 := tf4
  cases o <;> cases o'
  all_goals
    refine goF Tryz.func101 (closedL_cons (.agg (closedL_cons (closed_bs _) (closedL_cons (.val _) closedL_nil))) (closedL_cons (.agg (closedL_cons (closed_bs _) (closedL_cons (.val _) closedL_nil))) closedL_nil)) (fun w0 st0 => ?_)
    dsimp only [frOf]
    (repeat' (first | refine goA ?_ | refine cX c1 ?_ | refine goB ?_ | fail))
    refine awp_ret ⟨_, ResL.cons (ResA.tmp (.val _)) .nil, congrArg (fun b => AV.val (.bool b)) ?_⟩
    first
      | exact pD_no (fun h => by have := h.1; simp at this)
      | (by_cases h : b = b'
         · rw [pD_yes ⟨rfl, h⟩, decide_eq_true h]
         · rw [pD_no (fun e => h e.2), decide_eq_false h])
theorem ref_pic_same_c (b b' : Bs) (o o' : Bool) : FnC Tryz.prog 108 [.agg (encPc b o), .agg (encPc b' o')] (.val (.bool (pD (o = o' ∧ b = b')))) := by
  have q1 := tf1
  have q2 := tf2
  have q3 := tf3
  have q4 := tf4
  cases o <;> cases o'
  all_goals
    refine goF Tryz.func108 (closedL_cons (.agg (closedL_cons (closed_bs _) (closedL_cons (.val _) closedL_nil))) (closedL_cons (.agg (closedL_cons (closed_bs _) (closedL_cons (.val _) closedL_nil))) closedL_nil)) (fun w0 st0 => ?_)
    dsimp only [frOf]
    (repeat' (first | refine goA ?_ | refine ARun.bytesStr (by first | exact SrcA.sl rfl (.inr rfl) | exact SrcA.sl rfl (.inl rfl) | exact SrcA.ownW rfl rfl rfl rfl) rfl rfl rfl rfl rfl rfl rfl rfl (guardF_spec rfl) ?_ | refine goB ?_ | fail))
    refine awp_ret ⟨_, ResL.cons (ResA.tmp (.val _)) .nil, congrArg (fun b => AV.val (.bool b)) ?_⟩
    first
      | exact pD_no (fun h => by have := h.1; simp at this)
      | (refine Eq.trans ?_ (bs_eq b b').symm
         by_cases h : b = b'
         · rw [pD_yes ⟨rfl, h⟩, decide_eq_true h]
         · rw [pD_no (fun e => h e.2), decide_eq_false h])
end Go.Proofs.YthlbcakjngcjbaaGreat
namespace Go.Proofs.YthlbcakjngcjbaaGreat
open Go Go.RowKit
open Dict (St Bs bs_eq Wd encW encWs closed_ws)
open Mem (Mm encM encBs closed_bs encP encP_closed)
open Stk (encS closed_s)
set_option maxRecDepth 100000
def RoomP (v : V) : Prop := FitsP v.cf ∧ Mem.RightM v.m ∧ (v.m.b.length : Int) = v.cf.mem ∧ 1368 ≤ v.here ∧ v.here ≤ v.cf.mem
def StackP (v : V) : Prop := (v.d.length : Int) ≤ v.cf.data ∧ (v.r.length : Int) ≤ v.cf.ret ∧ FramedP v.f
def WordP (v : V) : Prop := Dict.RightW v.dict ∧ (v.dict.length : Int) ≤ v.cf.words ∧ (v.out.length : Int) ≤ v.cf.out ∧ PicP v.pb v.po
def RestP (v : V) : Prop := v.req.length ≤ 16 ∧ (0 ≤ v.free ∧ v.free ≤ 64) ∧ (0 ≤ v.next ∧ v.next ≤ 4611686018427387904) ∧ HandP v.hand
def RightV (v : V) : Prop := RoomP v ∧ StackP v ∧ WordP v ∧ RestP v
structure Held (v : V) : Prop where
 mb : v.m.b.length ≤ 1000000
 mo : v.m.old.length ≤ 1000000
 dl : v.d.length ≤ 1000000
 rl : v.r.length ≤ 1000000
 fl : v.f.length ≤ 1000000
 wl : v.dict.length ≤ 1000000
 wi : Dict.InW v.dict
 ol : v.out.length ≤ 1000000
 pl : v.pb.length ≤ 1000000
 ql : v.req.length ≤ 1000000
 hl : v.hand.length ≤ 1000000
attribute [local irreducible] Decidable.decide awp ARun regK toK
set_option maxHeartbeats 8000000 in
theorem right_c (v : V) (hv : Held v) : FnC Tryz.prog 45 [.agg (encV v)] (.val (.bool (pD (RightV v)))) := by
 have c1 := fits_c v.cf
 have c2 := Mem.right_c v.m hv.mb hv.mo
 have c3 := start_c
 have c4 := within_c v.here 1368 v.cf.mem
 have c5 := framed_c v.f hv.fl
 have c6 := Dict.right_c v.dict hv.wl hv.wi
 have c7 := pic_right_c v.pb v.po
 have c8 := within_c v.free 0 64
 have c9 := within_c v.next 0 4611686018427387904
 have c10 := handled_c v.hand hv.hl
 have eb : (((v.m.b.map encB).length : Nat) : Int) = v.m.b.length := by rw [List.length_map]
 have ed : (((v.d.map encI).length : Nat) : Int) = v.d.length := by rw [List.length_map]
 have er : (((v.r.map encI).length : Nat) : Int) = v.r.length := by rw [List.length_map]
 have ew : (((v.dict.map encW).length : Nat) : Int) = v.dict.length := by rw [List.length_map]
 have eo : (((v.out.map encB).length : Nat) : Int) = v.out.length := by rw [List.length_map]
 have eq : (((v.req.map encRq).length : Nat) : Int) = v.req.length := by rw [List.length_map]
 generalize hb1 : pD (RoomP v) = b1
 generalize hb2 : pD (StackP v) = b2
 generalize hb3 : pD (WordP v) = b3
 refine goF Tryz.func45 (closedL_cons (closedV v) closedL_nil) (fun w0 st0 => ?_)
 dsimp only [frOf]
 (repeat' (first | refine goN ?_ | refine awp_region_ne 2 rfl (fun _ => hmix) ?_ | refine ARun.o rfl ?_ | refine goB ?_ | ((fail_if_success refine ARun.plain rfl ?_); refine ARun.fork rfl rfl rfl (fun h => ?_) (fun h => ?_)) | refine awp_cond rfl (fun h => ?_) (fun h => ?_)))
 refine awp_cut (T := Nat) (fun t => ⟨[(1, .ptr 1 0 0 0), (3, .ptr 3 4 0 0), (4, .val (.bool b1))], [(1, some ⟨0, 23, [encV v]⟩), (3, some ⟨4, 5, [encC v.cf]⟩)], t⟩) (fun _ => True) ?_ (fun t1 _ => ?_)
 ·clear hb2 hb3 c5 c6 c7 c8 c9 c10
  by_cases h1 : FitsP v.cf
  case neg =>
   obtain rfl : b1 = false := hb1.symm.trans (pD_no (fun h => h1 h.1))
   rw [fits_no h1] at c1
   (repeat' (first | refine goA ?_ | refine cX c1 ?_ | refine cX c2 ?_ | refine cX c3 ?_ | refine cX c4 ?_ | refine goB ?_ | fail))
   exact ⟨_, ⟨⟨rfl, rfl, rfl, trivial⟩, ⟨rfl, rfl, trivial⟩, Nat.le_refl _⟩, trivial⟩
  rw [fits_yes h1] at c1
  by_cases h2 : Mem.RightM v.m
  case neg =>
   obtain rfl : b1 = false := hb1.symm.trans (pD_no (fun h => h2 h.2.1))
   rw [Mem.rightM_no h2] at c2
   (repeat' (first | refine goA ?_ | refine cX c1 ?_ | refine cX c2 ?_ | refine cX c3 ?_ | refine cX c4 ?_ | refine goB ?_ | fail))
   exact ⟨_, ⟨⟨rfl, rfl, rfl, trivial⟩, ⟨rfl, rfl, trivial⟩, Nat.le_refl _⟩, trivial⟩
  rw [Mem.rightM_yes h2] at c2
  by_cases h3 : (v.m.b.length : Int) = v.cf.mem
  case neg =>
   obtain rfl : b1 = false := hb1.symm.trans (pD_no (fun h => h3 h.2.2.1))
   have d3 : ((((v.m.b.map encB).length : Nat) : Int) == v.cf.mem) = false := beq_eq_false_iff_ne.2 (by omega)
   (repeat' (first | refine goA ?_ | refine cX c1 ?_ | refine cX c2 ?_ | refine cX c3 ?_ | refine cX c4 ?_ | refine goB ?_ | fail))
   exact ⟨_, ⟨⟨rfl, rfl, rfl, trivial⟩, ⟨rfl, rfl, trivial⟩, Nat.le_refl _⟩, trivial⟩
  have d3 : ((((v.m.b.map encB).length : Nat) : Int) == v.cf.mem) = true := beq_iff_eq.2 (by omega)
  by_cases h4 : 1368 ≤ v.here ∧ v.here ≤ v.cf.mem
  case neg =>
   obtain rfl : b1 = false := hb1.symm.trans (pD_no (fun h => h4 h.2.2.2))
   rw [decide_eq_false h4] at c4
   (repeat' (first | refine goA ?_ | refine cX c1 ?_ | refine cX c2 ?_ | refine cX c3 ?_ | refine cX c4 ?_ | refine goB ?_ | fail))
   exact ⟨_, ⟨⟨rfl, rfl, rfl, trivial⟩, ⟨rfl, rfl, trivial⟩, Nat.le_refl _⟩, trivial⟩
  obtain rfl : b1 = true := hb1.symm.trans (pD_yes ⟨h1, h2, h3, h4⟩)
  rw [decide_eq_true h4] at c4
  (repeat' (first | refine goA ?_ | refine cX c1 ?_ | refine cX c2 ?_ | refine cX c3 ?_ | refine cX c4 ?_ | refine goB ?_ | fail))
  exact ⟨_, ⟨⟨rfl, rfl, rfl, trivial⟩, ⟨rfl, rfl, trivial⟩, Nat.le_refl _⟩, trivial⟩
 clear c1 c2 c3 c4
 refine awp_seq ?_
 refine awp_cut (T := Nat) (fun t => ⟨[(1, .ptr 1 0 0 0), (3, .ptr 3 4 0 0), (4, .val (.bool b1)), (5, .val (.bool b2))], [(1, some ⟨0, 23, [encV v]⟩), (3, some ⟨4, 5, [encC v.cf]⟩)], t⟩) (fun _ => True) ?_ (fun t2 _ => ?_)
 ·clear hb1 hb3 c6 c7 c8 c9 c10
  by_cases h1 : (v.d.length : Int) ≤ v.cf.data
  case neg =>
   obtain rfl : b2 = false := hb2.symm.trans (pD_no (fun h => h1 h.1))
   have d1 : decide ((((v.d.map encI).length : Nat) : Int) ≤ v.cf.data) = false := decide_eq_false (by omega)
   (repeat' (first | refine goA ?_ | refine cX c5 ?_ | refine goB ?_ | fail))
   exact ⟨_, ⟨⟨rfl, rfl, rfl, rfl, trivial⟩, ⟨rfl, rfl, trivial⟩, Nat.le_refl _⟩, trivial⟩
  have d1 : decide ((((v.d.map encI).length : Nat) : Int) ≤ v.cf.data) = true := decide_eq_true (by omega)
  by_cases h2 : (v.r.length : Int) ≤ v.cf.ret
  case neg =>
   obtain rfl : b2 = false := hb2.symm.trans (pD_no (fun h => h2 h.2.1))
   have d2 : decide ((((v.r.map encI).length : Nat) : Int) ≤ v.cf.ret) = false := decide_eq_false (by omega)
   (repeat' (first | refine goA ?_ | refine cX c5 ?_ | refine goB ?_ | fail))
   exact ⟨_, ⟨⟨rfl, rfl, rfl, rfl, trivial⟩, ⟨rfl, rfl, trivial⟩, Nat.le_refl _⟩, trivial⟩
  have d2 : decide ((((v.r.map encI).length : Nat) : Int) ≤ v.cf.ret) = true := decide_eq_true (by omega)
  obtain rfl : pD (FramedP v.f) = b2 := (pD_congr ⟨fun h => ⟨h1, h2, h⟩, fun h => h.2.2⟩).trans hb2
  (repeat' (first | refine goA ?_ | refine cX c5 ?_ | refine goB ?_ | fail))
  exact ⟨_, ⟨⟨rfl, rfl, rfl, rfl, trivial⟩, ⟨rfl, rfl, trivial⟩, Nat.le_refl _⟩, trivial⟩
 clear c5
 refine awp_seq ?_
 refine awp_cut (T := Nat) (fun t => ⟨[(1, .ptr 1 0 0 0), (4, .val (.bool b1)), (5, .val (.bool b2)), (6, .val (.bool b3))], [(1, some ⟨0, 23, [encV v]⟩), (3, some ⟨4, 5, [encC v.cf]⟩)], t⟩) (fun _ => True) ?_ (fun t3 _ => ?_)
 ·clear hb1 hb2 c8 c9 c10
  by_cases h1 : Dict.RightW v.dict
  case neg =>
   obtain rfl : b3 = false := hb3.symm.trans (pD_no (fun h => h1 h.1))
   rw [Dict.rightW_no h1] at c6
   (repeat' (first | refine goA ?_ | refine cX c6 ?_ | refine cX c7 ?_ | refine goB ?_ | fail))
   exact ⟨_, ⟨⟨rfl, rfl, rfl, rfl, trivial⟩, ⟨rfl, rfl, trivial⟩, Nat.le_refl _⟩, trivial⟩
  rw [Dict.rightW_yes h1] at c6
  by_cases h2 : (v.dict.length : Int) ≤ v.cf.words
  case neg =>
   obtain rfl : b3 = false := hb3.symm.trans (pD_no (fun h => h2 h.2.1))
   have d2 : decide ((((v.dict.map encW).length : Nat) : Int) ≤ v.cf.words) = false := decide_eq_false (by omega)
   (repeat' (first | refine goA ?_ | refine cX c6 ?_ | refine cX c7 ?_ | refine goB ?_ | fail))
   exact ⟨_, ⟨⟨rfl, rfl, rfl, rfl, trivial⟩, ⟨rfl, rfl, trivial⟩, Nat.le_refl _⟩, trivial⟩
  have d2 : decide ((((v.dict.map encW).length : Nat) : Int) ≤ v.cf.words) = true := decide_eq_true (by omega)
  by_cases h3 : (v.out.length : Int) ≤ v.cf.out
  case neg =>
   obtain rfl : b3 = false := hb3.symm.trans (pD_no (fun h => h3 h.2.2.1))
   have d3 : decide ((((v.out.map encB).length : Nat) : Int) ≤ v.cf.out) = false := decide_eq_false (by omega)
   (repeat' (first | refine goA ?_ | refine cX c6 ?_ | refine cX c7 ?_ | refine goB ?_ | fail))
   exact ⟨_, ⟨⟨rfl, rfl, rfl, rfl, trivial⟩, ⟨rfl, rfl, trivial⟩, Nat.le_refl _⟩, trivial⟩
  have d3 : decide ((((v.out.map encB).length : Nat) : Int) ≤ v.cf.out) = true := decide_eq_true (by omega)
  obtain rfl : pD (PicP v.pb v.po) = b3 := (pD_congr ⟨fun h => ⟨h1, h2, h3, h⟩, fun h => h.2.2.2⟩).trans hb3
  (repeat' (first | refine goA ?_ | refine cX c6 ?_ | refine cX c7 ?_ | refine goB ?_ | fail))
  exact ⟨_, ⟨⟨rfl, rfl, rfl, rfl, trivial⟩, ⟨rfl, rfl, trivial⟩, Nat.le_refl _⟩, trivial⟩
 clear c6 c7
 cases b1 with
 | false =>
  rw [pD_no (fun h => by have := pD_yes h.1; rw [hb1] at this; cases this)]
  (repeat' (first | refine goA ?_ | refine goB ?_ | fail))
  exact awp_ret ⟨_, ResL.cons (ResA.tmp (.val _)) .nil, rfl⟩
 | true =>
 cases b2 with
 | false =>
  rw [pD_no (fun h => by have := pD_yes h.2.1; rw [hb2] at this; cases this)]
  (repeat' (first | refine goA ?_ | refine goB ?_ | fail))
  exact awp_ret ⟨_, ResL.cons (ResA.tmp (.val _)) .nil, rfl⟩
 | true =>
 cases b3 with
 | false =>
  rw [pD_no (fun h => by have := pD_yes h.2.2.1; rw [hb3] at this; cases this)]
  (repeat' (first | refine goA ?_ | refine goB ?_ | fail))
  exact awp_ret ⟨_, ResL.cons (ResA.tmp (.val _)) .nil, rfl⟩
 | true =>
 have p1 := pD_iff.1 hb1
 have p2 := pD_iff.1 hb2
 have p3 := pD_iff.1 hb3
 by_cases h1 : v.req.length ≤ 16
 case neg =>
  have d1 : decide ((((v.req.map encRq).length : Nat) : Int) ≤ 16) = false := decide_eq_false (by omega)
  rw [pD_no (fun h => h1 h.2.2.2.1)]
  (repeat' (first | refine goA ?_ | refine cX c8 ?_ | refine cX c9 ?_ | refine cX c10 ?_ | refine goB ?_ | fail))
  exact awp_ret ⟨_, ResL.cons (ResA.tmp (.val _)) .nil, rfl⟩
 have d1 : decide ((((v.req.map encRq).length : Nat) : Int) ≤ 16) = true := decide_eq_true (by omega)
 by_cases h2 : 0 ≤ v.free ∧ v.free ≤ 64
 case neg =>
  rw [decide_eq_false h2] at c8
  rw [pD_no (fun h => h2 h.2.2.2.2.1)]
  (repeat' (first | refine goA ?_ | refine cX c8 ?_ | refine cX c9 ?_ | refine cX c10 ?_ | refine goB ?_ | fail))
  exact awp_ret ⟨_, ResL.cons (ResA.tmp (.val _)) .nil, rfl⟩
 rw [decide_eq_true h2] at c8
 by_cases h3 : 0 ≤ v.next ∧ v.next ≤ 4611686018427387904
 case neg =>
  rw [decide_eq_false h3] at c9
  rw [pD_no (fun h => h3 h.2.2.2.2.2.1)]
  (repeat' (first | refine goA ?_ | refine cX c8 ?_ | refine cX c9 ?_ | refine cX c10 ?_ | refine goB ?_ | fail))
  exact awp_ret ⟨_, ResL.cons (ResA.tmp (.val _)) .nil, rfl⟩
 rw [decide_eq_true h3] at c9
 rw [show pD (RightV v) = pD (HandP v.hand) from pD_congr ⟨fun h => h.2.2.2.2.2.2, fun h => ⟨p1, p2, p3, h1, h2, h3, h⟩⟩]
 (repeat' (first | refine goA ?_ | refine cX c8 ?_ | refine cX c9 ?_ | refine cX c10 ?_ | refine goB ?_ | fail))
 exact awp_ret ⟨_, ResL.cons (ResA.tmp (.val _)) .nil, rfl⟩
end Go.Proofs.YthlbcakjngcjbaaGreat
namespace Go.Proofs.YthlbcakjngcjbaaGreat
open Go Go.RowKit
open Dict (St Bs bs_eq Wd encW encWs closed_ws)
open Mem (Mm encM encBs closed_bs encP encP_closed)
open Stk (encS closed_s)
set_option maxRecDepth 100000
structure Sizes (v : V) : Prop where
 s1 : (v.d.length : Int) ≤ v.cf.data
 s2 : (v.r.length : Int) ≤ v.cf.ret
 s3 : v.f.length ≤ 64
 s4 : (v.dict.length : Int) ≤ v.cf.words
 s5 : (v.out.length : Int) ≤ v.cf.out
 s6 : v.req.length ≤ 16
 s7 : 0 ≤ v.free
 s8 : v.free ≤ 64
 s9 : 0 ≤ v.next
 s10 : v.next ≤ 4611686018427387904
 s11 : v.hand.length ≤ 64
theorem RightV.sizes {v : V} (h : RightV v) : Sizes v := ⟨h.2.1.1, h.2.1.2.1, h.2.1.2.2.2, h.2.2.1.2.1, h.2.2.1.2.2.1, h.2.2.2.1, h.2.2.2.2.1.1, h.2.2.2.2.1.2, h.2.2.2.2.2.1.1, h.2.2.2.2.2.1.2, h.2.2.2.2.2.2.2⟩
theorem Sizes.right {v : V} (h : Sizes v) (hr : RoomP v) (hw : Dict.RightW v.dict) (hp : PicP v.pb v.po) (hf : ∀ x, x ∈ v.f → FrOk x) (hh : ∀ x, x ∈ v.hand → 0 ≤ x.fuel) : RightV v :=
 ⟨hr, ⟨h.s1, h.s2, hf, h.s3⟩, ⟨hw, h.s4, h.s5, hp⟩, h.s6, ⟨h.s7, h.s8⟩, ⟨h.s9, h.s10⟩, hh, h.s11⟩
attribute [local irreducible] Decidable.decide awp ARun regK toK
set_option maxHeartbeats 16000000 in
theorem ref_right_c (v : V) (hv : Held v) : FnC Tryz.prog 49 [.agg (encV v)] (.val (.bool (pD (RightV v)))) := by
  have c1 := ref_fits_c v.cf
  have c2 := Mem.ref_right_c v.m hv.mb hv.mo
  have c3 := Dict.ref_right_c v.dict hv.wl hv.wi
  have c4 := ref_pic_right_c v.pb v.po
  have eb : (((v.m.b.map encB).length : Nat) : Int) = v.m.b.length := by rw [List.length_map]
  have ed : (((v.d.map encI).length : Nat) : Int) = v.d.length := by rw [List.length_map]
  have er : (((v.r.map encI).length : Nat) : Int) = v.r.length := by rw [List.length_map]
  have ef : (((v.f.map encFr).length : Nat) : Int) = v.f.length := by rw [List.length_map]
  have ew : (((v.dict.map encW).length : Nat) : Int) = v.dict.length := by rw [List.length_map]
  have eo : (((v.out.map encB).length : Nat) : Int) = v.out.length := by rw [List.length_map]
  have eq : (((v.req.map encRq).length : Nat) : Int) = v.req.length := by rw [List.length_map]
  have eh : (((v.hand.map encHn).length : Nat) : Int) = v.hand.length := by rw [List.length_map]
  by_cases h1 : FitsP v.cf
  case neg =>
    rw [fits_no h1] at c1
    rw [pD_no (fun h => h1 h.1.1)]
    refine goF Tryz.func49 (closedL_cons (closedV v) closedL_nil) (fun w0 st0 => ?_)
    dsimp only [frOf]
    (repeat' (first | refine goA ?_ | refine cX c1 ?_ | refine cX c2 ?_ | refine cX c3 ?_ | refine cX c4 ?_ | refine goB ?_ | fail))
    exact awp_ret ⟨_, ResL.cons (ResA.tmp (.val _)) .nil, rfl⟩
  rw [fits_yes h1] at c1
  by_cases h2 : Mem.RightM v.m
  case neg =>
    rw [Mem.rightM_no h2] at c2
    rw [pD_no (fun h => h2 h.1.2.1)]
    refine goF Tryz.func49 (closedL_cons (closedV v) closedL_nil) (fun w0 st0 => ?_)
    dsimp only [frOf]
    (repeat' (first | refine goA ?_ | refine cX c1 ?_ | refine cX c2 ?_ | refine cX c3 ?_ | refine cX c4 ?_ | refine goB ?_ | fail))
    exact awp_ret ⟨_, ResL.cons (ResA.tmp (.val _)) .nil, rfl⟩
  rw [Mem.rightM_yes h2] at c2
  by_cases h3 : Dict.RightW v.dict
  case neg =>
    rw [Dict.rightW_no h3] at c3
    rw [pD_no (fun h => h3 h.2.2.1.1)]
    refine goF Tryz.func49 (closedL_cons (closedV v) closedL_nil) (fun w0 st0 => ?_)
    dsimp only [frOf]
    (repeat' (first | refine goA ?_ | refine cX c1 ?_ | refine cX c2 ?_ | refine cX c3 ?_ | refine cX c4 ?_ | refine goB ?_ | fail))
    exact awp_ret ⟨_, ResL.cons (ResA.tmp (.val _)) .nil, rfl⟩
  rw [Dict.rightW_yes h3] at c3
  by_cases h4 : PicP v.pb v.po
  case neg =>
    rw [pD_no h4] at c4
    rw [pD_no (fun h => h4 h.2.2.1.2.2.2)]
    refine goF Tryz.func49 (closedL_cons (closedV v) closedL_nil) (fun w0 st0 => ?_)
    dsimp only [frOf]
    (repeat' (first | refine goA ?_ | refine cX c1 ?_ | refine cX c2 ?_ | refine cX c3 ?_ | refine cX c4 ?_ | refine goB ?_ | fail))
    exact awp_ret ⟨_, ResL.cons (ResA.tmp (.val _)) .nil, rfl⟩
  rw [pD_yes h4] at c4
  by_cases h5 : (v.m.b.length : Int) = v.cf.mem
  case neg =>
    have d5 : ((((v.m.b.map encB).length : Nat) : Int) != v.cf.mem) = true := by simp; omega
    rw [pD_no (fun h => h5 h.1.2.2.1)]
    refine goF Tryz.func49 (closedL_cons (closedV v) closedL_nil) (fun w0 st0 => ?_)
    dsimp only [frOf]
    (repeat' (first | refine goA ?_ | refine cX c1 ?_ | refine cX c2 ?_ | refine cX c3 ?_ | refine cX c4 ?_ | refine goB ?_ | fail))
    exact awp_ret ⟨_, ResL.cons (ResA.tmp (.val _)) .nil, rfl⟩
  have d5 : ((((v.m.b.map encB).length : Nat) : Int) != v.cf.mem) = false := by simp; omega
  by_cases h6 : v.here < 1368
  case pos =>
    have d6 : decide (v.here < 1368) = true := decide_eq_true h6
    rw [pD_no (fun h => by have := h.1.2.2.2.1; omega)]
    refine goF Tryz.func49 (closedL_cons (closedV v) closedL_nil) (fun w0 st0 => ?_)
    dsimp only [frOf]
    (repeat' (first | refine goA ?_ | refine cX c1 ?_ | refine cX c2 ?_ | refine cX c3 ?_ | refine cX c4 ?_ | refine goB ?_ | fail))
    exact awp_ret ⟨_, ResL.cons (ResA.tmp (.val _)) .nil, rfl⟩
  have d6 : decide (v.here < 1368) = false := decide_eq_false h6
  by_cases h7 : v.cf.mem < v.here
  case pos =>
    have d7 : decide (v.cf.mem < v.here) = true := decide_eq_true h7
    rw [pD_no (fun h => by have := h.1.2.2.2.2; omega)]
    refine goF Tryz.func49 (closedL_cons (closedV v) closedL_nil) (fun w0 st0 => ?_)
    dsimp only [frOf]
    (repeat' (first | refine goA ?_ | refine cX c1 ?_ | refine cX c2 ?_ | refine cX c3 ?_ | refine cX c4 ?_ | refine goB ?_ | fail))
    exact awp_ret ⟨_, ResL.cons (ResA.tmp (.val _)) .nil, rfl⟩
  have d7 : decide (v.cf.mem < v.here) = false := decide_eq_false h7
  have hroom : RoomP v := ⟨h1, h2, h5, by omega, by omega⟩
  refine goF Tryz.func49 (closedL_cons (closedV v) closedL_nil) (fun w0 st0 => ?_)
  dsimp only [frOf]
  (repeat' (first | refine goA ?_ | refine cX c1 ?_ | refine cX c2 ?_ | refine cX c3 ?_ | refine cX c4 ?_ | refine goB ?_ | fail))
  clear c1 c2 c3 c4 d5 d6 d7
  refine awp_loopT (T := Nat × Nat) (fun t => ⟨[(7, .val (.int .i64 (t.1 : Nat))), (1, .ptr 1 0 0 0)], [(1, some ⟨0, 23, [encV v]⟩)], t.2⟩) (fun t => t.1 ≤ v.f.length ∧ ∀ x, x ∈ v.f.take t.1 → FrOk x) (fun t => v.f.length - t.1) (0, _) ⟨Nat.zero_le _, fun w h => by cases h⟩ ⟨⟨rfl, rfl, trivial⟩, ⟨rfl, trivial⟩, Nat.le_refl _⟩ (fun t ht => ?_)
  obtain ⟨i, gc⟩ := t
  obtain ⟨hi, hA⟩ := ht
  have hfl := hv.fl
  dsimp only at hi hA ⊢
  by_cases hlt : i < v.f.length
  · have hc : decide (((i : Nat) : Int) < ((v.f.map encFr).length : Nat)) = true := decide_eq_true (by omega)
    have hp : v.f[i]? = some v.f[i] := List.getElem?_eq_getElem hlt
    have hm : v.f[i] ∈ v.f := List.getElem_mem hlt
    generalize v.f[i] = x at hp hm
    have bad : ¬ FrOk x → pD (RightV v) = false := fun hn => pD_no (fun h => hn (h.2.1.2.2.1 x hm))
    by_cases k1 : x.d < 0
    · have d1 : decide (x.d < 0) = true := decide_eq_true k1
      rw [bad (fun h => by have := h.1.1; omega)]
      (repeat' (first | refine goA ?_ | refine ARun.indexAddr rfl rfl (by omega) (by first | with_reducible exact get_map hp | with_reducible exact get_map hp) rfl rfl rfl rfl rfl (guardF_spec rfl) ?_ | refine goB ?_ | fail))
      exact awp_ret ⟨_, ResL.cons (ResA.tmp (.val _)) .nil, rfl⟩
    have d1 : decide (x.d < 0) = false := decide_eq_false k1
    by_cases k2 : 256 < x.d
    · have d2 : decide (256 < x.d) = true := decide_eq_true k2
      rw [bad (fun h => by have := h.1.2; omega)]
      (repeat' (first | refine goA ?_ | refine ARun.indexAddr rfl rfl (by omega) (by first | with_reducible exact get_map hp | with_reducible exact get_map hp) rfl rfl rfl rfl rfl (guardF_spec rfl) ?_ | refine goB ?_ | fail))
      exact awp_ret ⟨_, ResL.cons (ResA.tmp (.val _)) .nil, rfl⟩
    have d2 : decide (256 < x.d) = false := decide_eq_false k2
    by_cases k3 : x.r < 0
    · have d3 : decide (x.r < 0) = true := decide_eq_true k3
      rw [bad (fun h => by have := h.2.1; omega)]
      (repeat' (first | refine goA ?_ | refine ARun.indexAddr rfl rfl (by omega) (by first | with_reducible exact get_map hp | with_reducible exact get_map hp) rfl rfl rfl rfl rfl (guardF_spec rfl) ?_ | refine goB ?_ | fail))
      exact awp_ret ⟨_, ResL.cons (ResA.tmp (.val _)) .nil, rfl⟩
    have d3 : decide (x.r < 0) = false := decide_eq_false k3
    by_cases k4 : 256 < x.r
    · have d4 : decide (256 < x.r) = true := decide_eq_true k4
      rw [bad (fun h => by have := h.2.2; omega)]
      (repeat' (first | refine goA ?_ | refine ARun.indexAddr rfl rfl (by omega) (by first | with_reducible exact get_map hp | with_reducible exact get_map hp) rfl rfl rfl rfl rfl (guardF_spec rfl) ?_ | refine goB ?_ | fail))
      exact awp_ret ⟨_, ResL.cons (ResA.tmp (.val _)) .nil, rfl⟩
    have d4 : decide (256 < x.r) = false := decide_eq_false k4
    (repeat' (first | refine goA ?_ | refine ARun.indexAddr rfl rfl (by omega) (by first | with_reducible exact get_map hp | with_reducible exact get_map hp) rfl rfl rfl rfl rfl (guardF_spec rfl) ?_ | refine goB ?_ | fail))
    exact ⟨(i + 1, _), ⟨⟨succI i, rfl, trivial⟩, ⟨rfl, trivial⟩, Nat.le_refl _⟩, ⟨hlt, mem_snocG hp hA ⟨⟨by omega, by omega⟩, by omega, by omega⟩⟩, (by dsimp only; omega)⟩
  have hii : i = v.f.length := by omega
  subst hii
  have hc : decide (((v.f.length : Nat) : Int) < ((v.f.map encFr).length : Nat)) = false := decide_eq_false (by omega)
  rw [List.take_length] at hA
  (repeat' (first | refine goA ?_ | refine goB ?_ | fail))
  clear hc
  refine awp_loopT (T := Nat × Nat) (fun t => ⟨[(8, .val (.int .i64 (t.1 : Nat))), (1, .ptr 1 0 0 0)], [(1, some ⟨0, 23, [encV v]⟩)], t.2⟩) (fun t => t.1 ≤ v.hand.length ∧ ∀ x, x ∈ v.hand.take t.1 → 0 ≤ x.fuel) (fun t => v.hand.length - t.1) (0, _) ⟨Nat.zero_le _, fun w h => by cases h⟩ ⟨⟨rfl, rfl, trivial⟩, ⟨rfl, trivial⟩, Nat.le_refl _⟩ (fun t ht => ?_)
  obtain ⟨j, gc⟩ := t
  obtain ⟨hj, hB⟩ := ht
  have hhl := hv.hl
  dsimp only at hj hB ⊢
  by_cases hlt : j < v.hand.length
  · have hc : decide (((j : Nat) : Int) < ((v.hand.map encHn).length : Nat)) = true := decide_eq_true (by omega)
    have hp : v.hand[j]? = some v.hand[j] := List.getElem?_eq_getElem hlt
    have hm : v.hand[j] ∈ v.hand := List.getElem_mem hlt
    generalize v.hand[j] = x at hp hm
    by_cases k1 : x.fuel < 0
    · have d1 : decide (x.fuel < 0) = true := decide_eq_true k1
      rw [pD_no (fun h => by have := h.2.2.2.2.2.2.1 x hm; omega)]
      (repeat' (first | refine goA ?_ | refine ARun.indexAddr rfl rfl (by omega) (by first | with_reducible exact get_map hp | with_reducible exact get_map hp) rfl rfl rfl rfl rfl (guardF_spec rfl) ?_ | refine goB ?_ | fail))
      exact awp_ret ⟨_, ResL.cons (ResA.tmp (.val _)) .nil, rfl⟩
    have d1 : decide (x.fuel < 0) = false := decide_eq_false k1
    (repeat' (first | refine goA ?_ | refine ARun.indexAddr rfl rfl (by omega) (by first | with_reducible exact get_map hp | with_reducible exact get_map hp) rfl rfl rfl rfl rfl (guardF_spec rfl) ?_ | refine goB ?_ | fail))
    exact ⟨(j + 1, _), ⟨⟨succI j, rfl, trivial⟩, ⟨rfl, trivial⟩, Nat.le_refl _⟩, ⟨hlt, mem_snocG hp hB (by omega)⟩, (by dsimp only; omega)⟩
  have hjj : j = v.hand.length := by omega
  subst hjj
  have hc : decide (((v.hand.length : Nat) : Int) < ((v.hand.map encHn).length : Nat)) = false := decide_eq_false (by omega)
  rw [List.take_length] at hB
  have fin : Sizes v → RightV v := fun h => h.right hroom h3 h4 hA hB
  clear hroom h1 h2 h3 h4 hA hB h5 h6 h7 hv
  (repeat' (first | refine goA ?_ | refine goB ?_ | ((fail_if_success refine ARun.plain rfl ?_); refine ARun.fork rfl rfl rfl (fun h => ?_) (fun h => ?_)) | refine awp_cond rfl (fun h => ?_) (fun h => ?_)))
  all_goals
    refine awp_ret ⟨_, ResL.cons (ResA.tmp (.val _)) .nil, congrArg (fun b => AV.val (.bool b)) ?_⟩
    simp only [decide_eq_true_eq, decide_eq_false_iff_not] at *
    first
      | exact pD_no (fun h => by
          have := h.sizes
          obtain ⟨s1, s2, s3, s4, s5, s6, s7, s8, s9, s10, s11⟩ := this
          omega)
      | (by_cases h9 : v.hand.length ≤ 64
         · rw [pD_yes (fin ⟨by omega, by omega, by omega, by omega, by omega, by omega, by omega, by omega, by omega, by omega, h9⟩), decide_eq_true (by omega)]
         · rw [pD_no (fun h => h9 h.sizes.s11), decide_eq_false (by omega)])
end Go.Proofs.YthlbcakjngcjbaaGreat
namespace Go.Proofs.YthlbcakjngcjbaaGreat
open Go Go.RowKit
open Dict (St Bs bs_eq Wd encW encWs closed_ws)
open Mem (Mm encM encBs closed_bs encP encP_closed)
open Stk (encS closed_s)
set_option maxRecDepth 100000
theorem dec_pD (p : Prop) [Decidable p] : decide p = pD p := by
 by_cases h : p
 ·rw [pD_yes h, decide_eq_true h]
 ·rw [pD_no h, decide_eq_false h]
theorem sameFr_pD (a b : List Fr) : sameFr a b = pD (a = b) := by
 by_cases h : a = b
 ·rw [pD_yes h, sameFr_iff.2 h]
 ·rw [pD_no h, sameFr_no h]
theorem sameRq_pD (a b : List Rq) : sameRq a b = pD (a = b) := by
 by_cases h : a = b
 ·rw [pD_yes h, sameRq_iff.2 h]
 ·rw [pD_no h, sameRq_no h]
theorem sameHn_pD (a b : List Hn) : sameHn a b = pD (a = b) := by
 by_cases h : a = b
 ·rw [pD_yes h, sameHn_iff.2 h]
 ·rw [pD_no h, sameHn_no h]
theorem sameW_pD (a b : List Wd) : Dict.sameW a b = pD (a = b) := by
 by_cases h : a = b
 ·rw [pD_yes h, Dict.sameW_iff.2 h]
 ·rw [pD_no h, Dict.sameW_no h]
theorem sameM_pD (a b : Mm) : Mem.sameM a b = pD (a = b) := by
 have e : Mem.SameM a b ↔ a = b := by
  constructor
  ·intro h
   cases a
   cases b
   simp only [Mem.SameM] at h
   rw [h.1, h.2]
  ·intro h
   rw [h]
   exact ⟨rfl, rfl⟩
 by_cases h : a = b
 ·rw [pD_yes h, Mem.sameM_yes (e.2 h)]
 ·rw [pD_no h, Mem.sameM_no (fun q => h (e.1 q))]
theorem flatC : flatOf Tryz.prog 23 = some [0, 0, 0, 0, 0] := by kernel_rfl
theorem confEq (a b : Cf) : ((a.mem == b.mem) && ((a.data == b.data) && ((a.ret == b.ret) && ((a.words == b.words) && ((a.out == b.out) && true))))) = pD (a = b) := by
 rw [Bool.eq_iff_iff, pD_iff]
 cases a
 cases b
 rw [Cf.mk.injEq]
 simp only [Bool.and_eq_true, beq_iff_eq, and_true]
theorem V.ext' {a b : V} (h1 : a.cf = b.cf) (h2 : a.m = b.m) (h3 : a.here = b.here) (h4 : a.d = b.d) (h5 : a.r = b.r) (h6 : a.f = b.f) (h7 : a.dict = b.dict) (h8 : a.last = b.last) (h9 : a.out = b.out) (h10 : a.po = b.po ∧ a.pb = b.pb) (h11 : a.req = b.req) (h12 : a.free = b.free) (h13 : a.next = b.next) (h14 : a.arg = b.arg) (h15 : a.self = b.self) (h16 : a.now = b.now) (h17 : a.hand = b.hand) : a = b := by
 cases a
 cases b
 simp only at h1 h2 h3 h4 h5 h6 h7 h8 h9 h10 h11 h12 h13 h14 h15 h16 h17
 obtain ⟨h10, h10'⟩ := h10
 subst h1 h2 h3 h4 h5 h6 h7 h8 h9 h10 h10' h11 h12 h13 h14 h15 h16 h17
 rfl
attribute [local irreducible] Decidable.decide awp ARun regK toK
set_option maxHeartbeats 16000000 in
theorem same_c (a b : V) (ha : Held a) (hb : Held b) : FnC Tryz.prog 52 [.agg (encV a), .agg (encV b)] (.val (.bool (pD (a = b)))) := by
 have c2 := Mem.same_c a.m b.m ha.mo hb.mo
 rw [sameM_pD] at c2
 have c4 := eqI_c a.d b.d ha.dl
 have c5 := eqI_c a.r b.r ha.rl
 rw [dec_pD] at c4 c5
 have c6 := eqFr_c a.f b.f ha.fl
 rw [sameFr_pD] at c6
 have c7 := Dict.same_c a.dict b.dict ha.wl
 rw [sameW_pD] at c7
 have c9 := Mem.bequal_c a.out b.out
 rw [dec_pD] at c9
 have c10 := pic_same_c a.pb b.pb a.po b.po
 have c11 := eqRq_c a.req b.req ha.ql
 rw [sameRq_pD] at c11
 have c17 := eqHn_c a.hand b.hand ha.hl
 rw [sameHn_pD] at c17
 generalize hb1 : pD ((a.cf = b.cf) ∧ (a.m = b.m) ∧ (a.here = b.here) ∧ (a.d = b.d) ∧ (a.r = b.r) ∧ (a.f = b.f)) = b1
 generalize hb2 : pD ((a.dict = b.dict) ∧ (a.last = b.last) ∧ (a.out = b.out) ∧ (a.po = b.po ∧ a.pb = b.pb)) = b2
 generalize hb3 : pD ((a.req = b.req) ∧ (a.free = b.free) ∧ (a.next = b.next)) = b3
 have split : a = b → ((a.cf = b.cf) ∧ (a.m = b.m) ∧ (a.here = b.here) ∧ (a.d = b.d) ∧ (a.r = b.r) ∧ (a.f = b.f)) ∧ ((a.dict = b.dict) ∧ (a.last = b.last) ∧ (a.out = b.out) ∧ (a.po = b.po ∧ a.pb = b.pb)) ∧ ((a.req = b.req) ∧ (a.free = b.free) ∧ (a.next = b.next)) ∧ (a.arg = b.arg) ∧ (a.self = b.self) ∧ (a.now = b.now) ∧ (a.hand = b.hand) := fun h => by
  subst h
  simp
 have join : ((a.cf = b.cf) ∧ (a.m = b.m) ∧ (a.here = b.here) ∧ (a.d = b.d) ∧ (a.r = b.r) ∧ (a.f = b.f)) → ((a.dict = b.dict) ∧ (a.last = b.last) ∧ (a.out = b.out) ∧ (a.po = b.po ∧ a.pb = b.pb)) → ((a.req = b.req) ∧ (a.free = b.free) ∧ (a.next = b.next)) → ((a.arg = b.arg) ∧ (a.self = b.self) ∧ (a.now = b.now) ∧ (a.hand = b.hand)) → a = b := fun p1 p2 p3 p4 =>
  V.ext' p1.1 p1.2.1 p1.2.2.1 p1.2.2.2.1 p1.2.2.2.2.1 p1.2.2.2.2.2 p2.1 p2.2.1 p2.2.2.1 p2.2.2.2 p3.1 p3.2.1 p3.2.2 p4.1 p4.2.1 p4.2.2.1 p4.2.2.2
 clear ha hb
 refine goF Tryz.func52 (closedL_cons (closedV a) (closedL_cons (closedV b) closedL_nil)) (fun w0 st0 => ?_)
 dsimp only [frOf]
 (repeat' (first | refine goN ?_ | refine awp_region_ne 1 rfl (fun _ => hmix) ?_ | refine ARun.o rfl ?_ | refine goB ?_ | ((fail_if_success refine ARun.plain rfl ?_); refine ARun.fork rfl rfl rfl (fun h => ?_) (fun h => ?_)) | refine awp_cond rfl (fun h => ?_) (fun h => ?_)))
 refine awp_cut (T := Nat) (fun t => ⟨[(2, .ptr 2 0 0 0), (3, .ptr 3 1 0 0), (5, .val (.bool b1))], [(2, some ⟨0, 23, [encV a]⟩), (3, some ⟨1, 23, [encV b]⟩)], t⟩) (fun _ => True) ?_ (fun t1 _ => ?_)
 ·clear hb2 hb3 split join
  by_cases hq : a.cf = b.cf
  case neg =>
   obtain rfl : b1 = false := hb1.symm.trans (pD_no (fun h => hq h.1))
   have dcf : ((a.cf.mem == b.cf.mem) && ((a.cf.data == b.cf.data) && ((a.cf.ret == b.cf.ret) && ((a.cf.words == b.cf.words) && ((a.cf.out == b.cf.out) && true))))) = false := (confEq _ _).trans (pD_no hq)
   (repeat' (first | refine goA ?_ | refine cX c2 ?_ | refine cX c4 ?_ | refine cX c5 ?_ | refine cX c6 ?_ | refine cX c7 ?_ | refine cX c9 ?_ | refine cX c10 ?_ | refine cX c11 ?_ | refine cX c17 ?_ | refine eqX flatC rfl rfl rfl rfl rfl ?_ | refine goB ?_ | fail))
   exact ⟨_, ⟨⟨rfl, rfl, rfl, trivial⟩, ⟨rfl, rfl, trivial⟩, Nat.le_refl _⟩, trivial⟩
  have dcf : ((a.cf.mem == b.cf.mem) && ((a.cf.data == b.cf.data) && ((a.cf.ret == b.cf.ret) && ((a.cf.words == b.cf.words) && ((a.cf.out == b.cf.out) && true))))) = true := (confEq _ _).trans (pD_yes hq)
  have hcf := hq
  clear hq
  by_cases hq : a.m = b.m
  case neg =>
   obtain rfl : b1 = false := hb1.symm.trans (pD_no (fun h => hq h.2.1))
   rw [pD_no hq] at c2
   (repeat' (first | refine goA ?_ | refine cX c2 ?_ | refine cX c4 ?_ | refine cX c5 ?_ | refine cX c6 ?_ | refine cX c7 ?_ | refine cX c9 ?_ | refine cX c10 ?_ | refine cX c11 ?_ | refine cX c17 ?_ | refine eqX flatC rfl rfl rfl rfl rfl ?_ | refine goB ?_ | fail))
   exact ⟨_, ⟨⟨rfl, rfl, rfl, trivial⟩, ⟨rfl, rfl, trivial⟩, Nat.le_refl _⟩, trivial⟩
  rw [pD_yes hq] at c2
  have hm := hq
  clear hq
  by_cases hq : a.here = b.here
  case neg =>
   obtain rfl : b1 = false := hb1.symm.trans (pD_no (fun h => hq h.2.2.1))
   have dhere : (a.here == b.here) = false := beq_eq_false_iff_ne.2 hq
   (repeat' (first | refine goA ?_ | refine cX c2 ?_ | refine cX c4 ?_ | refine cX c5 ?_ | refine cX c6 ?_ | refine cX c7 ?_ | refine cX c9 ?_ | refine cX c10 ?_ | refine cX c11 ?_ | refine cX c17 ?_ | refine eqX flatC rfl rfl rfl rfl rfl ?_ | refine goB ?_ | fail))
   exact ⟨_, ⟨⟨rfl, rfl, rfl, trivial⟩, ⟨rfl, rfl, trivial⟩, Nat.le_refl _⟩, trivial⟩
  have dhere : (a.here == b.here) = true := beq_iff_eq.2 hq
  have hhere := hq
  clear hq
  by_cases hq : a.d = b.d
  case neg =>
   obtain rfl : b1 = false := hb1.symm.trans (pD_no (fun h => hq h.2.2.2.1))
   rw [pD_no hq] at c4
   (repeat' (first | refine goA ?_ | refine cX c2 ?_ | refine cX c4 ?_ | refine cX c5 ?_ | refine cX c6 ?_ | refine cX c7 ?_ | refine cX c9 ?_ | refine cX c10 ?_ | refine cX c11 ?_ | refine cX c17 ?_ | refine eqX flatC rfl rfl rfl rfl rfl ?_ | refine goB ?_ | fail))
   exact ⟨_, ⟨⟨rfl, rfl, rfl, trivial⟩, ⟨rfl, rfl, trivial⟩, Nat.le_refl _⟩, trivial⟩
  rw [pD_yes hq] at c4
  have hd := hq
  clear hq
  by_cases hq : a.r = b.r
  case neg =>
   obtain rfl : b1 = false := hb1.symm.trans (pD_no (fun h => hq h.2.2.2.2.1))
   rw [pD_no hq] at c5
   (repeat' (first | refine goA ?_ | refine cX c2 ?_ | refine cX c4 ?_ | refine cX c5 ?_ | refine cX c6 ?_ | refine cX c7 ?_ | refine cX c9 ?_ | refine cX c10 ?_ | refine cX c11 ?_ | refine cX c17 ?_ | refine eqX flatC rfl rfl rfl rfl rfl ?_ | refine goB ?_ | fail))
   exact ⟨_, ⟨⟨rfl, rfl, rfl, trivial⟩, ⟨rfl, rfl, trivial⟩, Nat.le_refl _⟩, trivial⟩
  rw [pD_yes hq] at c5
  have hr := hq
  clear hq
  by_cases hq : a.f = b.f
  case neg =>
   obtain rfl : b1 = false := hb1.symm.trans (pD_no (fun h => hq h.2.2.2.2.2))
   rw [pD_no hq] at c6
   (repeat' (first | refine goA ?_ | refine cX c2 ?_ | refine cX c4 ?_ | refine cX c5 ?_ | refine cX c6 ?_ | refine cX c7 ?_ | refine cX c9 ?_ | refine cX c10 ?_ | refine cX c11 ?_ | refine cX c17 ?_ | refine eqX flatC rfl rfl rfl rfl rfl ?_ | refine goB ?_ | fail))
   exact ⟨_, ⟨⟨rfl, rfl, rfl, trivial⟩, ⟨rfl, rfl, trivial⟩, Nat.le_refl _⟩, trivial⟩
  rw [pD_yes hq] at c6
  have hf := hq
  clear hq
  obtain rfl : b1 = true := hb1.symm.trans (pD_yes ⟨hcf, hm, hhere, hd, hr, hf⟩)
  (repeat' (first | refine goA ?_ | refine cX c2 ?_ | refine cX c4 ?_ | refine cX c5 ?_ | refine cX c6 ?_ | refine cX c7 ?_ | refine cX c9 ?_ | refine cX c10 ?_ | refine cX c11 ?_ | refine cX c17 ?_ | refine eqX flatC rfl rfl rfl rfl rfl ?_ | refine goB ?_ | fail))
  exact ⟨_, ⟨⟨rfl, rfl, rfl, trivial⟩, ⟨rfl, rfl, trivial⟩, Nat.le_refl _⟩, trivial⟩
 refine awp_seq ?_
 refine awp_cut (T := Nat) (fun t => ⟨[(2, .ptr 2 0 0 0), (3, .ptr 3 1 0 0), (5, .val (.bool b1)), (6, .val (.bool b2))], [(2, some ⟨0, 23, [encV a]⟩), (3, some ⟨1, 23, [encV b]⟩)], t⟩) (fun _ => True) ?_ (fun t2 _ => ?_)
 ·clear hb1 hb3 split join
  by_cases hq : a.dict = b.dict
  case neg =>
   obtain rfl : b2 = false := hb2.symm.trans (pD_no (fun h => hq h.1))
   rw [pD_no hq] at c7
   (repeat' (first | refine goA ?_ | refine cX c2 ?_ | refine cX c4 ?_ | refine cX c5 ?_ | refine cX c6 ?_ | refine cX c7 ?_ | refine cX c9 ?_ | refine cX c10 ?_ | refine cX c11 ?_ | refine cX c17 ?_ | refine eqX flatC rfl rfl rfl rfl rfl ?_ | refine goB ?_ | fail))
   exact ⟨_, ⟨⟨rfl, rfl, rfl, rfl, trivial⟩, ⟨rfl, rfl, trivial⟩, Nat.le_refl _⟩, trivial⟩
  rw [pD_yes hq] at c7
  have hdict := hq
  clear hq
  by_cases hq : a.last = b.last
  case neg =>
   obtain rfl : b2 = false := hb2.symm.trans (pD_no (fun h => hq h.2.1))
   have dlast : (a.last == b.last) = false := beq_eq_false_iff_ne.2 hq
   (repeat' (first | refine goA ?_ | refine cX c2 ?_ | refine cX c4 ?_ | refine cX c5 ?_ | refine cX c6 ?_ | refine cX c7 ?_ | refine cX c9 ?_ | refine cX c10 ?_ | refine cX c11 ?_ | refine cX c17 ?_ | refine eqX flatC rfl rfl rfl rfl rfl ?_ | refine goB ?_ | fail))
   exact ⟨_, ⟨⟨rfl, rfl, rfl, rfl, trivial⟩, ⟨rfl, rfl, trivial⟩, Nat.le_refl _⟩, trivial⟩
  have dlast : (a.last == b.last) = true := beq_iff_eq.2 hq
  have hlast := hq
  clear hq
  by_cases hq : a.out = b.out
  case neg =>
   obtain rfl : b2 = false := hb2.symm.trans (pD_no (fun h => hq h.2.2.1))
   rw [pD_no hq] at c9
   (repeat' (first | refine goA ?_ | refine cX c2 ?_ | refine cX c4 ?_ | refine cX c5 ?_ | refine cX c6 ?_ | refine cX c7 ?_ | refine cX c9 ?_ | refine cX c10 ?_ | refine cX c11 ?_ | refine cX c17 ?_ | refine eqX flatC rfl rfl rfl rfl rfl ?_ | refine goB ?_ | fail))
   exact ⟨_, ⟨⟨rfl, rfl, rfl, rfl, trivial⟩, ⟨rfl, rfl, trivial⟩, Nat.le_refl _⟩, trivial⟩
  rw [pD_yes hq] at c9
  have hout := hq
  clear hq
  by_cases hq : a.po = b.po ∧ a.pb = b.pb
  case neg =>
   obtain rfl : b2 = false := hb2.symm.trans (pD_no (fun h => hq h.2.2.2))
   rw [pD_no hq] at c10
   (repeat' (first | refine goA ?_ | refine cX c2 ?_ | refine cX c4 ?_ | refine cX c5 ?_ | refine cX c6 ?_ | refine cX c7 ?_ | refine cX c9 ?_ | refine cX c10 ?_ | refine cX c11 ?_ | refine cX c17 ?_ | refine eqX flatC rfl rfl rfl rfl rfl ?_ | refine goB ?_ | fail))
   exact ⟨_, ⟨⟨rfl, rfl, rfl, rfl, trivial⟩, ⟨rfl, rfl, trivial⟩, Nat.le_refl _⟩, trivial⟩
  rw [pD_yes hq] at c10
  have hpic := hq
  clear hq
  obtain rfl : b2 = true := hb2.symm.trans (pD_yes ⟨hdict, hlast, hout, hpic⟩)
  (repeat' (first | refine goA ?_ | refine cX c2 ?_ | refine cX c4 ?_ | refine cX c5 ?_ | refine cX c6 ?_ | refine cX c7 ?_ | refine cX c9 ?_ | refine cX c10 ?_ | refine cX c11 ?_ | refine cX c17 ?_ | refine eqX flatC rfl rfl rfl rfl rfl ?_ | refine goB ?_ | fail))
  exact ⟨_, ⟨⟨rfl, rfl, rfl, rfl, trivial⟩, ⟨rfl, rfl, trivial⟩, Nat.le_refl _⟩, trivial⟩
 refine awp_seq ?_
 refine awp_cut (T := Nat) (fun t => ⟨[(2, .ptr 2 0 0 0), (3, .ptr 3 1 0 0), (5, .val (.bool b1)), (6, .val (.bool b2)), (7, .val (.bool b3))], [(2, some ⟨0, 23, [encV a]⟩), (3, some ⟨1, 23, [encV b]⟩)], t⟩) (fun _ => True) ?_ (fun t3 _ => ?_)
 ·clear hb1 hb2 split join
  by_cases hq : a.req = b.req
  case neg =>
   obtain rfl : b3 = false := hb3.symm.trans (pD_no (fun h => hq h.1))
   rw [pD_no hq] at c11
   (repeat' (first | refine goA ?_ | refine cX c2 ?_ | refine cX c4 ?_ | refine cX c5 ?_ | refine cX c6 ?_ | refine cX c7 ?_ | refine cX c9 ?_ | refine cX c10 ?_ | refine cX c11 ?_ | refine cX c17 ?_ | refine eqX flatC rfl rfl rfl rfl rfl ?_ | refine goB ?_ | fail))
   exact ⟨_, ⟨⟨rfl, rfl, rfl, rfl, rfl, trivial⟩, ⟨rfl, rfl, trivial⟩, Nat.le_refl _⟩, trivial⟩
  rw [pD_yes hq] at c11
  have hreq := hq
  clear hq
  by_cases hq : a.free = b.free
  case neg =>
   obtain rfl : b3 = false := hb3.symm.trans (pD_no (fun h => hq h.2.1))
   have dfree : (a.free == b.free) = false := beq_eq_false_iff_ne.2 hq
   (repeat' (first | refine goA ?_ | refine cX c2 ?_ | refine cX c4 ?_ | refine cX c5 ?_ | refine cX c6 ?_ | refine cX c7 ?_ | refine cX c9 ?_ | refine cX c10 ?_ | refine cX c11 ?_ | refine cX c17 ?_ | refine eqX flatC rfl rfl rfl rfl rfl ?_ | refine goB ?_ | fail))
   exact ⟨_, ⟨⟨rfl, rfl, rfl, rfl, rfl, trivial⟩, ⟨rfl, rfl, trivial⟩, Nat.le_refl _⟩, trivial⟩
  have dfree : (a.free == b.free) = true := beq_iff_eq.2 hq
  have hfree := hq
  clear hq
  by_cases hq : a.next = b.next
  case neg =>
   obtain rfl : b3 = false := hb3.symm.trans (pD_no (fun h => hq h.2.2))
   have dnext : (a.next == b.next) = false := beq_eq_false_iff_ne.2 hq
   (repeat' (first | refine goA ?_ | refine cX c2 ?_ | refine cX c4 ?_ | refine cX c5 ?_ | refine cX c6 ?_ | refine cX c7 ?_ | refine cX c9 ?_ | refine cX c10 ?_ | refine cX c11 ?_ | refine cX c17 ?_ | refine eqX flatC rfl rfl rfl rfl rfl ?_ | refine goB ?_ | fail))
   exact ⟨_, ⟨⟨rfl, rfl, rfl, rfl, congrArg (fun x => AV.val (.bool x)) dnext, trivial⟩, ⟨rfl, rfl, trivial⟩, Nat.le_refl _⟩, trivial⟩
  have dnext : (a.next == b.next) = true := beq_iff_eq.2 hq
  have hnext := hq
  clear hq
  obtain rfl : b3 = true := hb3.symm.trans (pD_yes ⟨hreq, hfree, hnext⟩)
  (repeat' (first | refine goA ?_ | refine cX c2 ?_ | refine cX c4 ?_ | refine cX c5 ?_ | refine cX c6 ?_ | refine cX c7 ?_ | refine cX c9 ?_ | refine cX c10 ?_ | refine cX c11 ?_ | refine cX c17 ?_ | refine eqX flatC rfl rfl rfl rfl rfl ?_ | refine goB ?_ | fail))
  exact ⟨_, ⟨⟨rfl, rfl, rfl, rfl, congrArg (fun x => AV.val (.bool x)) dnext, trivial⟩, ⟨rfl, rfl, trivial⟩, Nat.le_refl _⟩, trivial⟩
 cases b1 with
 | false =>
  rw [pD_no (fun h => by have := pD_yes (split h).1; rw [hb1] at this; cases this)]
  (repeat' (first | refine goA ?_ | refine goB ?_ | fail))
  exact awp_ret ⟨_, ResL.cons (ResA.tmp (.val _)) .nil, rfl⟩
 | true =>
 cases b2 with
 | false =>
  rw [pD_no (fun h => by have := pD_yes (split h).2.1; rw [hb2] at this; cases this)]
  (repeat' (first | refine goA ?_ | refine goB ?_ | fail))
  exact awp_ret ⟨_, ResL.cons (ResA.tmp (.val _)) .nil, rfl⟩
 | true =>
 cases b3 with
 | false =>
  rw [pD_no (fun h => by have := pD_yes (split h).2.2.1; rw [hb3] at this; cases this)]
  (repeat' (first | refine goA ?_ | refine goB ?_ | fail))
  exact awp_ret ⟨_, ResL.cons (ResA.tmp (.val _)) .nil, rfl⟩
 | true =>
 have p1 := pD_iff.1 hb1
 have p2 := pD_iff.1 hb2
 have p3 := pD_iff.1 hb3
 by_cases hq : a.arg = b.arg
 case neg =>
  rw [pD_no (fun h => hq (split h).2.2.2.1)]
  have darg : (a.arg == b.arg) = false := beq_eq_false_iff_ne.2 hq
  (repeat' (first | refine goA ?_ | refine cX c2 ?_ | refine cX c4 ?_ | refine cX c5 ?_ | refine cX c6 ?_ | refine cX c7 ?_ | refine cX c9 ?_ | refine cX c10 ?_ | refine cX c11 ?_ | refine cX c17 ?_ | refine eqX flatC rfl rfl rfl rfl rfl ?_ | refine goB ?_ | fail))
  exact awp_ret ⟨_, ResL.cons (ResA.tmp (.val _)) .nil, rfl⟩
 have darg : (a.arg == b.arg) = true := beq_iff_eq.2 hq
 have harg := hq
 clear hq
 by_cases hq : a.self = b.self
 case neg =>
  rw [pD_no (fun h => hq (split h).2.2.2.2.1)]
  have dself : (a.self == b.self) = false := beq_eq_false_iff_ne.2 hq
  (repeat' (first | refine goA ?_ | refine cX c2 ?_ | refine cX c4 ?_ | refine cX c5 ?_ | refine cX c6 ?_ | refine cX c7 ?_ | refine cX c9 ?_ | refine cX c10 ?_ | refine cX c11 ?_ | refine cX c17 ?_ | refine eqX flatC rfl rfl rfl rfl rfl ?_ | refine goB ?_ | fail))
  exact awp_ret ⟨_, ResL.cons (ResA.tmp (.val _)) .nil, rfl⟩
 have dself : (a.self == b.self) = true := beq_iff_eq.2 hq
 have hself := hq
 clear hq
 by_cases hq : a.now = b.now
 case neg =>
  rw [pD_no (fun h => hq (split h).2.2.2.2.2.1)]
  have dnow : (a.now == b.now) = false := beq_eq_false_iff_ne.2 hq
  (repeat' (first | refine goA ?_ | refine cX c2 ?_ | refine cX c4 ?_ | refine cX c5 ?_ | refine cX c6 ?_ | refine cX c7 ?_ | refine cX c9 ?_ | refine cX c10 ?_ | refine cX c11 ?_ | refine cX c17 ?_ | refine eqX flatC rfl rfl rfl rfl rfl ?_ | refine goB ?_ | fail))
  exact awp_ret ⟨_, ResL.cons (ResA.tmp (.val _)) .nil, rfl⟩
 have dnow : (a.now == b.now) = true := beq_iff_eq.2 hq
 have hnow := hq
 clear hq
 by_cases hq : a.hand = b.hand
 case neg =>
  rw [pD_no (fun h => hq (split h).2.2.2.2.2.2)]
  rw [pD_no hq] at c17
  (repeat' (first | refine goA ?_ | refine cX c2 ?_ | refine cX c4 ?_ | refine cX c5 ?_ | refine cX c6 ?_ | refine cX c7 ?_ | refine cX c9 ?_ | refine cX c10 ?_ | refine cX c11 ?_ | refine cX c17 ?_ | refine eqX flatC rfl rfl rfl rfl rfl ?_ | refine goB ?_ | fail))
  exact awp_ret ⟨_, ResL.cons (ResA.tmp (.val _)) .nil, rfl⟩
 rw [pD_yes hq] at c17
 have hhand := hq
 clear hq
 rw [pD_yes (join p1 p2 p3 ⟨harg, hself, hnow, hhand⟩)]
 (repeat' (first | refine goA ?_ | refine cX c2 ?_ | refine cX c4 ?_ | refine cX c5 ?_ | refine cX c6 ?_ | refine cX c7 ?_ | refine cX c9 ?_ | refine cX c10 ?_ | refine cX c11 ?_ | refine cX c17 ?_ | refine eqX flatC rfl rfl rfl rfl rfl ?_ | refine goB ?_ | fail))
 exact awp_ret ⟨_, ResL.cons (ResA.tmp (.val _)) .nil, rfl⟩
set_option maxHeartbeats 16000000 in
theorem ref_same_c (a b : V) (ha : Held a) (hb : Held b) : FnC Tryz.prog 54 [.agg (encV a), .agg (encV b)] (.val (.bool (pD (a = b)))) := by
 have c2 := Mem.ref_same_c a.m b.m ha.mo hb.mo
 rw [sameM_pD] at c2
 have c4 := Stk.ref_same_c a.d b.d ha.dl hb.dl
 have c5 := Stk.ref_same_c a.r b.r ha.rl hb.rl
 unfold Stk.sameD at c4 c5
 rw [dec_pD] at c4 c5
 have c6 := ref_frames_c a.f b.f ha.fl
 rw [sameFr_pD] at c6
 have c7 := Dict.ref_same_c a.dict b.dict ha.wl
 rw [sameW_pD] at c7
 have c10 := ref_pic_same_c a.pb b.pb a.po b.po
 have c11 := ref_reqs_c a.req b.req ha.ql
 rw [sameRq_pD] at c11
 have c17 := ref_hands_c a.hand b.hand ha.hl
 rw [sameHn_pD] at c17
 clear ha hb
 by_cases hq : a.m = b.m
 case neg =>
  rw [pD_no (fun h => hq (by subst h; simp))]
  rw [pD_no hq] at c2
  refine goF Tryz.func54 (closedL_cons (closedV a) (closedL_cons (closedV b) closedL_nil)) (fun w0 st0 => ?_)
  dsimp only [frOf]
  (repeat' (first | refine goA ?_ | refine cX c2 ?_ | refine cX c4 ?_ | refine cX c5 ?_ | refine cX c6 ?_ | refine cX c7 ?_ | refine cX c10 ?_ | refine cX c11 ?_ | refine cX c17 ?_ | refine eqX flatC rfl rfl rfl rfl rfl ?_ | refine neX flatC rfl rfl rfl rfl rfl ?_ | refine ARun.bytesStr (by first | exact SrcA.sl rfl (.inr rfl) | exact SrcA.sl rfl (.inl rfl) | exact SrcA.ownW rfl rfl rfl rfl) rfl rfl rfl rfl rfl rfl rfl rfl (guardF_spec rfl) ?_ | refine goB ?_ | fail))
  exact awp_ret ⟨_, ResL.cons (ResA.tmp (.val _)) .nil, rfl⟩
 rw [pD_yes hq] at c2
 have hm := hq
 clear hq
 by_cases hq : a.d = b.d
 case neg =>
  rw [pD_no (fun h => hq (by subst h; simp))]
  rw [pD_no hq] at c4
  refine goF Tryz.func54 (closedL_cons (closedV a) (closedL_cons (closedV b) closedL_nil)) (fun w0 st0 => ?_)
  dsimp only [frOf]
  (repeat' (first | refine goA ?_ | refine cX c2 ?_ | refine cX c4 ?_ | refine cX c5 ?_ | refine cX c6 ?_ | refine cX c7 ?_ | refine cX c10 ?_ | refine cX c11 ?_ | refine cX c17 ?_ | refine eqX flatC rfl rfl rfl rfl rfl ?_ | refine neX flatC rfl rfl rfl rfl rfl ?_ | refine ARun.bytesStr (by first | exact SrcA.sl rfl (.inr rfl) | exact SrcA.sl rfl (.inl rfl) | exact SrcA.ownW rfl rfl rfl rfl) rfl rfl rfl rfl rfl rfl rfl rfl (guardF_spec rfl) ?_ | refine goB ?_ | fail))
  exact awp_ret ⟨_, ResL.cons (ResA.tmp (.val _)) .nil, rfl⟩
 rw [pD_yes hq] at c4
 have hd := hq
 clear hq
 by_cases hq : a.r = b.r
 case neg =>
  rw [pD_no (fun h => hq (by subst h; simp))]
  rw [pD_no hq] at c5
  refine goF Tryz.func54 (closedL_cons (closedV a) (closedL_cons (closedV b) closedL_nil)) (fun w0 st0 => ?_)
  dsimp only [frOf]
  (repeat' (first | refine goA ?_ | refine cX c2 ?_ | refine cX c4 ?_ | refine cX c5 ?_ | refine cX c6 ?_ | refine cX c7 ?_ | refine cX c10 ?_ | refine cX c11 ?_ | refine cX c17 ?_ | refine eqX flatC rfl rfl rfl rfl rfl ?_ | refine neX flatC rfl rfl rfl rfl rfl ?_ | refine ARun.bytesStr (by first | exact SrcA.sl rfl (.inr rfl) | exact SrcA.sl rfl (.inl rfl) | exact SrcA.ownW rfl rfl rfl rfl) rfl rfl rfl rfl rfl rfl rfl rfl (guardF_spec rfl) ?_ | refine goB ?_ | fail))
  exact awp_ret ⟨_, ResL.cons (ResA.tmp (.val _)) .nil, rfl⟩
 rw [pD_yes hq] at c5
 have hr := hq
 clear hq
 by_cases hq : a.f = b.f
 case neg =>
  rw [pD_no (fun h => hq (by subst h; simp))]
  rw [pD_no hq] at c6
  refine goF Tryz.func54 (closedL_cons (closedV a) (closedL_cons (closedV b) closedL_nil)) (fun w0 st0 => ?_)
  dsimp only [frOf]
  (repeat' (first | refine goA ?_ | refine cX c2 ?_ | refine cX c4 ?_ | refine cX c5 ?_ | refine cX c6 ?_ | refine cX c7 ?_ | refine cX c10 ?_ | refine cX c11 ?_ | refine cX c17 ?_ | refine eqX flatC rfl rfl rfl rfl rfl ?_ | refine neX flatC rfl rfl rfl rfl rfl ?_ | refine ARun.bytesStr (by first | exact SrcA.sl rfl (.inr rfl) | exact SrcA.sl rfl (.inl rfl) | exact SrcA.ownW rfl rfl rfl rfl) rfl rfl rfl rfl rfl rfl rfl rfl (guardF_spec rfl) ?_ | refine goB ?_ | fail))
  exact awp_ret ⟨_, ResL.cons (ResA.tmp (.val _)) .nil, rfl⟩
 rw [pD_yes hq] at c6
 have hf := hq
 clear hq
 by_cases hq : a.dict = b.dict
 case neg =>
  rw [pD_no (fun h => hq (by subst h; simp))]
  rw [pD_no hq] at c7
  refine goF Tryz.func54 (closedL_cons (closedV a) (closedL_cons (closedV b) closedL_nil)) (fun w0 st0 => ?_)
  dsimp only [frOf]
  (repeat' (first | refine goA ?_ | refine cX c2 ?_ | refine cX c4 ?_ | refine cX c5 ?_ | refine cX c6 ?_ | refine cX c7 ?_ | refine cX c10 ?_ | refine cX c11 ?_ | refine cX c17 ?_ | refine eqX flatC rfl rfl rfl rfl rfl ?_ | refine neX flatC rfl rfl rfl rfl rfl ?_ | refine ARun.bytesStr (by first | exact SrcA.sl rfl (.inr rfl) | exact SrcA.sl rfl (.inl rfl) | exact SrcA.ownW rfl rfl rfl rfl) rfl rfl rfl rfl rfl rfl rfl rfl (guardF_spec rfl) ?_ | refine goB ?_ | fail))
  exact awp_ret ⟨_, ResL.cons (ResA.tmp (.val _)) .nil, rfl⟩
 rw [pD_yes hq] at c7
 have hdict := hq
 clear hq
 by_cases hq : a.po = b.po ∧ a.pb = b.pb
 case neg =>
  rw [pD_no (fun h => hq (by subst h; simp))]
  rw [pD_no hq] at c10
  refine goF Tryz.func54 (closedL_cons (closedV a) (closedL_cons (closedV b) closedL_nil)) (fun w0 st0 => ?_)
  dsimp only [frOf]
  (repeat' (first | refine goA ?_ | refine cX c2 ?_ | refine cX c4 ?_ | refine cX c5 ?_ | refine cX c6 ?_ | refine cX c7 ?_ | refine cX c10 ?_ | refine cX c11 ?_ | refine cX c17 ?_ | refine eqX flatC rfl rfl rfl rfl rfl ?_ | refine neX flatC rfl rfl rfl rfl rfl ?_ | refine ARun.bytesStr (by first | exact SrcA.sl rfl (.inr rfl) | exact SrcA.sl rfl (.inl rfl) | exact SrcA.ownW rfl rfl rfl rfl) rfl rfl rfl rfl rfl rfl rfl rfl (guardF_spec rfl) ?_ | refine goB ?_ | fail))
  exact awp_ret ⟨_, ResL.cons (ResA.tmp (.val _)) .nil, rfl⟩
 rw [pD_yes hq] at c10
 have hpic := hq
 clear hq
 by_cases hq : a.req = b.req
 case neg =>
  rw [pD_no (fun h => hq (by subst h; simp))]
  rw [pD_no hq] at c11
  refine goF Tryz.func54 (closedL_cons (closedV a) (closedL_cons (closedV b) closedL_nil)) (fun w0 st0 => ?_)
  dsimp only [frOf]
  (repeat' (first | refine goA ?_ | refine cX c2 ?_ | refine cX c4 ?_ | refine cX c5 ?_ | refine cX c6 ?_ | refine cX c7 ?_ | refine cX c10 ?_ | refine cX c11 ?_ | refine cX c17 ?_ | refine eqX flatC rfl rfl rfl rfl rfl ?_ | refine neX flatC rfl rfl rfl rfl rfl ?_ | refine ARun.bytesStr (by first | exact SrcA.sl rfl (.inr rfl) | exact SrcA.sl rfl (.inl rfl) | exact SrcA.ownW rfl rfl rfl rfl) rfl rfl rfl rfl rfl rfl rfl rfl (guardF_spec rfl) ?_ | refine goB ?_ | fail))
  exact awp_ret ⟨_, ResL.cons (ResA.tmp (.val _)) .nil, rfl⟩
 rw [pD_yes hq] at c11
 have hreq := hq
 clear hq
 by_cases hq : a.hand = b.hand
 case neg =>
  rw [pD_no (fun h => hq (by subst h; simp))]
  rw [pD_no hq] at c17
  refine goF Tryz.func54 (closedL_cons (closedV a) (closedL_cons (closedV b) closedL_nil)) (fun w0 st0 => ?_)
  dsimp only [frOf]
  (repeat' (first | refine goA ?_ | refine cX c2 ?_ | refine cX c4 ?_ | refine cX c5 ?_ | refine cX c6 ?_ | refine cX c7 ?_ | refine cX c10 ?_ | refine cX c11 ?_ | refine cX c17 ?_ | refine eqX flatC rfl rfl rfl rfl rfl ?_ | refine neX flatC rfl rfl rfl rfl rfl ?_ | refine ARun.bytesStr (by first | exact SrcA.sl rfl (.inr rfl) | exact SrcA.sl rfl (.inl rfl) | exact SrcA.ownW rfl rfl rfl rfl) rfl rfl rfl rfl rfl rfl rfl rfl (guardF_spec rfl) ?_ | refine goB ?_ | fail))
  exact awp_ret ⟨_, ResL.cons (ResA.tmp (.val _)) .nil, rfl⟩
 rw [pD_yes hq] at c17
 have hhand := hq
 clear hq
 by_cases hq : a.cf = b.cf
 case neg =>
  rw [pD_no (fun h => hq (by subst h; simp))]
  have dcf : (!((a.cf.mem == b.cf.mem) && ((a.cf.data == b.cf.data) && ((a.cf.ret == b.cf.ret) && ((a.cf.words == b.cf.words) && ((a.cf.out == b.cf.out) && true)))))) = true := by rw [confEq, pD_no hq]; rfl
  refine goF Tryz.func54 (closedL_cons (closedV a) (closedL_cons (closedV b) closedL_nil)) (fun w0 st0 => ?_)
  dsimp only [frOf]
  (repeat' (first | refine goA ?_ | refine cX c2 ?_ | refine cX c4 ?_ | refine cX c5 ?_ | refine cX c6 ?_ | refine cX c7 ?_ | refine cX c10 ?_ | refine cX c11 ?_ | refine cX c17 ?_ | refine eqX flatC rfl rfl rfl rfl rfl ?_ | refine neX flatC rfl rfl rfl rfl rfl ?_ | refine ARun.bytesStr (by first | exact SrcA.sl rfl (.inr rfl) | exact SrcA.sl rfl (.inl rfl) | exact SrcA.ownW rfl rfl rfl rfl) rfl rfl rfl rfl rfl rfl rfl rfl (guardF_spec rfl) ?_ | refine goB ?_ | fail))
  exact awp_ret ⟨_, ResL.cons (ResA.tmp (.val _)) .nil, rfl⟩
 have dcf : (!((a.cf.mem == b.cf.mem) && ((a.cf.data == b.cf.data) && ((a.cf.ret == b.cf.ret) && ((a.cf.words == b.cf.words) && ((a.cf.out == b.cf.out) && true)))))) = false := by rw [confEq, pD_yes hq]; rfl
 have hcf := hq
 clear hq
 by_cases hq : a.out = b.out
 case neg =>
  rw [pD_no (fun h => hq (by subst h; simp))]
  have dout : (!((ByteArray.mk a.out.toArray).toList == (ByteArray.mk b.out.toArray).toList)) = true := by rw [bs_eq, decide_eq_false hq]; rfl
  refine goF Tryz.func54 (closedL_cons (closedV a) (closedL_cons (closedV b) closedL_nil)) (fun w0 st0 => ?_)
  dsimp only [frOf]
  (repeat' (first | refine goA ?_ | refine cX c2 ?_ | refine cX c4 ?_ | refine cX c5 ?_ | refine cX c6 ?_ | refine cX c7 ?_ | refine cX c10 ?_ | refine cX c11 ?_ | refine cX c17 ?_ | refine eqX flatC rfl rfl rfl rfl rfl ?_ | refine neX flatC rfl rfl rfl rfl rfl ?_ | refine ARun.bytesStr (by first | exact SrcA.sl rfl (.inr rfl) | exact SrcA.sl rfl (.inl rfl) | exact SrcA.ownW rfl rfl rfl rfl) rfl rfl rfl rfl rfl rfl rfl rfl (guardF_spec rfl) ?_ | refine goB ?_ | fail))
  exact awp_ret ⟨_, ResL.cons (ResA.tmp (.val _)) .nil, rfl⟩
 have dout : (!((ByteArray.mk a.out.toArray).toList == (ByteArray.mk b.out.toArray).toList)) = false := by rw [bs_eq, decide_eq_true hq]; rfl
 have hout := hq
 clear hq
 by_cases hq : a.here = b.here
 case neg =>
  rw [pD_no (fun h => hq (by subst h; simp))]
  have dhere : (a.here == b.here) = false := beq_eq_false_iff_ne.2 hq
  refine goF Tryz.func54 (closedL_cons (closedV a) (closedL_cons (closedV b) closedL_nil)) (fun w0 st0 => ?_)
  dsimp only [frOf]
  (repeat' (first | refine goA ?_ | refine cX c2 ?_ | refine cX c4 ?_ | refine cX c5 ?_ | refine cX c6 ?_ | refine cX c7 ?_ | refine cX c10 ?_ | refine cX c11 ?_ | refine cX c17 ?_ | refine eqX flatC rfl rfl rfl rfl rfl ?_ | refine neX flatC rfl rfl rfl rfl rfl ?_ | refine ARun.bytesStr (by first | exact SrcA.sl rfl (.inr rfl) | exact SrcA.sl rfl (.inl rfl) | exact SrcA.ownW rfl rfl rfl rfl) rfl rfl rfl rfl rfl rfl rfl rfl (guardF_spec rfl) ?_ | refine goB ?_ | fail))
  exact awp_ret ⟨_, ResL.cons (ResA.tmp (.val _)) .nil, rfl⟩
 have dhere : (a.here == b.here) = true := beq_iff_eq.2 hq
 have hhere := hq
 clear hq
 by_cases hq : a.last = b.last
 case neg =>
  rw [pD_no (fun h => hq (by subst h; simp))]
  have dlast : (a.last == b.last) = false := beq_eq_false_iff_ne.2 hq
  refine goF Tryz.func54 (closedL_cons (closedV a) (closedL_cons (closedV b) closedL_nil)) (fun w0 st0 => ?_)
  dsimp only [frOf]
  (repeat' (first | refine goA ?_ | refine cX c2 ?_ | refine cX c4 ?_ | refine cX c5 ?_ | refine cX c6 ?_ | refine cX c7 ?_ | refine cX c10 ?_ | refine cX c11 ?_ | refine cX c17 ?_ | refine eqX flatC rfl rfl rfl rfl rfl ?_ | refine neX flatC rfl rfl rfl rfl rfl ?_ | refine ARun.bytesStr (by first | exact SrcA.sl rfl (.inr rfl) | exact SrcA.sl rfl (.inl rfl) | exact SrcA.ownW rfl rfl rfl rfl) rfl rfl rfl rfl rfl rfl rfl rfl (guardF_spec rfl) ?_ | refine goB ?_ | fail))
  exact awp_ret ⟨_, ResL.cons (ResA.tmp (.val _)) .nil, rfl⟩
 have dlast : (a.last == b.last) = true := beq_iff_eq.2 hq
 have hlast := hq
 clear hq
 by_cases hq : a.free = b.free
 case neg =>
  rw [pD_no (fun h => hq (by subst h; simp))]
  have dfree : (a.free == b.free) = false := beq_eq_false_iff_ne.2 hq
  refine goF Tryz.func54 (closedL_cons (closedV a) (closedL_cons (closedV b) closedL_nil)) (fun w0 st0 => ?_)
  dsimp only [frOf]
  (repeat' (first | refine goA ?_ | refine cX c2 ?_ | refine cX c4 ?_ | refine cX c5 ?_ | refine cX c6 ?_ | refine cX c7 ?_ | refine cX c10 ?_ | refine cX c11 ?_ | refine cX c17 ?_ | refine eqX flatC rfl rfl rfl rfl rfl ?_ | refine neX flatC rfl rfl rfl rfl rfl ?_ | refine ARun.bytesStr (by first | exact SrcA.sl rfl (.inr rfl) | exact SrcA.sl rfl (.inl rfl) | exact SrcA.ownW rfl rfl rfl rfl) rfl rfl rfl rfl rfl rfl rfl rfl (guardF_spec rfl) ?_ | refine goB ?_ | fail))
  exact awp_ret ⟨_, ResL.cons (ResA.tmp (.val _)) .nil, rfl⟩
 have dfree : (a.free == b.free) = true := beq_iff_eq.2 hq
 have hfree := hq
 clear hq
 by_cases hq : a.next = b.next
 case neg =>
  rw [pD_no (fun h => hq (by subst h; simp))]
  have dnext : (a.next == b.next) = false := beq_eq_false_iff_ne.2 hq
  refine goF Tryz.func54 (closedL_cons (closedV a) (closedL_cons (closedV b) closedL_nil)) (fun w0 st0 => ?_)
  dsimp only [frOf]
  (repeat' (first | refine goA ?_ | refine cX c2 ?_ | refine cX c4 ?_ | refine cX c5 ?_ | refine cX c6 ?_ | refine cX c7 ?_ | refine cX c10 ?_ | refine cX c11 ?_ | refine cX c17 ?_ | refine eqX flatC rfl rfl rfl rfl rfl ?_ | refine neX flatC rfl rfl rfl rfl rfl ?_ | refine ARun.bytesStr (by first | exact SrcA.sl rfl (.inr rfl) | exact SrcA.sl rfl (.inl rfl) | exact SrcA.ownW rfl rfl rfl rfl) rfl rfl rfl rfl rfl rfl rfl rfl (guardF_spec rfl) ?_ | refine goB ?_ | fail))
  exact awp_ret ⟨_, ResL.cons (ResA.tmp (.val _)) .nil, rfl⟩
 have dnext : (a.next == b.next) = true := beq_iff_eq.2 hq
 have hnext := hq
 clear hq
 by_cases hq : a.arg = b.arg
 case neg =>
  rw [pD_no (fun h => hq (by subst h; simp))]
  have darg : (a.arg == b.arg) = false := beq_eq_false_iff_ne.2 hq
  refine goF Tryz.func54 (closedL_cons (closedV a) (closedL_cons (closedV b) closedL_nil)) (fun w0 st0 => ?_)
  dsimp only [frOf]
  (repeat' (first | refine goA ?_ | refine cX c2 ?_ | refine cX c4 ?_ | refine cX c5 ?_ | refine cX c6 ?_ | refine cX c7 ?_ | refine cX c10 ?_ | refine cX c11 ?_ | refine cX c17 ?_ | refine eqX flatC rfl rfl rfl rfl rfl ?_ | refine neX flatC rfl rfl rfl rfl rfl ?_ | refine ARun.bytesStr (by first | exact SrcA.sl rfl (.inr rfl) | exact SrcA.sl rfl (.inl rfl) | exact SrcA.ownW rfl rfl rfl rfl) rfl rfl rfl rfl rfl rfl rfl rfl (guardF_spec rfl) ?_ | refine goB ?_ | fail))
  exact awp_ret ⟨_, ResL.cons (ResA.tmp (.val _)) .nil, rfl⟩
 have darg : (a.arg == b.arg) = true := beq_iff_eq.2 hq
 have harg := hq
 clear hq
 by_cases hq : a.self = b.self
 case neg =>
  rw [pD_no (fun h => hq (by subst h; simp))]
  have dself : (a.self == b.self) = false := beq_eq_false_iff_ne.2 hq
  refine goF Tryz.func54 (closedL_cons (closedV a) (closedL_cons (closedV b) closedL_nil)) (fun w0 st0 => ?_)
  dsimp only [frOf]
  (repeat' (first | refine goA ?_ | refine cX c2 ?_ | refine cX c4 ?_ | refine cX c5 ?_ | refine cX c6 ?_ | refine cX c7 ?_ | refine cX c10 ?_ | refine cX c11 ?_ | refine cX c17 ?_ | refine eqX flatC rfl rfl rfl rfl rfl ?_ | refine neX flatC rfl rfl rfl rfl rfl ?_ | refine ARun.bytesStr (by first | exact SrcA.sl rfl (.inr rfl) | exact SrcA.sl rfl (.inl rfl) | exact SrcA.ownW rfl rfl rfl rfl) rfl rfl rfl rfl rfl rfl rfl rfl (guardF_spec rfl) ?_ | refine goB ?_ | fail))
  exact awp_ret ⟨_, ResL.cons (ResA.tmp (.val _)) .nil, rfl⟩
 have dself : (a.self == b.self) = true := beq_iff_eq.2 hq
 have hself := hq
 clear hq
 by_cases hq : a.now = b.now
 case neg =>
  rw [pD_no (fun h => hq (by subst h; simp))]
  have dnow : (a.now == b.now) = false := beq_eq_false_iff_ne.2 hq
  refine goF Tryz.func54 (closedL_cons (closedV a) (closedL_cons (closedV b) closedL_nil)) (fun w0 st0 => ?_)
  dsimp only [frOf]
  (repeat' (first | refine goA ?_ | refine cX c2 ?_ | refine cX c4 ?_ | refine cX c5 ?_ | refine cX c6 ?_ | refine cX c7 ?_ | refine cX c10 ?_ | refine cX c11 ?_ | refine cX c17 ?_ | refine eqX flatC rfl rfl rfl rfl rfl ?_ | refine neX flatC rfl rfl rfl rfl rfl ?_ | refine ARun.bytesStr (by first | exact SrcA.sl rfl (.inr rfl) | exact SrcA.sl rfl (.inl rfl) | exact SrcA.ownW rfl rfl rfl rfl) rfl rfl rfl rfl rfl rfl rfl rfl (guardF_spec rfl) ?_ | refine goB ?_ | fail))
  exact awp_ret ⟨_, ResL.cons (ResA.tmp (.val _)) .nil, congrArg (fun b => AV.val (.bool b)) dnow.symm⟩
 have dnow : (a.now == b.now) = true := beq_iff_eq.2 hq
 have hnow := hq
 clear hq
 rw [pD_yes (V.ext' hcf hm hhere hd hr hf hdict hlast hout hpic hreq hfree hnext harg hself hnow hhand)]
 refine goF Tryz.func54 (closedL_cons (closedV a) (closedL_cons (closedV b) closedL_nil)) (fun w0 st0 => ?_)
 dsimp only [frOf]
 (repeat' (first | refine goA ?_ | refine cX c2 ?_ | refine cX c4 ?_ | refine cX c5 ?_ | refine cX c6 ?_ | refine cX c7 ?_ | refine cX c10 ?_ | refine cX c11 ?_ | refine cX c17 ?_ | refine eqX flatC rfl rfl rfl rfl rfl ?_ | refine neX flatC rfl rfl rfl rfl rfl ?_ | refine ARun.bytesStr (by first | exact SrcA.sl rfl (.inr rfl) | exact SrcA.sl rfl (.inl rfl) | exact SrcA.ownW rfl rfl rfl rfl) rfl rfl rfl rfl rfl rfl rfl rfl (guardF_spec rfl) ?_ | refine goB ?_ | fail))
 exact awp_ret ⟨_, ResL.cons (ResA.tmp (.val _)) .nil, congrArg (fun b => AV.val (.bool b)) dnow.symm⟩
end Go.Proofs.YthlbcakjngcjbaaGreat
namespace Go.Proofs.YthlbcakjngcjbaaGreat
open Go Go.RowKit
open Dict (St Bs bs_eq Wd encW encWs closed_ws)
open Mem (Mm encM encBs closed_bs encP encP_closed fetchD)
open Stk (encS closed_s pushD popD popD_nil popD_snoc snoc_of snoc_ix pushD_ok pushD_over encI_closed)
set_option maxRecDepth 100000
theorem RL.allClosed {s : AS} {es : List AV} (h : ∀ x, x ∈ es → Closed x) : RL s es es := ⟨rfl, fun i x x' h1 h2 => by
 rw [h1] at h2
 obtain rfl := Option.some.inj h2
 exact .closed x (h x (List.mem_of_getElem? h1))⟩
def withD (v : V) (s : List Int) : V := ⟨v.cf, v.m, v.here, s, v.r, v.f, v.dict, v.last, v.out, v.pb, v.po, v.req, v.free, v.next, v.arg, v.self, v.now, v.hand⟩
def withR (v : V) (s : List Int) : V := ⟨v.cf, v.m, v.here, v.d, s, v.f, v.dict, v.last, v.out, v.pb, v.po, v.req, v.free, v.next, v.arg, v.self, v.now, v.hand⟩
def encVE (r : V × Int) : AV := .tup [.agg (encV r.1), .val (.int .i64 r.2)]
def encIVE (r : Int × V × Int) : AV := .tup [.val (.int .i64 r.1), .agg (encV r.2.1), .val (.int .i64 r.2.2)]
def vpushD (v : V) (n : Int) : V × Int := (withD v (pushD v.d n v.cf.data).1, (pushD v.d n v.cf.data).2)
def backE (e : Int) : Int := if e = -3 then -5 else if e = -4 then -6 else e
def rpushD (v : V) (n : Int) : V × Int := (withR v (pushD v.r n v.cf.ret).1, backE (pushD v.r n v.cf.ret).2)
def rpopD (v : V) : Int × V × Int := ((popD v.r).1, withR v (popD v.r).2.1, backE (popD v.r).2.2)
def kindD (v : V) (xt : Int) : Int × Int := if (fetchD v.m xt).2 ≠ 0 then (0, (fetchD v.m xt).2) else if (0 ≤ (fetchD v.m xt).1 ∧ (fetchD v.m xt).1 ≤ 129) ∨ (256 ≤ (fetchD v.m xt).1 ∧ (fetchD v.m xt).1 ≤ 260) ∨ (300 ≤ (fetchD v.m xt).1 ∧ (fetchD v.m xt).1 ≤ 336) then ((fetchD v.m xt).1, 0) else (0, -9)
attribute [local irreducible] Decidable.decide awp ARun regK toK
theorem ref_push_c (v : V) (n : Int) (hd : v.d.length ≤ 1000000) : FnC Tryz.prog 168 [.agg (encV v), .val (.int .i64 n)] (encVE (vpushD v n)) := by
 have c1 := Stk.ref_push_c v.d n v.cf.data hd
 unfold vpushD
 generalize pushD v.d n v.cf.data = p at *
 refine goF Tryz.func168 (closedL_cons (closedV v) (closedL_cons (.val _) closedL_nil)) (fun w0 st0 => ?_)
 dsimp only [frOf]
 (repeat' (first | refine goA ?_ | refine cX c1 ?_ | refine goB ?_ | fail))
 exact awp_ret ⟨_, ResL.cons (ResA.agg rfl rfl rfl rfl rfl rfl rfl (RL.allClosed (encV_closed (withD v p.1)))) (ResL.cons (ResA.tmp (.val _)) .nil), rfl⟩
set_option maxHeartbeats 4000000 in
theorem ref_rpush_c (v : V) (n : Int) (hd : v.r.length ≤ 1000000) : FnC Tryz.prog 167 [.agg (encV v), .val (.int .i64 n)] (encVE (rpushD v n)) := by
 have er : (((v.r.map encI).length : Nat) : Int) = v.r.length := by rw [List.length_map]
 unfold rpushD
 by_cases h1 : v.cf.ret ≤ (v.r.length : Int)
 ·have d1 : decide (v.cf.ret ≤ (((v.r.map encI).length : Nat) : Int)) = true := decide_eq_true (by omega)
  rw [pushD_over h1]
  refine goF Tryz.func167 (closedL_cons (closedV v) (closedL_cons (.val _) closedL_nil)) (fun w0 st0 => ?_)
  dsimp only [frOf]
  (repeat' (first | refine goA ?_ | refine goB ?_ | fail))
  exact awp_ret ⟨_, ResL.cons (ResA.agg rfl rfl rfl rfl rfl rfl rfl (RL.allClosed (encV_closed (withR v v.r)))) (ResL.cons (ResA.tmp (.val _)) .nil), rfl⟩
 ·have d1 : decide (v.cf.ret ≤ (((v.r.map encI).length : Nat) : Int)) = false := decide_eq_false (by omega)
  rw [pushD_ok h1]
  refine goF Tryz.func167 (closedL_cons (closedV v) (closedL_cons (.val _) closedL_nil)) (fun w0 st0 => ?_)
  dsimp only [frOf]
  (repeat' (first | refine goA ?_ | refine ARun.buildSliceO rfl rfl rfl rfl rfl rfl rfl (buildSF_spec rfl) rfl (guardF_spec rfl) ?_ | refine appF rfl ?_ | refine appO rfl ?_ | refine goB ?_ | fail))
  refine awp_ret ⟨_, ResL.cons (ResA.agg rfl rfl rfl rfl rfl rfl rfl (RL.cons (.val _) (RL.cons (.val _) (RL.cons (.val _) (RL.cons (.val _) (RL.cons (.val _) (RL.cons (.closed _ (closed_bs _)) (RL.cons (.closed _ (closed_map encP_closed)) (RL.cons (.val _) (RL.cons (.closed _ (closed_s _)) (RL.cons (.owned rfl rfl (by simp) (own_closed_app encI_closed (encI_closed n))) (RL.cons (.closed _ (closedFr _)) (RL.cons (.closed _ (closed_ws _)) (RL.cons (.val _) (RL.cons (.closed _ (closed_bs _)) (RL.cons (.closed _ (closed_bs _)) (RL.cons (.val _) (RL.cons (.closed _ (closedRq _)) (RL.cons (.val _) (RL.cons (.val _) (RL.cons (.val _) (RL.cons (.val _) (RL.cons (.val _) (RL.cons (.closed _ (closedHn _)) (RL.nil _))))))))))))))))))))))))) (ResL.cons (ResA.tmp (.val _)) .nil), ?_⟩
  unfold encVE encV withR encS
  dsimp only
  rw [List.map_append]
  rfl
set_option maxHeartbeats 4000000 in
theorem ref_rpop_c (v : V) (hd : v.r.length ≤ 1000000) : FnC Tryz.prog 193 [.agg (encV v)] (encIVE (rpopD v)) := by
 unfold rpopD
 by_cases hn : v.r = []
 ·have h0 : ((((v.r.map encI).length : Nat) : Int) == 0) = true := beq_iff_eq.2 (by rw [hn]; rfl)
  rw [show popD v.r = (0, v.r, -4) by rw [hn]; rfl]
  refine goF Tryz.func193 (closedL_cons (closedV v) closedL_nil) (fun w0 st0 => ?_)
  dsimp only [frOf]
  (repeat' (first | refine goA ?_ | refine goB ?_ | fail))
  exact awp_ret ⟨_, ResL.cons (ResA.tmp (.val _)) (ResL.cons (ResA.agg rfl rfl rfl rfl rfl rfl rfl (RL.allClosed (encV_closed (withR v v.r)))) (ResL.cons (ResA.tmp (.val _)) .nil)), rfl⟩
 ·obtain ⟨p, x, hp⟩ := snoc_of hn
  have h0 : ((((v.r.map encI).length : Nat) : Int) == 0) = false := beq_eq_false_iff_ne.2 (by rw [hp]; simp; omega)
  have hs : v.r.map encI = p.map encI ++ [encI x] := by rw [hp]; simp
  have hi : (v.r.map encI)[((((v.r.map encI).length : Nat) : Int) - 1).toNat]? = some (encI x) := by rw [hp]; exact snoc_ix p x
  have hl : (((v.r.map encI).length : Nat) : Int) - 1 = ((p.map encI).length : Nat) := by rw [hs]; simp
  have hpl : p.length ≤ 1000000 := by rw [hp] at hd; simp at hd; omega
  rw [show popD v.r = (x, p, 0) by rw [hp, popD_snoc]]
  refine goF Tryz.func193 (closedL_cons (closedV v) closedL_nil) (fun w0 st0 => ?_)
  dsimp only [frOf]
  (repeat' (first | refine goA ?_ | refine ARun.indexAddr rfl rfl lensT (by first | assumption | rfl) rfl rfl rfl rfl rfl (guardF_spec rfl) ?_ | refine ARun.sliceTo rfl hs rfl hl rfl rfl rfl rfl rfl (guardF_spec rfl) ?_ | refine ARun.buildSliceO rfl rfl rfl rfl rfl rfl rfl (buildSF_spec rfl) rfl (guardF_spec rfl) ?_ | refine appF rfl ?_ | refine goB ?_ | fail))
  exact awp_ret ⟨_, ResL.cons (ResA.tmp (.val _)) (ResL.cons (ResA.agg rfl rfl rfl rfl rfl rfl rfl (RL.cons (.val _) (RL.cons (.val _) (RL.cons (.val _) (RL.cons (.val _) (RL.cons (.val _) (RL.cons (.closed _ (closed_bs _)) (RL.cons (.closed _ (closed_map encP_closed)) (RL.cons (.val _) (RL.cons (.closed _ (closed_s _)) (RL.cons (.owned rfl rfl (by simp) (own_closed_map encI_closed)) (RL.cons (.closed _ (closedFr _)) (RL.cons (.closed _ (closed_ws _)) (RL.cons (.val _) (RL.cons (.closed _ (closed_bs _)) (RL.cons (.closed _ (closed_bs _)) (RL.cons (.val _) (RL.cons (.closed _ (closedRq _)) (RL.cons (.val _) (RL.cons (.val _) (RL.cons (.val _) (RL.cons (.val _) (RL.cons (.val _) (RL.cons (.closed _ (closedHn _)) (RL.nil _))))))))))))))))))))))))) (ResL.cons (ResA.tmp (.val _)) .nil)), rfl⟩
end Go.Proofs.YthlbcakjngcjbaaGreat
