/- yN1, yK1, yK2, yK3, yK4. -/
import Derived.Test.YtfphgelollhdhaaGreatW1
import Derived.Test.YtfphgelollhdhaaGreatW2
import Derived.Test.YtfphgelollhdhaaGreatW3
import Derived.Test.YtfphgelollhdhaaGreatW4
import Derived.Test.YtfphgelollhdhaaGreatyW5
import Derived.Test.YtfphgelollhdhaaGreatyW6
import Derived.Test.YtfphgelollhdhaaGreatyW7
import Derived.Laws.Strings
set_option linter.unusedVariables false
set_option linter.unusedSimpArgs false
namespace Go.Proofs.YtfphgelollhdhaaGreat.Mem
open Go Go.RowKit
set_option maxRecDepth 100000
attribute [local irreducible] Decidable.decide awp ARun regK toK
def layD (m : Mm) (here : Int) (b : List UInt8) : Mm × Int × Int := if (m.b.length : Int) - here < b.length then (m, here, -8) else ((writeD m here b).1, here + b.length, 0)
def enc3m (r : Mm × Int × Int) : AV := .tup [.agg (encM r.1), .val (.int .i64 r.2.1), .val (.int .i64 r.2.2)]
theorem ref_lay_c (m : Mm) (here : Int) (b : List UInt8) (hl : m.b.length ≤ 1000000) (ho : m.old.length ≤ 1000000) (hb : b.length ≤ 1000000) (h0 : 0 ≤ here ∧ here ≤ m.b.length) : FnC Tryz.prog 96 [.agg (encM m), .val (.int .i64 here), encBs b] (enc3m (layD m here b)) := by
 have c2 := ref_write_c m here b hl ho hb
 refine goF Tryz.func96 (closedL_cons (closed_m m) (closedL_cons (.val _) (closedL_cons (closed_bs b) closedL_nil))) (fun w0 st0 => ?_)
 dsimp only [frOf]
 (repeat' (first | refine goA ?_ | refine cX c2 ?_ | refine goB ?_ | ((fail_if_success refine ARun.plain rfl ?_); refine ARun.fork rfl rfl rfl (fun h => ?_) (fun h => ?_)) | refine awp_cond rfl (fun h => ?_) (fun h => ?_)))
 all_goals (simp only [decide_eq_true_eq, decide_eq_false_iff_not, List.length_map] at *)
 ·rw [show layD m here b = (m, here, -8) from if_pos (by omega)]
  exact awp_ret ⟨_, (ResL.cons (ResA.agg rfl rfl rfl rfl rfl rfl rfl (RL.cons (.closed _ (closed_bs _)) (RL.cons (.closed _ (closed_map encP_closed)) (RL.nil _)))) (ResL.cons (ResA.tmp (.val _)) (ResL.cons (ResA.tmp (.val _)) .nil))), rfl⟩
 ·rw [show layD m here b = ((writeD m here b).1, here + b.length, 0) from if_neg (by omega)]
  refine awp_ret ⟨_, (ResL.cons (ResA.agg rfl rfl rfl rfl rfl rfl rfl (RL.cons (.closed _ (closed_bs _)) (RL.cons (.closed _ (closed_map encP_closed)) (RL.nil _)))) (ResL.cons (ResA.tmp (.val _)) (ResL.cons (ResA.tmp (.val _)) .nil))), ?_⟩
  simp [retAV, enc3m, lkA, encM, encBs]
def commaD (m : Mm) (here n : Int) : Mm × Int × Int := if here.tmod 8 ≠ 0 then (m, here, -23) else layD m here (putB n)
theorem ref_comma_c (m : Mm) (here n : Int) (hl : m.b.length ≤ 1000000) (ho : m.old.length ≤ 1000000) (h0 : 0 ≤ here ∧ here ≤ m.b.length) : FnC Tryz.prog 80 [.agg (encM m), .val (.int .i64 here), .val (.int .i64 n)] (enc3m (commaD m here n)) := by
 have c1 := ref_put_c n
 have c2 := ref_lay_c m here (putB n) hl ho (by rw [putB_len]; omega) h0
 refine goF Tryz.func80 (closedL_cons (closed_m m) (closedL_cons (.val _) (closedL_cons (.val _) closedL_nil))) (fun w0 st0 => ?_)
 dsimp only [frOf]
 by_cases h : here.tmod 8 = 0
 ·have d : (here.tmod 8 != 0) = false := by simp [h]
  rw [show commaD m here n = layD m here (putB n) from if_neg (by simp [h])]
  (repeat' (first | refine goA ?_ | refine cX c1 ?_ | refine cX c2 ?_ | refine goB ?_ | ((fail_if_success refine ARun.plain rfl ?_); refine ARun.fork rfl rfl rfl (fun h => ?_) (fun h => ?_)) | refine awp_cond rfl (fun h => ?_) (fun h => ?_)))
  exact awp_ret ⟨_, (ResL.cons (ResA.agg rfl rfl rfl rfl rfl rfl rfl (RL.cons (.closed _ (closed_bs _)) (RL.cons (.closed _ (closed_map encP_closed)) (RL.nil _)))) (ResL.cons (ResA.tmp (.val _)) (ResL.cons (ResA.tmp (.val _)) .nil))), rfl⟩
 ·have d : (here.tmod 8 != 0) = true := by simp [h]
  rw [show commaD m here n = (m, here, -23) from if_pos h]
  (repeat' (first | refine goA ?_ | refine goB ?_ | ((fail_if_success refine ARun.plain rfl ?_); refine ARun.fork rfl rfl rfl (fun h => ?_) (fun h => ?_)) | refine awp_cond rfl (fun h => ?_) (fun h => ?_)))
  exact awp_ret ⟨_, (ResL.cons (ResA.agg rfl rfl rfl rfl rfl rfl rfl (RL.cons (.closed _ (closed_bs _)) (RL.cons (.closed _ (closed_map encP_closed)) (RL.nil _)))) (ResL.cons (ResA.tmp (.val _)) (ResL.cons (ResA.tmp (.val _)) .nil))), rfl⟩
def padN (here : Int) : Nat := ((8 - here % 8) % 8).toNat
def alignD (m : Mm) (here : Int) : Mm × Int × Int := layD m here (List.replicate (padN here) 0)
theorem clo_rep {n : Nat} : ∀ el x, el ∈ List.replicate n ([Value.int .u8 0].map zv) → x ∈ el → Closed x := fun el x hel hx => by
 rw [(List.mem_replicate.1 hel).2] at hx
 rw [List.mem_singleton.1 hx]
 exact .val _
theorem ref_align_c (m : Mm) (here : Int) (hl : m.b.length ≤ 1000000) (ho : m.old.length ≤ 1000000) (h0 : 0 ≤ here ∧ here ≤ m.b.length) : FnC Tryz.prog 97 [.agg (encM m), .val (.int .i64 here)] (enc3m (alignD m here)) := by
 have hp : padN here ≤ 7 := by unfold padN; omega
 have c2 := ref_lay_c m here (List.replicate (padN here) 0) hl ho (by simp; omega) h0
 unfold alignD
 refine goF Tryz.func97 (closedL_cons (closed_m m) (closedL_cons (.val _) closedL_nil)) (fun w0 st0 => ?_)
 dsimp only [frOf]
 (repeat' (first | refine goA ?_ | refine goB ?_ | ((fail_if_success refine ARun.plain rfl ?_); refine ARun.fork rfl rfl rfl (fun h => ?_) (fun h => ?_)) | refine awp_cond rfl (fun h => ?_) (fun h => ?_)))
 refine awp_ownNil 7 1 rfl rfl rfl ?_
 refine awp_loopT (T := Nat × Nat × Nat) (fun t => ⟨[(1, .val (.int .i64 here)), (2, .ptr 2 0 0 0), (4, .ptr 4 1 0 0), (7, .own 7 t.2.1 0 ((List.replicate t.1 (0 : UInt8)).map encB).length)], [(7, some ⟨t.2.1, 1, (List.replicate t.1 (0 : UInt8)).map encB⟩), (2, some ⟨0, 2, [encM m]⟩), (4, some ⟨1, 2, [[.sl 0 true [], .sl 0 true []]]⟩)], t.2.2⟩)
  (fun t => t.1 ≤ padN here) (fun t => padN here - t.1) (0, _, _) (Nat.zero_le _) ⟨⟨rfl, rfl, rfl, rfl, trivial⟩, ⟨rfl, rfl, rfl, trivial⟩, Nat.le_refl _⟩ (fun t ht => ?_)
 obtain ⟨k, g, gc⟩ := t
 dsimp only at ht ⊢
 have hlr : ((List.replicate k (0 : UInt8)).map encB).length = k := by simp
 have e1 : (here + ((((List.replicate k (0 : UInt8)).map encB).length : Nat) : Int)).tmod 8 = (here + k) % 8 := by
  rw [List.length_map, List.length_replicate, Int.tmod_eq_emod_of_nonneg (by omega)]
 by_cases hlt : k < padN here
 ·have hc : ((here + ((((List.replicate k (0 : UInt8)).map encB).length : Nat) : Int)).tmod 8 != 0) = true := by
   rw [e1, bne_iff_ne]
   unfold padN at hlt
   omega
  have hs : (List.replicate (k + 1) (0 : UInt8)).map encB = (List.replicate k (0 : UInt8)).map encB ++ [encB 0] := by
   rw [List.replicate_succ', List.map_append]
   rfl
  have hll : k ≤ 8 := by omega
  (repeat' (first | refine goA ?_ | refine appO rfl ?_ | refine goB ?_ | ((fail_if_success refine ARun.plain rfl ?_); refine ARun.fork rfl rfl rfl (fun h => ?_) (fun h => ?_)) | refine awp_cond rfl (fun h => ?_) (fun h => ?_)))
  exact ⟨(k + 1, _, _), ⟨⟨rfl, rfl, rfl, (by dsimp only; rw [hs]; rfl), trivial⟩, ⟨(by dsimp only; rw [hs]; rfl), rfl, rfl, trivial⟩, Nat.le_refl _⟩, hlt, (by dsimp only; omega)⟩
 ·have hk : k = padN here := by omega
  subst hk
  have hc : ((here + ((((List.replicate (padN here) (0 : UInt8)).map encB).length : Nat) : Int)).tmod 8 != 0) = false := by
   rw [e1, bne_eq_false_iff_eq]
   unfold padN
   omega
  (repeat' (first | refine goA ?_ | refine callGX [(7, _)] (c2) (BsOk.cons rfl (by first | exact own_closed_map encB_closed | exact clo_rep) (BsOk.nil _)) rfl fzT rfl rfl ?_ | refine goB ?_ | ((fail_if_success refine ARun.plain rfl ?_); refine ARun.fork rfl rfl rfl (fun h => ?_) (fun h => ?_)) | refine awp_cond rfl (fun h => ?_) (fun h => ?_)))
  exact awp_ret ⟨_, (ResL.cons (ResA.agg rfl rfl rfl rfl rfl rfl rfl (RL.cons (.closed _ (closed_bs _)) (RL.cons (.closed _ (closed_map encP_closed)) (RL.nil _)))) (ResL.cons (ResA.tmp (.val _)) (ResL.cons (ResA.tmp (.val _)) .nil))), rfl⟩
end Go.Proofs.YtfphgelollhdhaaGreat.Mem
namespace Go.Proofs.YtfphgelollhdhaaGreat.Dict
open Go Go.RowKit
set_option maxRecDepth 100000
attribute [local irreducible] Decidable.decide awp ARun regK toK
abbrev St (l : List UInt8) : AV := .val (.string ⟨l.toArray⟩)
abbrev Bs := List UInt8
theorem bs_eq (l l' : List UInt8) : ((ByteArray.mk l.toArray).toList == (ByteArray.mk l'.toArray).toList) = decide (l = l') := by
 rw [ByteArray.toList_eq, ByteArray.toList_eq]
 show (l == l') = _
 rw [Bool.eq_iff_iff, beq_iff_eq, decide_eq_true_eq]
theorem eqT (l l' : List UInt8) (h : l = l') : ((ByteArray.mk l.toArray).toList == (ByteArray.mk l'.toArray).toList) = true := by rw [bs_eq]; exact decide_eq_true h
theorem eqF (l l' : List UInt8) (h : ¬ l = l') : ((ByteArray.mk l.toArray).toList == (ByteArray.mk l'.toArray).toList) = false := by rw [bs_eq]; exact decide_eq_false h
theorem st_app (l l' : List UInt8) : (ByteArray.mk l.toArray) ++ (ByteArray.mk l'.toArray) = ByteArray.mk (l ++ l').toArray := by
 apply ByteArray.ext
 simp
theorem st_size (l : List UInt8) : (ByteArray.mk l.toArray).size = l.length := rfl
def up1 (c : UInt8) : UInt8 := if 97 ≤ c.toNat ∧ c.toNat ≤ 122 then c - 32 else c
def upL (l : Bs) : Bs := l.map up1
theorem up1_yes {c : UInt8} (h : 97 ≤ c.toNat) (h' : c.toNat ≤ 122) : ((up1 c).toNat : Int) = (c.toNat : Int) - 32 := by
 unfold up1
 rw [if_pos ⟨h, h'⟩, UInt8.toNat_sub]
 have e : (32 : UInt8).toNat = 32 := rfl
 rw [e]
 omega
theorem up1_no {c : UInt8} (h : ¬(97 ≤ c.toNat ∧ c.toNat ≤ 122)) : up1 c = c := if_neg h
theorem encB_up {c : UInt8} (h : 97 ≤ c.toNat) (h' : c.toNat ≤ 122) : encB (up1 c) = [.val (.int .u8 ((c.toNat : Int) - 32))] := by
 unfold encB
 rw [up1_yes h h']
theorem wrapU (n : Int) (h : 0 ≤ n) (h' : n ≤ 255) : IntKind.u8.wrap n = n := by rw [IntKind.wrap_u8]; omega
end Go.Proofs.YtfphgelollhdhaaGreat.Dict
namespace Go.Proofs.YtfphgelollhdhaaGreat.Dict
open Go Go.RowKit
set_option maxRecDepth 100000
attribute [local irreducible] Decidable.decide awp ARun regK toK
theorem upL_len (l : Bs) : (upL l).length = l.length := List.length_map _
set_option maxHeartbeats 4000000 in
theorem ref_upper_c (l : Bs) (hl : l.length ≤ 1000000) : FnC Tryz.prog 79 [St l] (St (upL l)) := by
 refine goF Tryz.func79 (closedL_cons (.val _) closedL_nil) (fun w0 st0 => ?_)
 dsimp only [frOf]
 (repeat' (first | refine goA ?_ | refine goB ?_ | ((fail_if_success refine ARun.plain rfl ?_); refine ARun.fork rfl rfl rfl (fun h => ?_) (fun h => ?_)) | refine awp_cond rfl (fun h => ?_) (fun h => ?_)))
 refine awp_loopT (T := Nat × Nat) (fun t => ⟨[(4, .val (.int .i64 (t.1 : Nat))), (3, St (upL (l.take t.1))), (0, St l)], [], t.2⟩)
  (fun t => t.1 ≤ l.length) (fun t => l.length - t.1) (0, _) (Nat.zero_le _) ⟨⟨rfl, rfl, rfl, trivial⟩, trivial, Nat.le_refl _⟩ (fun t ht => ?_)
 obtain ⟨i, gc⟩ := t
 dsimp only at ht ⊢
 have hz : (ByteArray.mk l.toArray).size = l.length := rfl
 have hz2 : (ByteArray.mk (upL (l.take i)).toArray).size ≤ 1000000 := by rw [st_size, upL_len, List.length_take]; omega
 by_cases hlt : i < l.length
 ·have hc : decide (((i : Nat) : Int) < ((ByteArray.mk l.toArray).size : Nat)) = true := decide_eq_true (by omega)
  have h1 : l[i]? = some l[i] := List.getElem?_eq_getElem hlt
  generalize l[i] = ch at h1
  have hs : (ByteArray.mk l.toArray).data[((i : Nat) : Int).toNat]? = some ch := by rw [Int.toNat_natCast]; simpa using h1
  have hc8 := ch.toNat_lt
  have hz3 : (ByteArray.mk [up1 ch].toArray).size = 1 := rfl
  have hz4 : (ByteArray.mk [ch].toArray).size = 1 := rfl
  have hnext : ∀ b : UInt8, b = up1 ch → (ByteArray.mk (upL (l.take i)).toArray) ++ (ByteArray.mk [b].toArray) = ByteArray.mk (upL (l.take (i + 1))).toArray := fun b hb => by
   rw [st_app, take_succ' h1, hb]
   unfold upL
   rw [List.map_append]
   rfl
  by_cases h2 : 97 ≤ ch.toNat
  ·have d1 : decide ((97 : Int) ≤ (ch.toNat : Int)) = true := decide_eq_true (by omega)
   by_cases h3 : ch.toNat ≤ 122
   ·have d2 : decide ((ch.toNat : Int) ≤ 122) = true := decide_eq_true (by omega)
    have hw := wrapU ((ch.toNat : Int) - 32) (by omega) (by omega)
    have hel : [[AV.val (.int .u8 (IntKind.u8.wrap ((ch.toNat : Int) - 32)))]] = [up1 ch].map encB := by rw [hw, List.map_cons, encB_up h2 h3]; rfl
    have hnx := hnext _ rfl
    (repeat' (first | refine goA ?_ | refine ARun.index_str rfl rfl (by omega) hs rfl rfl rfl (guardF_spec rfl) ?_ | refine ARun.bytesStr (SrcA.sl rfl (.inr rfl)) hel rfl rfl rfl rfl rfl rfl rfl (guardF_spec rfl) ?_ | refine goB ?_ | ((fail_if_success refine ARun.plain rfl ?_); refine ARun.fork rfl rfl rfl (fun h => ?_) (fun h => ?_)) | refine awp_cond rfl (fun h => ?_) (fun h => ?_)))
    exact ⟨(i + 1, _), ⟨⟨succI i, congrArg (fun s => AV.val (Value.string s)) hnx, rfl, trivial⟩, trivial, Nat.le_refl _⟩, hlt, (by dsimp only; omega)⟩
   ·have d2 : decide ((ch.toNat : Int) ≤ 122) = false := decide_eq_false (by omega)
    have hel : [[AV.val (.int .u8 (ch.toNat : Int))]] = [ch].map encB := rfl
    have hnx := hnext ch (up1_no (by omega)).symm
    (repeat' (first | refine goA ?_ | refine ARun.index_str rfl rfl (by omega) hs rfl rfl rfl (guardF_spec rfl) ?_ | refine ARun.bytesStr (SrcA.sl rfl (.inr rfl)) hel rfl rfl rfl rfl rfl rfl rfl (guardF_spec rfl) ?_ | refine goB ?_ | ((fail_if_success refine ARun.plain rfl ?_); refine ARun.fork rfl rfl rfl (fun h => ?_) (fun h => ?_)) | refine awp_cond rfl (fun h => ?_) (fun h => ?_)))
    exact ⟨(i + 1, _), ⟨⟨succI i, congrArg (fun s => AV.val (Value.string s)) hnx, rfl, trivial⟩, trivial, Nat.le_refl _⟩, hlt, (by dsimp only; omega)⟩
  ·have d1 : decide ((97 : Int) ≤ (ch.toNat : Int)) = false := decide_eq_false (by omega)
   have hel : [[AV.val (.int .u8 (ch.toNat : Int))]] = [ch].map encB := rfl
   have hnx := hnext ch (up1_no (by omega)).symm
   (repeat' (first | refine goA ?_ | refine ARun.index_str rfl rfl (by omega) hs rfl rfl rfl (guardF_spec rfl) ?_ | refine ARun.bytesStr (SrcA.sl rfl (.inr rfl)) hel rfl rfl rfl rfl rfl rfl rfl (guardF_spec rfl) ?_ | refine goB ?_ | ((fail_if_success refine ARun.plain rfl ?_); refine ARun.fork rfl rfl rfl (fun h => ?_) (fun h => ?_)) | refine awp_cond rfl (fun h => ?_) (fun h => ?_)))
   exact ⟨(i + 1, _), ⟨⟨succI i, congrArg (fun s => AV.val (Value.string s)) hnx, rfl, trivial⟩, trivial, Nat.le_refl _⟩, hlt, (by dsimp only; omega)⟩
 ·have hii : i = l.length := by omega
  subst hii
  have hc : decide (((l.length : Nat) : Int) < ((ByteArray.mk l.toArray).size : Nat)) = false := decide_eq_false (by omega)
  rw [List.take_length]
  (repeat' (first | refine goA ?_ | refine goB ?_ | ((fail_if_success refine ARun.plain rfl ?_); refine ARun.fork rfl rfl rfl (fun h => ?_) (fun h => ?_)) | refine awp_cond rfl (fun h => ?_) (fun h => ?_)))
  exact awp_ret ⟨_, ResL.cons (ResA.tmp (.val _)) .nil, rfl⟩
def alikeD (a b : Bs) : Bool := decide (upL a = upL b)
theorem ref_alike_c (a b : Bs) (ha : a.length ≤ 1000000) (hb : b.length ≤ 1000000) : FnC Tryz.prog 57 [St a, St b] (.val (.bool (alikeD a b))) := by
 have c1 := ref_upper_c a ha
 have c2 := ref_upper_c b hb
 refine goF Tryz.func57 (closedL_cons (.val _) (closedL_cons (.val _) closedL_nil)) (fun w0 st0 => ?_)
 dsimp only [frOf]
 (repeat' (first | refine goA ?_ | refine cX c1 ?_ | refine cX c2 ?_ | refine goB ?_ | ((fail_if_success refine ARun.plain rfl ?_); refine ARun.fork rfl rfl rfl (fun h => ?_) (fun h => ?_)) | refine awp_cond rfl (fun h => ?_) (fun h => ?_)))
 exact awp_ret ⟨_, ResL.cons (ResA.tmp (.val _)) .nil, congrArg (fun b => AV.val (.bool b)) (bs_eq _ _).symm⟩
end Go.Proofs.YtfphgelollhdhaaGreat.Dict
namespace Go.Proofs.YtfphgelollhdhaaGreat.Dict
open Go Go.RowKit
set_option maxRecDepth 100000
structure Wd where
 name : Bs
 xt : Int
 fl : Int
def encW (w : Wd) : List AV := [St w.name, .val (.int .i64 w.xt), .val (.int .i64 w.fl)]
theorem encW_closed (w : Wd) : ∀ x, x ∈ encW w → Closed x := closedL_cons (.val _) (closedL_cons (.val _) (closedL_cons (.val _) closedL_nil))
theorem closed_w (w : Wd) : Closed (.agg (encW w)) := .agg (encW_closed w)
abbrev encWs (l : List Wd) : AV := .sl 3 false (l.map encW)
theorem closed_ws (l : List Wd) : Closed (encWs l) := closed_map encW_closed
def okName (l : Bs) : Bool := l.all fun c => decide (32 < c.toNat)
def namedD (l : Bs) : Int := if l = [] then -16 else if 31 < l.length then -19 else if okName l = true then 0 else -32
attribute [local irreducible] Decidable.decide awp ARun regK toK
def hidD (w : Wd) : Bool := (w.fl.tdiv 2).tmod 2 == 1
theorem hidden_c (w : Wd) (h : 0 ≤ w.fl ∧ w.fl ≤ 7) : FnC Tryz.prog 58 [.agg (encW w)] (.val (.bool (hidD w))) := by
 have hw : IntKind.i64.wrap (w.fl.tdiv 2) = w.fl.tdiv 2 := by
  rw [Int.tdiv_eq_ediv_of_nonneg h.1]
  exact IntWalk.i64_in _ (by omega)
 refine goF Tryz.func58 (closedL_cons (closed_w w) closedL_nil) (fun w0 st0 => ?_)
 dsimp only [frOf]
 (repeat' (first | refine goA ?_ | refine goB ?_ | ((fail_if_success refine ARun.plain rfl ?_); refine ARun.fork rfl rfl rfl (fun h => ?_) (fun h => ?_)) | refine awp_cond rfl (fun h => ?_) (fun h => ?_)))
 exact awp_ret ⟨_, ResL.cons (ResA.tmp (.val _)) .nil, congrArg (fun b => AV.val (.bool b)) (by unfold hidD; rw [hw])⟩
theorem take_all {l : Bs} {i : Nat} {c : UInt8} (h : l[i]? = some c) : okName (l.take (i + 1)) = (okName (l.take i) && decide (32 < c.toNat)) := by
 unfold okName
 rw [take_succ' h, List.all_append]
 simp
theorem all_no {l : Bs} {i : Nat} {c : UInt8} (h : l[i]? = some c) (hc : c.toNat ≤ 32) : okName l = false := by
 unfold okName
 rw [List.all_eq_false]
 exact ⟨c, List.mem_of_getElem? h, by simp; omega⟩
set_option maxHeartbeats 4000000 in
theorem ref_named_c (l : Bs) (hl : l.length ≤ 1000000) : FnC Tryz.prog 140 [St l] (.val (.int .i64 (namedD l))) := by
 have hz : (ByteArray.mk l.toArray).size = l.length := rfl
 refine goF Tryz.func140 (closedL_cons (.val _) closedL_nil) (fun w0 st0 => ?_)
 dsimp only [frOf]
 by_cases h0 : l = []
 ·have d0 : ((((ByteArray.mk l.toArray).size : Nat) : Int) == 0) = true := by rw [hz, h0]; simp
  rw [show namedD l = -16 from if_pos h0]
  (repeat' (first | refine goA ?_ | refine goB ?_ | ((fail_if_success refine ARun.plain rfl ?_); refine ARun.fork rfl rfl rfl (fun h => ?_) (fun h => ?_)) | refine awp_cond rfl (fun h => ?_) (fun h => ?_)))
  exact awp_ret ⟨_, ResL.cons (ResA.tmp (.val _)) .nil, rfl⟩
 have d0 : ((((ByteArray.mk l.toArray).size : Nat) : Int) == 0) = false := by rw [hz]; simpa using h0
 by_cases h1 : 31 < l.length
 ·have d1 : decide ((31 : Int) < ((ByteArray.mk l.toArray).size : Nat)) = true := decide_eq_true (by omega)
  rw [show namedD l = -19 by unfold namedD; rw [if_neg h0, if_pos h1]]
  (repeat' (first | refine goA ?_ | refine goB ?_ | ((fail_if_success refine ARun.plain rfl ?_); refine ARun.fork rfl rfl rfl (fun h => ?_) (fun h => ?_)) | refine awp_cond rfl (fun h => ?_) (fun h => ?_)))
  exact awp_ret ⟨_, ResL.cons (ResA.tmp (.val _)) .nil, rfl⟩
 have d1 : decide ((31 : Int) < ((ByteArray.mk l.toArray).size : Nat)) = false := decide_eq_false (by omega)
 (repeat' (first | refine goA ?_ | refine goB ?_ | ((fail_if_success refine ARun.plain rfl ?_); refine ARun.fork rfl rfl rfl (fun h => ?_) (fun h => ?_)) | refine awp_cond rfl (fun h => ?_) (fun h => ?_)))
 refine awp_loopT (T := Nat × Nat) (fun t => ⟨[(3, .val (.int .i64 (t.1 : Nat))), (0, St l)], [], t.2⟩)
  (fun t => t.1 ≤ l.length ∧ okName (l.take t.1) = true) (fun t => l.length - t.1) (0, _) ⟨Nat.zero_le _, rfl⟩ ⟨⟨rfl, rfl, trivial⟩, trivial, Nat.le_refl _⟩ (fun t ht => ?_)
 obtain ⟨i, gc⟩ := t
 obtain ⟨hi, hA⟩ := ht
 dsimp only at hi hA ⊢
 clear d0 d1
 by_cases hlt : i < l.length
 ·have hc : decide (((i : Nat) : Int) < ((ByteArray.mk l.toArray).size : Nat)) = true := decide_eq_true (by omega)
  have hp : l[i]? = some l[i] := List.getElem?_eq_getElem hlt
  generalize l[i] = ch at hp
  have hs : (ByteArray.mk l.toArray).data[((i : Nat) : Int).toNat]? = some ch := by rw [Int.toNat_natCast]; simpa using hp
  by_cases h2 : ch.toNat ≤ 32
  ·have d2 : decide ((ch.toNat : Int) ≤ 32) = true := decide_eq_true (by omega)
   rw [show namedD l = -32 by unfold namedD; rw [if_neg h0, if_neg h1, if_neg (by rw [all_no hp h2]; simp)]]
   (repeat' (first | refine goA ?_ | refine ARun.index_str rfl rfl (by omega) hs rfl rfl rfl (guardF_spec rfl) ?_ | refine goB ?_ | ((fail_if_success refine ARun.plain rfl ?_); refine ARun.fork rfl rfl rfl (fun h => ?_) (fun h => ?_)) | refine awp_cond rfl (fun h => ?_) (fun h => ?_)))
   exact awp_ret ⟨_, ResL.cons (ResA.tmp (.val _)) .nil, rfl⟩
  ·have d2 : decide ((ch.toNat : Int) ≤ 32) = false := decide_eq_false (by omega)
   (repeat' (first | refine goA ?_ | refine ARun.index_str rfl rfl (by omega) hs rfl rfl rfl (guardF_spec rfl) ?_ | refine goB ?_ | ((fail_if_success refine ARun.plain rfl ?_); refine ARun.fork rfl rfl rfl (fun h => ?_) (fun h => ?_)) | refine awp_cond rfl (fun h => ?_) (fun h => ?_)))
   exact ⟨(i + 1, _), ⟨⟨succI i, rfl, trivial⟩, trivial, Nat.le_refl _⟩, ⟨hlt, by rw [take_all hp, hA, Bool.true_and, decide_eq_true (by omega)]⟩, (by dsimp only; omega)⟩
 ·have hii : i = l.length := by omega
  subst hii
  have hc : decide (((l.length : Nat) : Int) < ((ByteArray.mk l.toArray).size : Nat)) = false := decide_eq_false (by omega)
  rw [List.take_length] at hA
  rw [show namedD l = 0 by unfold namedD; rw [if_neg h0, if_neg h1, if_pos hA]]
  (repeat' (first | refine goA ?_ | refine goB ?_ | ((fail_if_success refine ARun.plain rfl ?_); refine ARun.fork rfl rfl rfl (fun h => ?_) (fun h => ?_)) | refine awp_cond rfl (fun h => ?_) (fun h => ?_)))
  exact awp_ret ⟨_, ResL.cons (ResA.tmp (.val _)) .nil, rfl⟩
end Go.Proofs.YtfphgelollhdhaaGreat.Dict
namespace Go.Proofs.YtfphgelollhdhaaGreat.Dict
open Go Go.RowKit
set_option maxRecDepth 100000
attribute [local irreducible] Decidable.decide awp ARun regK toK
def FewW (l : List Wd) (most : Int) : Prop := (l.length : Int) ≤ most ∧ ∀ w, w ∈ l → w.name.length ≤ 60
def OkW (w : Wd) : Prop := namedD w.name = 0 ∧ 0 ≤ w.fl ∧ w.fl ≤ 7
def RightW (l : List Wd) : Prop := (∀ w, w ∈ l → OkW w) ∧ l.length ≤ 1024
def InW (l : List Wd) : Prop := ∀ w, w ∈ l → w.name.length ≤ 1000000 ∧ -9223372036854775808 ≤ w.fl ∧ w.fl ≤ 9223372036854775807
end Go.Proofs.YtfphgelollhdhaaGreat.Dict
