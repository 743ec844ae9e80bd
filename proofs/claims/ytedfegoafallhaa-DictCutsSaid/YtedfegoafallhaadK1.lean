/- Texts, and their great letters. -/
import Derived.Test.YtedfegoafallhaadT
import Derived.Test.YtedfegoafallhaaF3
import Derived.Test.YtedfegoafallhaaD9
import Derived.Laws.Strings
namespace Go.Proofs.Ytedfegoafallhaa
set_option linter.unusedVariables false
set_option linter.unusedSimpArgs false
open Go Go.RowKit
set_option maxRecDepth 100000
attribute [local irreducible] Decidable.decide awp ARun regK toK

/-- A text, by its bytes. -/
abbrev St (l : List UInt8) : AV := .val (.string ⟨l.toArray⟩)
abbrev Bs := List UInt8
theorem bs_eq (l l' : List UInt8) : ((ByteArray.mk l.toArray).toList == (ByteArray.mk l'.toArray).toList) = decide (l = l') := by
  rw [ByteArray.toList_eq, ByteArray.toList_eq]
  show (l == l') = _
  rw [Bool.eq_iff_iff, beq_iff_eq, decide_eq_true_eq]
theorem st_app (l l' : List UInt8) : (ByteArray.mk l.toArray) ++ (ByteArray.mk l'.toArray) = ByteArray.mk (l ++ l').toArray := by
  apply ByteArray.ext
  simp
theorem st_size (l : List UInt8) : (ByteArray.mk l.toArray).size = l.length := rfl
def up1 (c : UInt8) : UInt8 := if 97 ≤ c.toNat ∧ c.toNat ≤ 122 then c - 32 else c
def upL (l : Bs) : Bs := l.map up1
theorem up1_yes {c : UInt8} (h : 97 ≤ c.toNat) (h' : c.toNat ≤ 122) : ((up1 c).toNat : Int) = (c.toNat : Int) - 32 := by
  unfold up1
  rw [if_pos ⟨h, h'⟩, UInt8.toNat_sub]
  have e : (32 : UInt8).toNat = 32 := rfl
  rw [e]
  omega
theorem up1_no {c : UInt8} (h : ¬(97 ≤ c.toNat ∧ c.toNat ≤ 122)) : up1 c = c := if_neg h
theorem encB_up {c : UInt8} (h : 97 ≤ c.toNat) (h' : c.toNat ≤ 122) : encB (up1 c) = [.val (.int .u8 ((c.toNat : Int) - 32))] := by
  unfold encB
  rw [up1_yes h h']
theorem wrapU (n : Int) (h : 0 ≤ n) (h' : n ≤ 255) : IntKind.u8.wrap n = n := by rw [IntKind.wrap_u8]; omega
/-- Upper's closure, that turns a letter where it lies. -/
theorem up_l (l : Bs) (i : Nat) (c : UInt8) (hc : l[i]? = some c) : FnL Try.prog 41 [.ptr 1000 0 i 0] [(1, l.map encB)] (.tup []) [(l.set i (up1 c)).map encB] := by
  refine FnL.of_awp (T := tt) (ok := tok) Try.func41 (by kernel_rfl) rfl (by kernel_rfl) (by kernel_rfl) (fun w0 st0 lent c0 => ?_)
  dsimp only [frOf, hpFrom, List.length_cons, List.length_nil]
  have he : (l.map encB)[i]? = some (encB c) := get_map hc
  have hl : (l.map encB).length = l.length := List.length_map _
  have hi := (List.getElem?_eq_some_iff.1 hc).1
  have hc8 := c.toNat_lt
  by_cases h1 : 97 ≤ c.toNat
  · have d1 : decide ((97 : Int) ≤ (c.toNat : Int)) = true := decide_eq_true (by omega)
    by_cases h2 : c.toNat ≤ 122
    · have d2 : decide ((c.toNat : Int) ≤ 122) = true := decide_eq_true (by omega)
      have hs : (l.map encB).set i [.val (.int .u8 ((c.toNat : Int) - 32))] = (l.set i (up1 c)).map encB := by rw [← encB_up h1 h2, List.map_set]
      have hw := wrapU ((c.toNat : Int) - 32) (by omega) (by omega)
      rw [← hw] at hs
      (repeat' (first | refine awp_seq ?_ | refine awp_block ?_ | refine awp_region (fun _ => hmix) ?_ | refine ARun.op rfl (by first | exact True.intro | exact rfl | (unfold inR; omega) | omega | (unfold inR; simp only [List.length_map, List.length_append, List.length_take, List.length_drop, List.length_replicate, List.length_cons, List.length_nil] at *; omega) | ((try unfold inR); simp only [decide_eq_true_eq, decide_eq_false_iff_not, beq_iff_eq, beq_eq_false_iff_ne, ne_eq, Bool.not_eq_true', Bool.not_eq_false', List.length_map, List.length_append, List.length_take, List.length_drop, List.length_replicate, List.length_cons, List.length_nil] at *; omega)) ?_ | refine ARun.nilCheckP rfl rfl (guardF_spec rfl) ?_ | refine ARun.loadOne rfl rfl rfl he rfl rfl rfl rfl (guardF_spec rfl) ?_ | refine ARun.storeEl rfl rfl rfl (by omega) (map_len (fun _ => rfl)) rfl rfl rfl rfl rfl hs (guardF_spec rfl) ?_ | (refine ARun.fin (by first | (intro h; cases h; done) | (intro _; kernel_rfl)) ?_; dsimp only [thenA, blockA, AS.bump, List.length_cons, List.length_nil, reduceIte, Nat.reduceEqDiff]) | (refine awp_skip ?_; dsimp only [thenA, blockA, AS.bump, List.length_cons, List.length_nil, reduceIte, Nat.reduceEqDiff]) | (refine awp_exit ?_; dsimp only [thenA, blockA, AS.bump, List.length_cons, List.length_nil, reduceIte, Nat.reduceEqDiff]) | refine awp_condT rfl (by first | rfl | assumption | exact beq_int _ | exact bne_int _) ?_ | refine awp_condF rfl (by first | rfl | assumption | exact beq_int _ | exact bne_int _) ?_ | ((fail_if_success refine ARun.plain rfl ?_); first | refine ARun.knowT rfl rfl rfl (by first | rfl | assumption | exact beq_int _ | exact bne_int _) ?_ | refine ARun.knowF rfl rfl rfl (by first | rfl | assumption | exact beq_int _ | exact bne_int _) ?_ | refine ARun.fork rfl rfl rfl (fun h => ?_) (fun h => ?_)) | refine awp_cond rfl (fun h => ?_) (fun h => ?_)))
      first | exact ⟨_, ResL.nil, rfl, ⟨_, rfl, RlR.closed (own_closed_map encB_closed)⟩, trivial⟩ | exact awp_skip ⟨_, ResL.nil, rfl, ⟨_, rfl, RlR.closed (own_closed_map encB_closed)⟩, trivial⟩
    · have d2 : decide ((c.toNat : Int) ≤ 122) = false := decide_eq_false (by omega)
      rw [up1_no (by omega), show l.set i c = l by rw [← (List.getElem?_eq_some_iff.1 hc).2]; exact List.set_getElem_self hi]
      (repeat' (first | refine awp_seq ?_ | refine awp_block ?_ | refine awp_region (fun _ => hmix) ?_ | refine ARun.op rfl (by first | exact True.intro | exact rfl | (unfold inR; omega) | omega | (unfold inR; simp only [List.length_map, List.length_append, List.length_take, List.length_drop, List.length_replicate, List.length_cons, List.length_nil] at *; omega) | ((try unfold inR); simp only [decide_eq_true_eq, decide_eq_false_iff_not, beq_iff_eq, beq_eq_false_iff_ne, ne_eq, Bool.not_eq_true', Bool.not_eq_false', List.length_map, List.length_append, List.length_take, List.length_drop, List.length_replicate, List.length_cons, List.length_nil] at *; omega)) ?_ | refine ARun.nilCheckP rfl rfl (guardF_spec rfl) ?_ | refine ARun.loadOne rfl rfl rfl he rfl rfl rfl rfl (guardF_spec rfl) ?_ | (refine ARun.fin (by first | (intro h; cases h; done) | (intro _; kernel_rfl)) ?_; dsimp only [thenA, blockA, AS.bump, List.length_cons, List.length_nil, reduceIte, Nat.reduceEqDiff]) | (refine awp_skip ?_; dsimp only [thenA, blockA, AS.bump, List.length_cons, List.length_nil, reduceIte, Nat.reduceEqDiff]) | (refine awp_exit ?_; dsimp only [thenA, blockA, AS.bump, List.length_cons, List.length_nil, reduceIte, Nat.reduceEqDiff]) | refine awp_condT rfl (by first | rfl | assumption | exact beq_int _ | exact bne_int _) ?_ | refine awp_condF rfl (by first | rfl | assumption | exact beq_int _ | exact bne_int _) ?_ | ((fail_if_success refine ARun.plain rfl ?_); first | refine ARun.knowT rfl rfl rfl (by first | rfl | assumption | exact beq_int _ | exact bne_int _) ?_ | refine ARun.knowF rfl rfl rfl (by first | rfl | assumption | exact beq_int _ | exact bne_int _) ?_ | refine ARun.fork rfl rfl rfl (fun h => ?_) (fun h => ?_)) | refine awp_cond rfl (fun h => ?_) (fun h => ?_)))
      first | exact ⟨_, ResL.nil, rfl, ⟨_, rfl, RlR.closed (own_closed_map encB_closed)⟩, trivial⟩ | exact awp_skip ⟨_, ResL.nil, rfl, ⟨_, rfl, RlR.closed (own_closed_map encB_closed)⟩, trivial⟩
  · have d1 : decide ((97 : Int) ≤ (c.toNat : Int)) = false := decide_eq_false (by omega)
    rw [up1_no (by omega), show l.set i c = l by rw [← (List.getElem?_eq_some_iff.1 hc).2]; exact List.set_getElem_self hi]
    (repeat' (first | refine awp_seq ?_ | refine awp_block ?_ | refine awp_region (fun _ => hmix) ?_ | refine ARun.op rfl (by first | exact True.intro | exact rfl | (unfold inR; omega) | omega | (unfold inR; simp only [List.length_map, List.length_append, List.length_take, List.length_drop, List.length_replicate, List.length_cons, List.length_nil] at *; omega) | ((try unfold inR); simp only [decide_eq_true_eq, decide_eq_false_iff_not, beq_iff_eq, beq_eq_false_iff_ne, ne_eq, Bool.not_eq_true', Bool.not_eq_false', List.length_map, List.length_append, List.length_take, List.length_drop, List.length_replicate, List.length_cons, List.length_nil] at *; omega)) ?_ | refine ARun.nilCheckP rfl rfl (guardF_spec rfl) ?_ | refine ARun.loadOne rfl rfl rfl he rfl rfl rfl rfl (guardF_spec rfl) ?_ | (refine ARun.fin (by first | (intro h; cases h; done) | (intro _; kernel_rfl)) ?_; dsimp only [thenA, blockA, AS.bump, List.length_cons, List.length_nil, reduceIte, Nat.reduceEqDiff]) | (refine awp_skip ?_; dsimp only [thenA, blockA, AS.bump, List.length_cons, List.length_nil, reduceIte, Nat.reduceEqDiff]) | (refine awp_exit ?_; dsimp only [thenA, blockA, AS.bump, List.length_cons, List.length_nil, reduceIte, Nat.reduceEqDiff]) | refine awp_condT rfl (by first | rfl | assumption | exact beq_int _ | exact bne_int _) ?_ | refine awp_condF rfl (by first | rfl | assumption | exact beq_int _ | exact bne_int _) ?_ | ((fail_if_success refine ARun.plain rfl ?_); first | refine ARun.knowT rfl rfl rfl (by first | rfl | assumption | exact beq_int _ | exact bne_int _) ?_ | refine ARun.knowF rfl rfl rfl (by first | rfl | assumption | exact beq_int _ | exact bne_int _) ?_ | refine ARun.fork rfl rfl rfl (fun h => ?_) (fun h => ?_)) | refine awp_cond rfl (fun h => ?_) (fun h => ?_)))
    first | exact ⟨_, ResL.nil, rfl, ⟨_, rfl, RlR.closed (own_closed_map encB_closed)⟩, trivial⟩ | exact awp_skip ⟨_, ResL.nil, rfl, ⟨_, rfl, RlR.closed (own_closed_map encB_closed)⟩, trivial⟩
theorem map_upd {α : Type} (f : α → α) (l : List α) (i : Nat) (c : α) (h : l[i]? = some c) : ((l.take i).map f ++ l.drop i).set i (f c) = (l.take (i + 1)).map f ++ l.drop (i + 1) := by
  have hi := (List.getElem?_eq_some_iff.1 h).1
  have hl : ((l.take i).map f).length = i := by rw [List.length_map, List.length_take]; omega
  rw [List.set_append_right _ _ (by omega), hl, Nat.sub_self, List.drop_eq_getElem_cons hi, (List.getElem?_eq_some_iff.1 h).2, List.set_cons_zero, take_succ' h, List.map_append, List.append_assoc]
  rfl
theorem upd_get {α : Type} (f : α → α) (l : List α) (i : Nat) (c : α) (h : l[i]? = some c) : ((l.take i).map f ++ l.drop i)[i]? = some c := by
  have hi := (List.getElem?_eq_some_iff.1 h).1
  have hl : ((l.take i).map f).length = i := by rw [List.length_map, List.length_take]; omega
  rw [List.getElem?_append_right (by omega), hl, Nat.sub_self, List.getElem?_drop, Nat.add_zero, h]
set_option maxHeartbeats 4000000 in
theorem upper_c (l : Bs) (hl : l.length ≤ 1000000) : FnC Try.prog 39 [St l] (St (upL l)) := by
  refine FnC.of_awp (T := tt) (ok := tok) Try.func39 (by kernel_rfl) rfl (by kernel_rfl) (closedL_cons (.val _) closedL_nil) (fun w0 st0 => ?_)
  dsimp only [frOf]
  (repeat' (first | refine awp_seq ?_ | refine awp_block ?_ | refine awp_region (fun _ => hmix) ?_ | refine ARun.op rfl (by first | exact True.intro | exact rfl | (unfold inR; omega) | omega | (unfold inR; simp only [List.length_map, List.length_append, List.length_take, List.length_drop, List.length_replicate, List.length_cons, List.length_nil] at *; omega) | ((try unfold inR); simp only [decide_eq_true_eq, decide_eq_false_iff_not, beq_iff_eq, beq_eq_false_iff_ne, ne_eq, Bool.not_eq_true', Bool.not_eq_false', List.length_map, List.length_append, List.length_take, List.length_drop, List.length_replicate, List.length_cons, List.length_nil] at *; omega)) ?_ | refine ARun.strBytesO rfl (by rw [st_size]; simp only [maxLen]; omega) rfl rfl rfl rfl rfl rfl rfl (guardF_spec rfl) ?_ | (refine ARun.fin (by first | (intro h; cases h; done) | (intro _; kernel_rfl)) ?_; dsimp only [thenA, blockA, AS.bump, List.length_cons, List.length_nil, reduceIte, Nat.reduceEqDiff]) | (refine awp_skip ?_; dsimp only [thenA, blockA, AS.bump, List.length_cons, List.length_nil, reduceIte, Nat.reduceEqDiff]) | (refine awp_exit ?_; dsimp only [thenA, blockA, AS.bump, List.length_cons, List.length_nil, reduceIte, Nat.reduceEqDiff]) | refine awp_condT rfl (by first | rfl | assumption | exact beq_int _ | exact bne_int _) ?_ | refine awp_condF rfl (by first | rfl | assumption | exact beq_int _ | exact bne_int _) ?_ | ((fail_if_success refine ARun.plain rfl ?_); first | refine ARun.knowT rfl rfl rfl (by first | rfl | assumption | exact beq_int _ | exact bne_int _) ?_ | refine ARun.knowF rfl rfl rfl (by first | rfl | assumption | exact beq_int _ | exact bne_int _) ?_ | refine ARun.fork rfl rfl rfl (fun h => ?_) (fun h => ?_)) | refine awp_cond rfl (fun h => ?_) (fun h => ?_)))
  refine awp_loopT (T := Nat × Nat) (fun t => ⟨[(10, .val (.int .i64 (t.1 : Nat))), (9, .val (.int .i64 (l.length : Nat))), (4, .val (.func (.func 41) #[] #[])), (3, .own 7 2 0 l.length)], [(7, some ⟨2, 1, ((l.take t.1).map up1 ++ l.drop t.1).map encB⟩)], t.2⟩)
    (fun t => t.1 ≤ l.length) (fun t => l.length - t.1) (0, _) (Nat.zero_le _) ⟨⟨rfl, rfl, rfl, rfl, trivial⟩, ⟨rfl, trivial⟩, Nat.le_refl _⟩ (fun t ht => ?_)
  obtain ⟨i, gc⟩ := t
  dsimp only at ht ⊢
  by_cases hlt : i < l.length
  · have hc : decide (((i : Nat) : Int) < (l.length : Nat)) = true := decide_eq_true (by omega)
    have h1 : l[i]? = some l[i] := List.getElem?_eq_getElem hlt
    generalize l[i] = ch at h1
    have hu := up_l ((l.take i).map up1 ++ l.drop i) i ch (upd_get up1 l i ch h1)
    rw [map_upd up1 l i ch h1] at hu
    have hln : (((l.take i).map up1 ++ l.drop i).map encB).length = l.length := by simp; omega
    have hi0 : ((i : Nat) : Int).toNat = i := Int.toNat_natCast i
    have q1 : RelL (Ln ([(7, (⟨2, 1, ((l.take i).map up1 ++ l.drop i).map encB⟩ : Blk))].map fun p => (p.1, p.2.gen))) [.ptr 7 2 (0 + ((i : Nat) : Int).toNat) 0] [.ptr 1000 0 i 0] := by
      rw [hi0, Nat.zero_add]
      exact RelL.cons (.ptr (j := 0) i 0 rfl) (RelL.nil _)
    (repeat' (first | refine awp_seq ?_ | refine awp_block ?_ | refine awp_region (fun _ => hmix) ?_ | refine ARun.op rfl (by first | exact True.intro | exact rfl | (unfold inR; omega) | omega | (unfold inR; simp only [List.length_map, List.length_append, List.length_take, List.length_drop, List.length_replicate, List.length_cons, List.length_nil] at *; omega) | ((try unfold inR); simp only [decide_eq_true_eq, decide_eq_false_iff_not, beq_iff_eq, beq_eq_false_iff_ne, ne_eq, Bool.not_eq_true', Bool.not_eq_false', List.length_map, List.length_append, List.length_take, List.length_drop, List.length_replicate, List.length_cons, List.length_nil] at *; omega)) ?_ | refine ARun.indexAddr_own rfl rfl rfl rfl (by omega) (by omega) rfl rfl rfl rfl rfl (guardF_spec rfl) ?_ | refine callLX [(7, ⟨2, 1, ((l.take i).map up1 ++ l.drop i).map encB⟩)] [(7, ⟨2, 1, ((l.take (i + 1)).map up1 ++ l.drop (i + 1)).map encB⟩)] hu (.inl ⟨rfl, rfl, rfl⟩) ⟨rfl, trivial⟩ q1 ⟨⟨rfl, rfl, RelR.id (fun el x h1 h2 => .wk (.same _) (own_closed_map encB_closed el x h1 h2))⟩, trivial⟩ ⟨⟨rfl, rfl, rfl, RelR.id (fun el x h1 h2 => .same _ (own_closed_map encB_closed el x h1 h2))⟩, trivial⟩ (.same _ (.tup closedL_nil)) rfl rfl rfl ?_ | (refine ARun.fin (by first | (intro h; cases h; done) | (intro _; kernel_rfl)) ?_; dsimp only [thenA, blockA, AS.bump, List.length_cons, List.length_nil, reduceIte, Nat.reduceEqDiff]) | (refine awp_skip ?_; dsimp only [thenA, blockA, AS.bump, List.length_cons, List.length_nil, reduceIte, Nat.reduceEqDiff]) | (refine awp_exit ?_; dsimp only [thenA, blockA, AS.bump, List.length_cons, List.length_nil, reduceIte, Nat.reduceEqDiff]) | refine awp_condT rfl (by first | rfl | assumption | exact beq_int _ | exact bne_int _) ?_ | refine awp_condF rfl (by first | rfl | assumption | exact beq_int _ | exact bne_int _) ?_ | ((fail_if_success refine ARun.plain rfl ?_); first | refine ARun.knowT rfl rfl rfl (by first | rfl | assumption | exact beq_int _ | exact bne_int _) ?_ | refine ARun.knowF rfl rfl rfl (by first | rfl | assumption | exact beq_int _ | exact bne_int _) ?_ | refine ARun.fork rfl rfl rfl (fun h => ?_) (fun h => ?_)) | refine awp_cond rfl (fun h => ?_) (fun h => ?_)))
    exact ⟨(i + 1, _), ⟨⟨succI i, rfl, rfl, rfl, trivial⟩, ⟨rfl, trivial⟩, Nat.le_refl _⟩, hlt, (by dsimp only; omega)⟩
  · have hii : i = l.length := by omega
    subst hii
    have hc : decide (((l.length : Nat) : Int) < (l.length : Nat)) = false := decide_eq_false (by omega)
    rw [List.take_length, List.drop_length, List.append_nil]
    (repeat' (first | refine awp_seq ?_ | refine awp_block ?_ | refine awp_region (fun _ => hmix) ?_ | refine ARun.op rfl (by first | exact True.intro | exact rfl | (unfold inR; omega) | omega | (unfold inR; simp only [List.length_map, List.length_append, List.length_take, List.length_drop, List.length_replicate, List.length_cons, List.length_nil] at *; omega) | ((try unfold inR); simp only [decide_eq_true_eq, decide_eq_false_iff_not, beq_iff_eq, beq_eq_false_iff_ne, ne_eq, Bool.not_eq_true', Bool.not_eq_false', List.length_map, List.length_append, List.length_take, List.length_drop, List.length_replicate, List.length_cons, List.length_nil] at *; omega)) ?_ | refine ARun.bytesStr (SrcA.ownW rfl rfl rfl (by simp)) rfl rfl rfl rfl rfl rfl rfl rfl (guardF_spec rfl) ?_ | (refine ARun.fin (by first | (intro h; cases h; done) | (intro _; kernel_rfl)) ?_; dsimp only [thenA, blockA, AS.bump, List.length_cons, List.length_nil, reduceIte, Nat.reduceEqDiff]) | (refine awp_skip ?_; dsimp only [thenA, blockA, AS.bump, List.length_cons, List.length_nil, reduceIte, Nat.reduceEqDiff]) | (refine awp_exit ?_; dsimp only [thenA, blockA, AS.bump, List.length_cons, List.length_nil, reduceIte, Nat.reduceEqDiff]) | refine awp_condT rfl (by first | rfl | assumption | exact beq_int _ | exact bne_int _) ?_ | refine awp_condF rfl (by first | rfl | assumption | exact beq_int _ | exact bne_int _) ?_ | ((fail_if_success refine ARun.plain rfl ?_); first | refine ARun.knowT rfl rfl rfl (by first | rfl | assumption | exact beq_int _ | exact bne_int _) ?_ | refine ARun.knowF rfl rfl rfl (by first | rfl | assumption | exact beq_int _ | exact bne_int _) ?_ | refine ARun.fork rfl rfl rfl (fun h => ?_) (fun h => ?_)) | refine awp_cond rfl (fun h => ?_) (fun h => ?_)))
    exact awp_ret ⟨_, ResL.cons (ResA.tmp (.val _)) .nil, rfl⟩
end Go.Proofs.Ytedfegoafallhaa
