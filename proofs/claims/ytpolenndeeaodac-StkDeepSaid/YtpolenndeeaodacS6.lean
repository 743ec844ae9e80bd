/- stk: Shuffle, of the program. -/
import Derived.Test.YtpolenndeeaodacS5
namespace Go.Proofs.Ytpolenndeeaodac
set_option linter.unusedVariables false
set_option linter.unusedSimpArgs false
open Go Go.RowKit
set_option maxRecDepth 100000
attribute [local irreducible] Decidable.decide awp ARun regK toK

theorem decode_ascii {s : ByteArray} {i : Nat} {c : UInt8} (h : s.data.toList[i]? = some c) (hc : c.toNat < 128) : Utf8.decode s i = (c.toNat, 1) := by
  have hi : i < s.data.size := by
    have := (List.getElem?_eq_some_iff.1 h).1
    simpa using this
  have hg : s.get! (i + 0) = c := by
    rw [Nat.add_zero]
    unfold ByteArray.get!
    rw [Array.getElem?_toList] at h
    simp [getElem!_def, h]
  unfold Utf8.decode
  simp only [hg]
  rw [if_pos hc]

def eqS (a b : ByteArray) : Bool := a.toList == b.toList
/-- DEPTH. -/
theorem shuf_depth (s : List Int) (hl : s.length ≤ 80000) (limit : Int) : FnC Try.prog 15 [.val (.string nDEPTH), encS s, .val (.int .i64 limit)] (enc3 (outD s s [(s.length : Int)] limit)) := by
  have c := laid_c s [] [(s.length : Int)] 0 limit rfl (by simp; omega) (by simp)
  rw [List.append_nil] at c
  have e : (encS [(s.length : Int)]) = .sl 1 false [[.val (.int .i64 ((s.map encI).length : Nat))]] := by simp [encS, encI]
  rw [e] at c
  have h1 : (nDEPTH.toList == (ByteArray.mk #[68, 69, 80, 84, 72]).toList) = true := by kernel_rfl
  refine FnC.of_awp (T := tt) (ok := tok) Try.func15 (by kernel_rfl) rfl (by kernel_rfl) (closedL_cons (.val _) (closedL_cons (closed_s _) (closedL_cons (.val _) closedL_nil))) (fun w0 st0 => ?_)
  dsimp only [frOf]
  (repeat' (first | refine awp_seq ?_ | refine awp_block ?_ | refine awp_region (fun _ => hmix) ?_ | refine ARun.op rfl (by first | exact True.intro | exact rfl | (unfold inR; omega) | omega | (unfold inR; simp only [List.length_map, List.length_append, List.length_take, List.length_drop, List.length_cons, List.length_nil] at *; omega)) ?_ | refine callW (c) rfl (by (repeat (refine WkL.cons (by first | exact Wk.same _ | exact Wk.nilSl | exact Wk.weak _ _ _ | exact Wk.aggL (by (repeat (refine WkL.cons (by first | exact Wk.same _ | exact Wk.nilSl | exact Wk.weak _ _ _) ?_)); exact WkL.nil)) ?_)); exact WkL.nil) rfl rfl ?_ | (refine ARun.fin (by first | (intro h; cases h; done) | (intro _; kernel_rfl)) ?_; dsimp only [thenA, blockA, AS.bump, List.length_cons, List.length_nil, reduceIte, Nat.reduceEqDiff]) | (refine awp_skip ?_; dsimp only [thenA, blockA, AS.bump, List.length_cons, List.length_nil, reduceIte, Nat.reduceEqDiff]) | (refine awp_exit ?_; dsimp only [thenA, blockA, AS.bump, List.length_cons, List.length_nil, reduceIte, Nat.reduceEqDiff]) | refine awp_condT rfl (by first | rfl | assumption) ?_ | refine awp_condF rfl (by first | rfl | assumption) ?_ | ((fail_if_success refine ARun.plain rfl ?_); first | refine ARun.knowT rfl rfl rfl (by first | rfl | assumption) ?_ | refine ARun.knowF rfl rfl rfl (by first | rfl | assumption) ?_ | refine ARun.fork rfl rfl rfl (fun h => ?_) (fun h => ?_)) | refine awp_cond rfl (fun h => ?_) (fun h => ?_)))
  refine awp_ret ⟨_, (ResL.cons (ResA.tmp (.closed _ (closed_map encI_closed))) (ResL.cons (ResA.tmp (.val _)) (ResL.cons (ResA.tmp (.val _)) .nil))), rfl⟩
/-- PICK, ROLL. -/
theorem shuf_pick (s : List Int) (limit : Int) (r : List Int × Bool × Int) (c : FnC Try.prog 20 [encS s, .val (.bool false), .val (.int .i64 limit)] (enc3 r)) : FnC Try.prog 15 [.val (.string nPICK), encS s, .val (.int .i64 limit)] (enc3 r) := by
  have h1 : (nPICK.toList == (ByteArray.mk #[68, 69, 80, 84, 72]).toList) = false := by kernel_rfl
  have h2 : (nPICK.toList == (ByteArray.mk #[80, 73, 67, 75]).toList) = true := by kernel_rfl
  have h3 : (nPICK.toList == (ByteArray.mk #[82, 79, 76, 76]).toList) = false := by kernel_rfl
  rw [← h3] at c
  refine FnC.of_awp (T := tt) (ok := tok) Try.func15 (by kernel_rfl) rfl (by kernel_rfl) (closedL_cons (.val _) (closedL_cons (closed_s _) (closedL_cons (.val _) closedL_nil))) (fun w0 st0 => ?_)
  dsimp only [frOf]
  (repeat' (first | refine awp_seq ?_ | refine awp_block ?_ | refine awp_region (fun _ => hmix) ?_ | refine ARun.op rfl (by first | exact True.intro | exact rfl | (unfold inR; omega) | omega | (unfold inR; simp only [List.length_map, List.length_append, List.length_take, List.length_drop, List.length_cons, List.length_nil] at *; omega)) ?_ | refine callX (c) rfl rfl rfl rfl ?_ | (refine ARun.fin (by first | (intro h; cases h; done) | (intro _; kernel_rfl)) ?_; dsimp only [thenA, blockA, AS.bump, List.length_cons, List.length_nil, reduceIte, Nat.reduceEqDiff]) | (refine awp_skip ?_; dsimp only [thenA, blockA, AS.bump, List.length_cons, List.length_nil, reduceIte, Nat.reduceEqDiff]) | (refine awp_exit ?_; dsimp only [thenA, blockA, AS.bump, List.length_cons, List.length_nil, reduceIte, Nat.reduceEqDiff]) | refine awp_condT rfl (by first | rfl | assumption) ?_ | refine awp_condF rfl (by first | rfl | assumption) ?_ | ((fail_if_success refine ARun.plain rfl ?_); first | refine ARun.knowT rfl rfl rfl (by first | rfl | assumption) ?_ | refine ARun.knowF rfl rfl rfl (by first | rfl | assumption) ?_ | refine ARun.fork rfl rfl rfl (fun h => ?_) (fun h => ?_)) | refine awp_cond rfl (fun h => ?_) (fun h => ?_)))
  refine awp_ret ⟨_, (ResL.cons (ResA.tmp (.closed _ (closed_map encI_closed))) (ResL.cons (ResA.tmp (.val _)) (ResL.cons (ResA.tmp (.val _)) .nil))), rfl⟩
theorem shuf_roll (s : List Int) (limit : Int) (r : List Int × Bool × Int) (c : FnC Try.prog 20 [encS s, .val (.bool true), .val (.int .i64 limit)] (enc3 r)) : FnC Try.prog 15 [.val (.string nROLL), encS s, .val (.int .i64 limit)] (enc3 r) := by
  have h1 : (nROLL.toList == (ByteArray.mk #[68, 69, 80, 84, 72]).toList) = false := by kernel_rfl
  have h2 : (nROLL.toList == (ByteArray.mk #[80, 73, 67, 75]).toList) = false := by kernel_rfl
  have h3 : (nROLL.toList == (ByteArray.mk #[82, 79, 76, 76]).toList) = true := by kernel_rfl
  rw [← h3] at c
  refine FnC.of_awp (T := tt) (ok := tok) Try.func15 (by kernel_rfl) rfl (by kernel_rfl) (closedL_cons (.val _) (closedL_cons (closed_s _) (closedL_cons (.val _) closedL_nil))) (fun w0 st0 => ?_)
  dsimp only [frOf]
  (repeat' (first | refine awp_seq ?_ | refine awp_block ?_ | refine awp_region (fun _ => hmix) ?_ | refine ARun.op rfl (by first | exact True.intro | exact rfl | (unfold inR; omega) | omega | (unfold inR; simp only [List.length_map, List.length_append, List.length_take, List.length_drop, List.length_cons, List.length_nil] at *; omega)) ?_ | refine callX (c) rfl rfl rfl rfl ?_ | (refine ARun.fin (by first | (intro h; cases h; done) | (intro _; kernel_rfl)) ?_; dsimp only [thenA, blockA, AS.bump, List.length_cons, List.length_nil, reduceIte, Nat.reduceEqDiff]) | (refine awp_skip ?_; dsimp only [thenA, blockA, AS.bump, List.length_cons, List.length_nil, reduceIte, Nat.reduceEqDiff]) | (refine awp_exit ?_; dsimp only [thenA, blockA, AS.bump, List.length_cons, List.length_nil, reduceIte, Nat.reduceEqDiff]) | refine awp_condT rfl (by first | rfl | assumption) ?_ | refine awp_condF rfl (by first | rfl | assumption) ?_ | ((fail_if_success refine ARun.plain rfl ?_); first | refine ARun.knowT rfl rfl rfl (by first | rfl | assumption) ?_ | refine ARun.knowF rfl rfl rfl (by first | rfl | assumption) ?_ | refine ARun.fork rfl rfl rfl (fun h => ?_) (fun h => ?_)) | refine awp_cond rfl (fun h => ?_) (fun h => ?_)))
  refine awp_ret ⟨_, (ResL.cons (ResA.tmp (.closed _ (closed_map encI_closed))) (ResL.cons (ResA.tmp (.val _)) (ResL.cons (ResA.tmp (.val _)) .nil))), rfl⟩

/-- A name that is none of the four that are told apart. -/
structure Plain (nm : ByteArray) : Prop where
  d : (nm.toList == (ByteArray.mk #[68, 69, 80, 84, 72]).toList) = false
  p : (nm.toList == (ByteArray.mk #[80, 73, 67, 75]).toList) = false
  r : (nm.toList == (ByteArray.mk #[82, 79, 76, 76]).toList) = false

/-- What letters leave of the top. -/
def leaveD (q : List Int) (lv : List UInt8) : List Int := lv.map fun c => (q[c.toNat - 97]?).getD 0
def Letters (lv : ByteArray) (n : Nat) : Prop := ∀ (k : Nat) (c : UInt8), lv.data.toList[k]? = some c → 97 ≤ c.toNat ∧ c.toNat < 97 + n ∧ c.toNat < 128
theorem wrap32 {n : Int} (h0 : 0 ≤ n) (h : n < 2147483648) : IntKind.i32.wrap n = n := by
  rw [IntKind.wrap_i32]
  omega
theorem leave_step {q : List Int} {l : List UInt8} {k : Nat} {c : UInt8} (h : l[k]? = some c) : leaveD q (l.take (k + 1)) = leaveD q (l.take k) ++ [(q[c.toNat - 97]?).getD 0] := by
  rw [take_succ' h]
  simp [leaveD]

theorem shuf_word (nm : ByteArray) (p q : List Int) (limit : Int) (lv : ByteArray) (j : Nat) (hP : Plain nm) (hQ : (nm.toList == (ByteArray.mk #[63, 68, 85, 80]).toList) = false) (hkey : keyAt .string (.string nm) shK 0 = some j) (hval : shV[j]? = some (.agg [.val (.int .i64 (q.length : Nat)), .val (.string lv)]))
    (hlv : Letters lv q.length) (hl : p.length + q.length ≤ 80000) (hls : lv.size ≤ 80000) : FnC Try.prog 15 [.val (.string nm), encS (p ++ q), .val (.int .i64 limit)] (enc3 (outD (p ++ q) p (leaveD q lv.data.toList) limit)) := by
  obtain ⟨hd, hpk, hr⟩ := hP
  have c1 := shapes_c
  have c2 := laid_c p q (leaveD q lv.data.toList) (q.length : Nat) limit rfl (by omega) (by simp only [leaveD, List.length_map, Array.length_toList]; exact Nat.le_trans hls (by omega))
  have hs : (p ++ q).map encI = p.map encI ++ q.map encI := List.map_append
  have hlen : decide ((((p ++ q).map encI).length : Int) < (q.length : Int)) = false := by rw [decide_eq_false_iff_not]; simp; omega
  refine FnC.of_awp (T := tt) (ok := tok) Try.func15 (by kernel_rfl) rfl (by kernel_rfl) (closedL_cons (.val _) (closedL_cons (closed_s _) (closedL_cons (.val _) closedL_nil))) (fun w0 st0 => ?_)
  dsimp only [frOf]
  (repeat' (first | refine awp_seq ?_ | refine awp_block ?_ | refine awp_region (fun _ => hmix) ?_ | refine ARun.op rfl (by first | exact True.intro | exact rfl | (unfold inR; omega) | omega | (unfold inR; simp only [List.length_map, List.length_append, List.length_take, List.length_drop, List.length_cons, List.length_nil] at *; omega)) ?_ | refine callX (c1) rfl rfl rfl rfl ?_ | refine ARun.lookupHit rfl rfl rfl rfl Try.underlying9 rfl hkey hval rfl (guardF_spec rfl) ?_ | refine ARun.sliceFrom rfl (by first | assumption | rfl) rfl (by first | omega | (dsimp only [maxLen]; done) | (dsimp only [maxLen]; omega) | (simp only [List.length_append, List.length_map, List.length_take, List.length_drop, List.length_replicate, List.length_cons, List.length_nil, maxLen]; done) | (simp only [List.length_append, List.length_map, List.length_take, List.length_drop, List.length_replicate, List.length_cons, List.length_nil, maxLen]; omega) | (simp only [List.length_append, List.length_map, List.length_take, List.length_drop, List.length_replicate, List.length_cons, List.length_nil, maxLen] at *; done) | (simp only [List.length_append, List.length_map, List.length_take, List.length_drop, List.length_replicate, List.length_cons, List.length_nil, maxLen] at *; omega)) rfl rfl rfl rfl rfl (guardF_spec rfl) ?_ | refine ARun.rangeStr rfl rfl rfl rfl (guardF_spec rfl) ?_ | (refine ARun.fin (by first | (intro h; cases h; done) | (intro _; kernel_rfl)) ?_; dsimp only [thenA, blockA, AS.bump, List.length_cons, List.length_nil, reduceIte, Nat.reduceEqDiff]) | (refine awp_skip ?_; dsimp only [thenA, blockA, AS.bump, List.length_cons, List.length_nil, reduceIte, Nat.reduceEqDiff]) | (refine awp_exit ?_; dsimp only [thenA, blockA, AS.bump, List.length_cons, List.length_nil, reduceIte, Nat.reduceEqDiff]) | refine awp_condT rfl (by first | rfl | assumption) ?_ | refine awp_condF rfl (by first | rfl | assumption) ?_ | ((fail_if_success refine ARun.plain rfl ?_); first | refine ARun.knowT rfl rfl rfl (by first | rfl | assumption) ?_ | refine ARun.knowF rfl rfl rfl (by first | rfl | assumption) ?_ | refine ARun.fork rfl rfl rfl (fun h => ?_) (fun h => ?_)) | refine awp_cond rfl (fun h => ?_) (fun h => ?_)))
  refine awp_ownNil 12 1 rfl rfl rfl ?_
  refine awp_loopT (T := Nat × Nat × Nat) (fun t => ⟨[(12, .own 12 t.2.1 0 ((leaveD q (lv.data.toList.take t.1)).map encI).length), (78, .it 78 _), (1, encS (p ++ q)), (2, .val (.int .i64 limit)), (9, .ptr 9 _ 0 0), (11, .sl 1 false (q.map encI))], [(12, some ⟨t.2.1, 1, (leaveD q (lv.data.toList.take t.1)).map encI⟩), (78, some ⟨_, 0, [[.val (.string lv), .val (.int .i64 (t.1 : Nat))]]⟩), (9, some ⟨_, 2, [[.val (.int .i64 (q.length : Nat)), .val (.string lv)]]⟩)], t.2.2⟩) (fun t => t.1 ≤ lv.size) (fun t => lv.size - t.1) (0, _, _) (Nat.zero_le _) ⟨⟨rfl, rfl, rfl, rfl, rfl, rfl, trivial⟩, ⟨rfl, rfl, rfl, trivial⟩, Nat.le_refl _⟩ (fun t ht => ?_)
  obtain ⟨k, g, gc⟩ := t
  dsimp only at ht ⊢
  clear hs
  have hsz : lv.data.toList.length = lv.size := by rw [Array.length_toList]; rfl
  by_cases hlt : k < lv.size
  · have h1 : lv.data.toList[k]? = some (lv.data.toList[k]'(by omega)) := List.getElem?_eq_getElem _
    generalize (lv.data.toList[k]'(by omega)) = ch at h1
    obtain ⟨l1, l2, l3⟩ := hlv k ch h1
    have hdec := decode_ascii h1 l3
    have hs := congrArg (List.map encI) (leave_step (q := q) h1)
    rw [List.map_append] at hs
    have hw : IntKind.i32.wrap ((ch.toNat : Int) - 97) = (ch.toNat : Int) - 97 := wrap32 (by omega) (by omega)
    have hix0 : 0 ≤ IntKind.i32.wrap ((ch.toNat : Int) - 97) := by rw [hw]; omega
    have hix : (q.map encI)[(IntKind.i32.wrap ((ch.toNat : Int) - 97)).toNat]? = some (encI ((q[ch.toNat - 97]?).getD 0)) := by
      rw [hw, show ((ch.toNat : Int) - 97).toNat = ch.toNat - 97 by omega, List.getElem?_map, List.getElem?_eq_getElem (by omega)]
      rfl
    have hll : (leaveD q (lv.data.toList.take k)).length ≤ 80000 := by simp only [leaveD, List.length_map, List.length_take]; omega
    (repeat' (first | refine awp_seq ?_ | refine awp_block ?_ | refine awp_region (fun _ => hmix) ?_ | refine ARun.op rfl (by first | exact True.intro | exact rfl | (unfold inR; omega) | omega | (unfold inR; simp only [List.length_map, List.length_append, List.length_take, List.length_drop, List.length_cons, List.length_nil] at *; omega)) ?_ | refine ARun.nextStrD rfl rfl rfl (by assumption) (by assumption) rfl (guardF_spec rfl) ?_ | refine ARun.indexAddr rfl rfl hix0 hix rfl rfl rfl rfl rfl (guardF_spec rfl) ?_ | refine ARun.append_ownS rfl rfl rfl rfl (by first | exact SrcA.sl rfl (.inr rfl) | exact SrcA.sl rfl (.inl rfl) | exact SrcA.ownW rfl rfl rfl rfl) rfl rfl rfl rfl rfl rfl (by first | omega | (dsimp only [maxLen]; done) | (dsimp only [maxLen]; omega) | (simp only [List.length_append, List.length_map, List.length_take, List.length_drop, List.length_replicate, List.length_cons, List.length_nil, maxLen]; done) | (simp only [List.length_append, List.length_map, List.length_take, List.length_drop, List.length_replicate, List.length_cons, List.length_nil, maxLen]; omega) | (simp only [List.length_append, List.length_map, List.length_take, List.length_drop, List.length_replicate, List.length_cons, List.length_nil, maxLen] at *; done) | (simp only [List.length_append, List.length_map, List.length_take, List.length_drop, List.length_replicate, List.length_cons, List.length_nil, maxLen] at *; omega)) (by first | omega | (dsimp only [maxLen]; done) | (dsimp only [maxLen]; omega) | (simp only [List.length_append, List.length_map, List.length_take, List.length_drop, List.length_replicate, List.length_cons, List.length_nil, maxLen]; done) | (simp only [List.length_append, List.length_map, List.length_take, List.length_drop, List.length_replicate, List.length_cons, List.length_nil, maxLen]; omega) | (simp only [List.length_append, List.length_map, List.length_take, List.length_drop, List.length_replicate, List.length_cons, List.length_nil, maxLen] at *; done) | (simp only [List.length_append, List.length_map, List.length_take, List.length_drop, List.length_replicate, List.length_cons, List.length_nil, maxLen] at *; omega)) rfl (guardF_spec rfl) ?_ | (refine ARun.fin (by first | (intro h; cases h; done) | (intro _; kernel_rfl)) ?_; dsimp only [thenA, blockA, AS.bump, List.length_cons, List.length_nil, reduceIte, Nat.reduceEqDiff]) | (refine awp_skip ?_; dsimp only [thenA, blockA, AS.bump, List.length_cons, List.length_nil, reduceIte, Nat.reduceEqDiff]) | (refine awp_exit ?_; dsimp only [thenA, blockA, AS.bump, List.length_cons, List.length_nil, reduceIte, Nat.reduceEqDiff]) | refine awp_condT rfl (by first | rfl | assumption) ?_ | refine awp_condF rfl (by first | rfl | assumption) ?_ | ((fail_if_success refine ARun.plain rfl ?_); first | refine ARun.knowT rfl rfl rfl (by first | rfl | assumption) ?_ | refine ARun.knowF rfl rfl rfl (by first | rfl | assumption) ?_ | refine ARun.fork rfl rfl rfl (fun h => ?_) (fun h => ?_)) | refine awp_cond rfl (fun h => ?_) (fun h => ?_)))
    exact ⟨(k + 1, _, _), ⟨⟨(by dsimp only; rw [hs]; rfl), rfl, rfl, rfl, rfl, rfl, trivial⟩, ⟨(by dsimp only; rw [hs]; rfl), rfl, rfl, trivial⟩, Nat.le_refl _⟩, hlt, (by dsimp only; omega)⟩
  · have hk : k = lv.size := by omega
    subst hk
    have hge : lv.size ≤ lv.size := Nat.le_refl _
    rw [← hsz, List.take_length]
    (repeat' (first | refine awp_seq ?_ | refine awp_block ?_ | refine awp_region (fun _ => hmix) ?_ | refine ARun.op rfl (by first | exact True.intro | exact rfl | (unfold inR; omega) | omega | (unfold inR; simp only [List.length_map, List.length_append, List.length_take, List.length_drop, List.length_cons, List.length_nil] at *; omega)) ?_ | refine ARun.nextEnd rfl rfl rfl (by assumption) rfl (guardF_spec rfl) ?_ | refine callGX [(12, _)] (c2) (BsOk.cons rfl (by first | exact own_closed_map encI_closed | exact own_closed_app encI_closed (encI_closed _) | exact clo_lit) (BsOk.nil _)) rfl (by (repeat (refine FzL.cons (by first | exact Fz.same _ | exact Fz.wk Wk.nilSl | exact Fz.wk (Wk.weak _ _ _) | exact Fz.own1 (by first | (simp; done) | (simp; rfl)) rfl (by simp) | exact Fz.aggL (by (repeat (refine FzL.cons (by first | exact Fz.same _ | exact Fz.wk Wk.nilSl | exact Fz.wk (Wk.weak _ _ _) | exact Fz.own1 (by first | (simp; done) | (simp; rfl)) rfl (by simp)) ?_)); exact FzL.nil _)) ?_)); exact FzL.nil _) rfl rfl ?_ | (refine ARun.fin (by first | (intro h; cases h; done) | (intro _; kernel_rfl)) ?_; dsimp only [thenA, blockA, AS.bump, List.length_cons, List.length_nil, reduceIte, Nat.reduceEqDiff]) | (refine awp_skip ?_; dsimp only [thenA, blockA, AS.bump, List.length_cons, List.length_nil, reduceIte, Nat.reduceEqDiff]) | (refine awp_exit ?_; dsimp only [thenA, blockA, AS.bump, List.length_cons, List.length_nil, reduceIte, Nat.reduceEqDiff]) | refine awp_condT rfl (by first | rfl | assumption) ?_ | refine awp_condF rfl (by first | rfl | assumption) ?_ | ((fail_if_success refine ARun.plain rfl ?_); first | refine ARun.knowT rfl rfl rfl (by first | rfl | assumption) ?_ | refine ARun.knowF rfl rfl rfl (by first | rfl | assumption) ?_ | refine ARun.fork rfl rfl rfl (fun h => ?_) (fun h => ?_)) | refine awp_cond rfl (fun h => ?_) (fun h => ?_)))
    refine awp_ret ⟨_, (ResL.cons (ResA.tmp (.closed _ (closed_map encI_closed))) (ResL.cons (ResA.tmp (.val _)) (ResL.cons (ResA.tmp (.val _)) .nil))), rfl⟩
end Go.Proofs.Ytpolenndeeaodac
