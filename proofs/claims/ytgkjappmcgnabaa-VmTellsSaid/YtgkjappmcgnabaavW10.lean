/- vG3, vG4, vG5, vG6, vG7. -/
import Derived.Test.YtgkjappmcgnabaaW1
import Derived.Test.YtgkjappmcgnabaaW2
import Derived.Test.YtgkjappmcgnabaaW3
import Derived.Test.YtgkjappmcgnabaaW4
import Derived.Test.YtgkjappmcgnabaavW5
import Derived.Test.YtgkjappmcgnabaavW6
import Derived.Test.YtgkjappmcgnabaavW7
import Derived.Test.YtgkjappmcgnabaavW8
import Derived.Test.YtgkjappmcgnabaavW9
/- vm: kinds, and flags. -/
namespace Go.Proofs.Ytgkjappmcgnabaa
set_option linter.unusedVariables false
set_option linter.unusedSimpArgs false
open Go Go.RowKit
open Dict (St Bs bs_eq)
set_option maxRecDepth 100000
def kStr (l : Bs) : Value := .string ⟨l.toArray⟩
theorem same_str (a b : Bs) : Instr.sameNow .string (kStr a) (kStr b) = some (decide (a = b)) := by
  have h : Instr.sameNow .string (kStr a) (kStr b) = some (a.toArray == b.toArray) := rfl
  rw [h, show (a.toArray == b.toArray) = decide (a = b) by rw [Bool.eq_iff_iff, beq_iff_eq, decide_eq_true_eq]; simp]
theorem keyNone_str {a : Bs} : ∀ {l : List Bs}, a ∉ l → keyNone .string (kStr a) (l.map kStr) = true
  | [], _ => rfl
  | b :: l, h => by
    rw [List.map_cons, keyNone, same_str, decide_eq_false (fun e => h (by simp [e]))]
    exact keyNone_str (fun e => h (by simp [e]))
def kAll : List Bs := onlyV ++ nowV ++ bothV
def vI : List Int := List.replicate 8 1 ++ List.replicate 4 2 ++ List.replicate 22 3
def valD (a : Bs) : Int := if a ∈ onlyV then 1 else if a ∈ nowV then 2 else if a ∈ bothV then 3 else 0
def flagsD (a : Bs) (at' : Int) : Int := if at' < 12 then 6 else if a ∈ onlyV then 4 else if a ∈ nowV then 1 else if a ∈ bothV then 5 else 0
theorem look_all : (kAll.all fun p => match keyAt .string (kStr p) (kAll.map kStr) 0 with | some j => (vI[j]? == some (valD p)) | none => false) = true := by kernel_rfl
theorem kAll_len : kAll.length = 34 := rfl
/-- All keys are different. -/
theorem kAll_new : ((List.range 34).all fun j => match kAll[j]? with | some a => !(kAll.take j).contains a | none => false) = true := by kernel_rfl
theorem kAll_not {j : Nat} {a : Bs} (h : kAll[j]? = some a) : a ∉ kAll.take j := by
  have hj : j < 34 := by rw [← kAll_len]; exact (List.getElem?_eq_some_iff.1 h).1
  have := List.all_eq_true.1 kAll_new j (List.mem_range.2 hj)
  rw [h] at this
  simpa using this
theorem look_hit {a : Bs} (h : a ∈ kAll) : ∃ j, keyAt .string (kStr a) (kAll.map kStr) 0 = some j ∧ vI[j]? = some (valD a) := by
  have := List.all_eq_true.1 look_all a h
  split at this
  · rename_i j hj
    exact ⟨j, hj, by simpa using this⟩
  · cases this
theorem val_none {a : Bs} (h : a ∉ kAll) : valD a = 0 := by
  unfold valD
  unfold kAll at h
  rw [List.mem_append, List.mem_append] at h
  rw [if_neg (fun e => h (.inl (.inl e))), if_neg (fun e => h (.inl (.inr e))), if_neg (fun e => h (.inr e))]
theorem flags_val (a : Bs) (at' : Int) (h : ¬ at' < 12) : flagsD a at' = if valD a = 1 then 4 else if valD a = 2 then 1 else if valD a = 3 then 5 else 0 := by
  unfold flagsD valD
  rw [if_neg h]
  split
  · rfl
  · split
    · rfl
    · split <;> rfl
theorem valD_range (a : Bs) : valD a = 0 ∨ valD a = 1 ∨ valD a = 2 ∨ valD a = 3 := by
  unfold valD
  split
  · exact .inr (.inl rfl)
  · split
    · exact .inr (.inr (.inl rfl))
    · split
      · exact .inr (.inr (.inr rfl))
      · exact .inl rfl
theorem flagsD_range (a : Bs) (at' : Int) : 0 ≤ flagsD a at' ∧ flagsD a at' ≤ 7 := by
  unfold flagsD
  split
  · decide
  · split
    · decide
    · split
      · decide
      · split <;> decide
attribute [local irreducible] Decidable.decide awp ARun regK toK
section
variable {C : ACtx} {ops : Array Oper} {K : AS → List (List Nat × List Nat) → Prop} {k : Nat} {rest : List Oper} {fr : List (Nat × AV)} {hp : List (Nat × Option Blk)} {gc : Nat} {fps : List (List Nat × List Nat)}
  {d : Nat} {ty : TypeId} {pos : String} {after : Array Edge} {gd : Option (Nat × Bool)} {x y z : Operand} {v : AV}
theorem ARun.putKeyE {t kt e b g gen : Nat} {ti : TI} {u : TypeDesc} {key : Value} {ks ks' : List Value} {vs vs' : List AV} (hx : evA fr x = .mo b g) (hb : lkH hp b = some ⟨gen, 0, [.dead :: ks.map .val, vs]⟩) (hgg : gen = g) (hy : evA fr y = .val key) (hz : evA fr z = v) (ht : C.T t = some ti) (hk : ti.k = .map kt e) (hu : C.P.underlying kt = some u)
    (hpk : plainKey u key = true) (hno : keyNone u key ks = true) (h1 : ks ++ [key] = ks') (h2 : vs ++ [v] = vs') (hg : guardIs ops ⟨fr, hp, gc⟩ ⟨none, .mapUpdate t x y z, ty, pos, after, gd⟩ true)
    (nx : ARun C ops K (k + 1) rest ⟨fr, (b, some ⟨gen, 0, [.dead :: ks'.map .val, vs']⟩) :: hp, gc⟩ (fps ++ [([b], [b])])) : ARun C ops K k (⟨none, .mapUpdate t x y z, ty, pos, after, gd⟩ :: rest) ⟨fr, hp, gc⟩ fps := by
  subst h1 h2
  exact ARun.putKey hx hb hgg hy hz ht hk hu hpk hno hg nx
end
def encV1 (n : Int) : AV := .val (.int .i64 n)
def KB (c : Nat) : List (List AV) := [.dead :: ((kAll.take c).map kStr).map .val, (vI.take c).map encV1]
theorem ks_step {c : Nat} {a : Bs} (h : kAll[c]? = some a) : (kAll.take c).map kStr ++ [kStr a] = (kAll.take (c + 1)).map kStr := by
  rw [take_succ' h, List.map_append]
  rfl
theorem vs_step {c : Nat} {n : Int} (h : vI[c]? = some n) : (vI.take c).map encV1 ++ [encV1 n] = (vI.take (c + 1)).map encV1 := by
  rw [take_succ' h, List.map_append]
  rfl
def kArr : List AV := [.sl 0 true [], .sl 1 true (onlyV.map encN), .sl 1 true (nowV.map encN), .sl 1 true (bothV.map encN)]
def cntK : Nat → Nat
  | 0 => 0
  | 1 => 0
  | 2 => 8
  | 3 => 12
  | _ => 34
theorem closed_vI (c : Nat) : ∀ x, x ∈ (vI.take c).map encV1 → Closed x := fun x hx => by
  obtain ⟨n, _, rfl⟩ := List.mem_map.1 hx
  exact .val _
theorem onlyV_len : onlyV.length = 8 := rfl
theorem nowV_len : nowV.length = 4 := rfl
theorem bothV_len : bothV.length = 22 := rfl
theorem row1K {j : Nat} {a : Bs} (h : onlyV[j]? = some a) : kAll[0 + j]? = some a ∧ vI[0 + j]? = some 1 := by
  have hj : j < 8 := by rw [← onlyV_len]; exact (List.getElem?_eq_some_iff.1 h).1
  unfold kAll vI
  rw [Nat.zero_add, List.append_assoc, List.getElem?_append_left (by rw [onlyV_len]; exact hj), List.append_assoc, List.getElem?_append_left (by rw [List.length_replicate]; exact hj), List.getElem?_replicate, if_pos hj]
  exact ⟨h, rfl⟩
theorem row2K {j : Nat} {a : Bs} (h : nowV[j]? = some a) : kAll[8 + j]? = some a ∧ vI[8 + j]? = some 2 := by
  have hj : j < 4 := by rw [← nowV_len]; exact (List.getElem?_eq_some_iff.1 h).1
  unfold kAll vI
  rw [List.append_assoc, List.getElem?_append_right (by rw [onlyV_len]; omega), onlyV_len, List.getElem?_append_left (by rw [nowV_len]; omega), List.append_assoc, List.getElem?_append_right (by rw [List.length_replicate]; omega), List.length_replicate, List.getElem?_append_left (by rw [List.length_replicate]; omega), List.getElem?_replicate, if_pos (by omega), show 8 + j - 8 = j by omega]
  exact ⟨h, rfl⟩
theorem row3K {j : Nat} {a : Bs} (h : bothV[j]? = some a) : kAll[12 + j]? = some a ∧ vI[12 + j]? = some 3 := by
  have hj : j < 22 := by rw [← bothV_len]; exact (List.getElem?_eq_some_iff.1 h).1
  unfold kAll vI
  rw [List.append_assoc, List.getElem?_append_right (by rw [onlyV_len]; omega), onlyV_len, List.getElem?_append_right (by rw [nowV_len]; omega), nowV_len, List.append_assoc, List.getElem?_append_right (by rw [List.length_replicate]; omega), List.length_replicate, List.getElem?_append_right (by rw [List.length_replicate]; omega), List.length_replicate, List.getElem?_replicate, if_pos (by omega), show 12 + j - 8 - 4 = j by omega]
  exact ⟨h, rfl⟩
set_option maxHeartbeats 8000000 in
theorem kinds_c : FnC Try.prog 91 [] (.mp (kAll.map kStr) (vI.map encV1)) := by
  refine FnC.of_awp (T := tt) (ok := tok) Try.func91 (by kernel_rfl) rfl (by kernel_rfl) closedL_nil (fun w0 st0 => ?_)
  dsimp only [frOf]
  (repeat' (first | refine awp_seq ?_ | refine awp_block ?_ | refine awp_region (fun _ => hmix) ?_ | refine ARun.op rfl (by first | exact True.intro | exact rfl | (unfold inR; omega) | omega | ((try unfold inR); simp only [decide_eq_true_eq, decide_eq_false_iff_not, beq_iff_eq, beq_eq_false_iff_ne, ne_eq, Bool.not_eq_true', Bool.not_eq_false', List.length_map, List.length_append, List.length_take, List.length_drop, List.length_replicate, List.length_cons, List.length_nil] at *; omega)) ?_ | refine ARun.makeMap rfl (guardF_spec rfl) ?_ | ((first | refine ARun.fin (by first | (intro h; cases h; done) | (intro _; kernel_rfl)) ?_ | refine awp_skip ?_ | refine awp_exit ?_); dsimp only [thenA, blockA, AS.bump, List.length_cons, List.length_nil, reduceIte, Nat.reduceEqDiff]) | refine awp_condT rfl (by first | rfl | assumption | exact beq_int _ | exact bne_int _) ?_ | refine awp_condF rfl (by first | rfl | assumption | exact beq_int _ | exact bne_int _) ?_ | ((fail_if_success refine ARun.plain rfl ?_); first | refine ARun.knowT rfl rfl rfl (by first | rfl | assumption | exact beq_int _ | exact bne_int _) ?_ | refine ARun.knowF rfl rfl rfl (by first | rfl | assumption | exact beq_int _ | exact bne_int _) ?_ | refine ARun.fork rfl rfl rfl (fun h => ?_) (fun h => ?_)) | refine awp_cond rfl (fun h => ?_) (fun h => ?_)))
  refine awp_loopT (T := Nat × Nat) (fun t => ⟨[(11, .val (.int .i64 (t.1 : Nat))), (10, .agg kArr), (1, .mo 6 1)], [(6, some ⟨1, 0, KB (cntK t.1)⟩)], t.2⟩) (fun t => t.1 ≤ 4) (fun t => 4 - t.1) (0, _) (Nat.zero_le _) ⟨⟨rfl, rfl, rfl, trivial⟩, ⟨rfl, trivial⟩, Nat.le_refl _⟩ (fun t ht => ?_)
  obtain ⟨i, gc⟩ := t
  dsimp only at ht ⊢
  match i, ht with
  | 0, _ =>
    have d1 : decide (((0 : Nat) : Int) < 4) = true := decide_eq_true (by omega)
    (repeat' (first | refine awp_seq ?_ | refine awp_block ?_ | refine awp_region (fun _ => hmix) ?_ | refine ARun.op rfl (by first | exact True.intro | exact rfl | (unfold inR; omega) | omega | ((try unfold inR); simp only [decide_eq_true_eq, decide_eq_false_iff_not, beq_iff_eq, beq_eq_false_iff_ne, ne_eq, Bool.not_eq_true', Bool.not_eq_false', List.length_map, List.length_append, List.length_take, List.length_drop, List.length_replicate, List.length_cons, List.length_nil] at *; omega)) ?_ | refine ARun.indexAgg rfl rfl (by omega) (by omega) rfl rfl rfl rfl rfl rfl rfl (guardF_spec rfl) ?_ | ((first | refine ARun.fin (by first | (intro h; cases h; done) | (intro _; kernel_rfl)) ?_ | refine awp_skip ?_ | refine awp_exit ?_); dsimp only [thenA, blockA, AS.bump, List.length_cons, List.length_nil, reduceIte, Nat.reduceEqDiff]) | refine awp_condT rfl (by first | rfl | assumption | exact beq_int _ | exact bne_int _) ?_ | refine awp_condF rfl (by first | rfl | assumption | exact beq_int _ | exact bne_int _) ?_ | ((fail_if_success refine ARun.plain rfl ?_); first | refine ARun.knowT rfl rfl rfl (by first | rfl | assumption | exact beq_int _ | exact bne_int _) ?_ | refine ARun.knowF rfl rfl rfl (by first | rfl | assumption | exact beq_int _ | exact bne_int _) ?_ | refine ARun.fork rfl rfl rfl (fun h => ?_) (fun h => ?_)) | refine awp_cond rfl (fun h => ?_) (fun h => ?_)))
    refine awp_loopT (T := Nat) (fun t => ⟨[(17, .val (.int .i64 0)), (16, .val (.int .i64 0)), (1, .mo 6 1), (10, .agg kArr), (11, .val (.int .i64 ((0 : Nat) : Int)))], [(6, some ⟨1, 0, KB 0⟩)], t⟩) (fun _ => True) (fun _ => 0) _ trivial ⟨⟨rfl, rfl, rfl, rfl, rfl, trivial⟩, ⟨rfl, trivial⟩, Nat.le_refl _⟩ (fun t _ => ?_)
    have d2 : decide ((0 : Int) < 0) = false := decide_eq_false (by omega)
    (repeat' (first | refine awp_seq ?_ | refine awp_block ?_ | refine awp_region (fun _ => hmix) ?_ | refine ARun.op rfl (by first | exact True.intro | exact rfl | (unfold inR; omega) | omega | ((try unfold inR); simp only [decide_eq_true_eq, decide_eq_false_iff_not, beq_iff_eq, beq_eq_false_iff_ne, ne_eq, Bool.not_eq_true', Bool.not_eq_false', List.length_map, List.length_append, List.length_take, List.length_drop, List.length_replicate, List.length_cons, List.length_nil] at *; omega)) ?_ | ((first | refine ARun.fin (by first | (intro h; cases h; done) | (intro _; kernel_rfl)) ?_ | refine awp_skip ?_ | refine awp_exit ?_); dsimp only [thenA, blockA, AS.bump, List.length_cons, List.length_nil, reduceIte, Nat.reduceEqDiff]) | refine awp_condT rfl (by first | rfl | assumption | exact beq_int _ | exact bne_int _) ?_ | refine awp_condF rfl (by first | rfl | assumption | exact beq_int _ | exact bne_int _) ?_ | ((fail_if_success refine ARun.plain rfl ?_); first | refine ARun.knowT rfl rfl rfl (by first | rfl | assumption | exact beq_int _ | exact bne_int _) ?_ | refine ARun.knowF rfl rfl rfl (by first | rfl | assumption | exact beq_int _ | exact bne_int _) ?_ | refine ARun.fork rfl rfl rfl (fun h => ?_) (fun h => ?_)) | refine awp_cond rfl (fun h => ?_) (fun h => ?_)))
    exact ⟨(1, _), ⟨⟨rfl, rfl, rfl, trivial⟩, ⟨rfl, trivial⟩, Nat.le_refl _⟩, by omega, by dsimp only; omega⟩
  | 1, _ =>
    have d1 : decide (((1 : Nat) : Int) < 4) = true := decide_eq_true (by omega)
    (repeat' (first | refine awp_seq ?_ | refine awp_block ?_ | refine awp_region (fun _ => hmix) ?_ | refine ARun.op rfl (by first | exact True.intro | exact rfl | (unfold inR; omega) | omega | ((try unfold inR); simp only [decide_eq_true_eq, decide_eq_false_iff_not, beq_iff_eq, beq_eq_false_iff_ne, ne_eq, Bool.not_eq_true', Bool.not_eq_false', List.length_map, List.length_append, List.length_take, List.length_drop, List.length_replicate, List.length_cons, List.length_nil] at *; omega)) ?_ | refine ARun.indexAgg rfl rfl (by omega) (by omega) rfl rfl rfl rfl rfl rfl rfl (guardF_spec rfl) ?_ | ((first | refine ARun.fin (by first | (intro h; cases h; done) | (intro _; kernel_rfl)) ?_ | refine awp_skip ?_ | refine awp_exit ?_); dsimp only [thenA, blockA, AS.bump, List.length_cons, List.length_nil, reduceIte, Nat.reduceEqDiff]) | refine awp_condT rfl (by first | rfl | assumption | exact beq_int _ | exact bne_int _) ?_ | refine awp_condF rfl (by first | rfl | assumption | exact beq_int _ | exact bne_int _) ?_ | ((fail_if_success refine ARun.plain rfl ?_); first | refine ARun.knowT rfl rfl rfl (by first | rfl | assumption | exact beq_int _ | exact bne_int _) ?_ | refine ARun.knowF rfl rfl rfl (by first | rfl | assumption | exact beq_int _ | exact bne_int _) ?_ | refine ARun.fork rfl rfl rfl (fun h => ?_) (fun h => ?_)) | refine awp_cond rfl (fun h => ?_) (fun h => ?_)))
    refine awp_loopT (T := Nat × Nat) (fun t => ⟨[(17, .val (.int .i64 (t.1 : Nat))), (16, .val (.int .i64 (((onlyV.map encN).length : Nat)))), (15, .sl 1 true (onlyV.map encN)), (1, .mo 6 1), (2, .val (.int .i64 1)), (10, .agg kArr), (11, .val (.int .i64 ((1 : Nat) : Int)))], [(6, some ⟨1, 0, KB (0 + t.1)⟩)], t.2⟩) (fun t => t.1 ≤ onlyV.length) (fun t => onlyV.length - t.1) (0, _) (Nat.zero_le _) ⟨⟨rfl, rfl, rfl, rfl, rfl, rfl, rfl, trivial⟩, ⟨rfl, trivial⟩, Nat.le_refl _⟩ (fun t ht => ?_)
    obtain ⟨j, gc⟩ := t
    dsimp only at ht ⊢
    have hL := onlyV_len
    by_cases hlt : j < onlyV.length
    · have hc : decide (((j : Nat) : Int) < (((onlyV.map encN).length : Nat) : Int)) = true := by rw [List.length_map]; exact decide_eq_true (by omega)
      have hp : onlyV[j]? = some onlyV[j] := List.getElem?_eq_getElem hlt
      generalize onlyV[j] = a at hp
      obtain ⟨hk, hv⟩ := row1K hp
      (repeat' (first | refine awp_seq ?_ | refine awp_block ?_ | refine awp_region (fun _ => hmix) ?_ | refine ARun.op rfl (by first | exact True.intro | exact rfl | (unfold inR; omega) | omega | ((try unfold inR); simp only [decide_eq_true_eq, decide_eq_false_iff_not, beq_iff_eq, beq_eq_false_iff_ne, ne_eq, Bool.not_eq_true', Bool.not_eq_false', List.length_map, List.length_append, List.length_take, List.length_drop, List.length_replicate, List.length_cons, List.length_nil] at *; omega)) ?_ | refine ARun.indexAddr rfl rfl (by omega) (by first | with_reducible exact get_map hp | with_reducible exact get_map hp) rfl rfl rfl rfl rfl (guardF_spec rfl) ?_ | refine ARun.putKeyE rfl rfl rfl rfl rfl rfl rfl Try.underlying9 rfl (keyNone_str (kAll_not hk)) (ks_step hk) (vs_step hv) (guardF_spec rfl) ?_ | ((first | refine ARun.fin (by first | (intro h; cases h; done) | (intro _; kernel_rfl)) ?_ | refine awp_skip ?_ | refine awp_exit ?_); dsimp only [thenA, blockA, AS.bump, List.length_cons, List.length_nil, reduceIte, Nat.reduceEqDiff]) | refine awp_condT rfl (by first | rfl | assumption | exact beq_int _ | exact bne_int _) ?_ | refine awp_condF rfl (by first | rfl | assumption | exact beq_int _ | exact bne_int _) ?_ | ((fail_if_success refine ARun.plain rfl ?_); first | refine ARun.knowT rfl rfl rfl (by first | rfl | assumption | exact beq_int _ | exact bne_int _) ?_ | refine ARun.knowF rfl rfl rfl (by first | rfl | assumption | exact beq_int _ | exact bne_int _) ?_ | refine ARun.fork rfl rfl rfl (fun h => ?_) (fun h => ?_)) | refine awp_cond rfl (fun h => ?_) (fun h => ?_)))
      exact ⟨(j + 1, _), ⟨⟨succI j, rfl, rfl, rfl, rfl, rfl, rfl, trivial⟩, ⟨rfl, trivial⟩, Nat.le_refl _⟩, hlt, (by dsimp only; omega)⟩
    · have hjj : j = onlyV.length := by omega
      subst hjj
      have hc : decide (((onlyV.length : Nat) : Int) < (((onlyV.map encN).length : Nat) : Int)) = false := by rw [List.length_map]; exact decide_eq_false (by omega)
      (repeat' (first | refine awp_seq ?_ | refine awp_block ?_ | refine awp_region (fun _ => hmix) ?_ | refine ARun.op rfl (by first | exact True.intro | exact rfl | (unfold inR; omega) | omega | ((try unfold inR); simp only [decide_eq_true_eq, decide_eq_false_iff_not, beq_iff_eq, beq_eq_false_iff_ne, ne_eq, Bool.not_eq_true', Bool.not_eq_false', List.length_map, List.length_append, List.length_take, List.length_drop, List.length_replicate, List.length_cons, List.length_nil] at *; omega)) ?_ | ((first | refine ARun.fin (by first | (intro h; cases h; done) | (intro _; kernel_rfl)) ?_ | refine awp_skip ?_ | refine awp_exit ?_); dsimp only [thenA, blockA, AS.bump, List.length_cons, List.length_nil, reduceIte, Nat.reduceEqDiff]) | refine awp_condT rfl (by first | rfl | assumption | exact beq_int _ | exact bne_int _) ?_ | refine awp_condF rfl (by first | rfl | assumption | exact beq_int _ | exact bne_int _) ?_ | ((fail_if_success refine ARun.plain rfl ?_); first | refine ARun.knowT rfl rfl rfl (by first | rfl | assumption | exact beq_int _ | exact bne_int _) ?_ | refine ARun.knowF rfl rfl rfl (by first | rfl | assumption | exact beq_int _ | exact bne_int _) ?_ | refine ARun.fork rfl rfl rfl (fun h => ?_) (fun h => ?_)) | refine awp_cond rfl (fun h => ?_) (fun h => ?_)))
      exact ⟨(2, _), ⟨⟨rfl, rfl, rfl, trivial⟩, ⟨rfl, trivial⟩, Nat.le_refl _⟩, by omega, by dsimp only; omega⟩
  | 2, _ =>
    have d1 : decide (((2 : Nat) : Int) < 4) = true := decide_eq_true (by omega)
    (repeat' (first | refine awp_seq ?_ | refine awp_block ?_ | refine awp_region (fun _ => hmix) ?_ | refine ARun.op rfl (by first | exact True.intro | exact rfl | (unfold inR; omega) | omega | ((try unfold inR); simp only [decide_eq_true_eq, decide_eq_false_iff_not, beq_iff_eq, beq_eq_false_iff_ne, ne_eq, Bool.not_eq_true', Bool.not_eq_false', List.length_map, List.length_append, List.length_take, List.length_drop, List.length_replicate, List.length_cons, List.length_nil] at *; omega)) ?_ | refine ARun.indexAgg rfl rfl (by omega) (by omega) rfl rfl rfl rfl rfl rfl rfl (guardF_spec rfl) ?_ | ((first | refine ARun.fin (by first | (intro h; cases h; done) | (intro _; kernel_rfl)) ?_ | refine awp_skip ?_ | refine awp_exit ?_); dsimp only [thenA, blockA, AS.bump, List.length_cons, List.length_nil, reduceIte, Nat.reduceEqDiff]) | refine awp_condT rfl (by first | rfl | assumption | exact beq_int _ | exact bne_int _) ?_ | refine awp_condF rfl (by first | rfl | assumption | exact beq_int _ | exact bne_int _) ?_ | ((fail_if_success refine ARun.plain rfl ?_); first | refine ARun.knowT rfl rfl rfl (by first | rfl | assumption | exact beq_int _ | exact bne_int _) ?_ | refine ARun.knowF rfl rfl rfl (by first | rfl | assumption | exact beq_int _ | exact bne_int _) ?_ | refine ARun.fork rfl rfl rfl (fun h => ?_) (fun h => ?_)) | refine awp_cond rfl (fun h => ?_) (fun h => ?_)))
    refine awp_loopT (T := Nat × Nat) (fun t => ⟨[(17, .val (.int .i64 (t.1 : Nat))), (16, .val (.int .i64 (((nowV.map encN).length : Nat)))), (15, .sl 1 true (nowV.map encN)), (1, .mo 6 1), (2, .val (.int .i64 2)), (10, .agg kArr), (11, .val (.int .i64 ((2 : Nat) : Int)))], [(6, some ⟨1, 0, KB (8 + t.1)⟩)], t.2⟩) (fun t => t.1 ≤ nowV.length) (fun t => nowV.length - t.1) (0, _) (Nat.zero_le _) ⟨⟨rfl, rfl, rfl, rfl, rfl, rfl, rfl, trivial⟩, ⟨rfl, trivial⟩, Nat.le_refl _⟩ (fun t ht => ?_)
    obtain ⟨j, gc⟩ := t
    dsimp only at ht ⊢
    have hL := nowV_len
    by_cases hlt : j < nowV.length
    · have hc : decide (((j : Nat) : Int) < (((nowV.map encN).length : Nat) : Int)) = true := by rw [List.length_map]; exact decide_eq_true (by omega)
      have hp : nowV[j]? = some nowV[j] := List.getElem?_eq_getElem hlt
      generalize nowV[j] = a at hp
      obtain ⟨hk, hv⟩ := row2K hp
      (repeat' (first | refine awp_seq ?_ | refine awp_block ?_ | refine awp_region (fun _ => hmix) ?_ | refine ARun.op rfl (by first | exact True.intro | exact rfl | (unfold inR; omega) | omega | ((try unfold inR); simp only [decide_eq_true_eq, decide_eq_false_iff_not, beq_iff_eq, beq_eq_false_iff_ne, ne_eq, Bool.not_eq_true', Bool.not_eq_false', List.length_map, List.length_append, List.length_take, List.length_drop, List.length_replicate, List.length_cons, List.length_nil] at *; omega)) ?_ | refine ARun.indexAddr rfl rfl (by omega) (by first | with_reducible exact get_map hp | with_reducible exact get_map hp) rfl rfl rfl rfl rfl (guardF_spec rfl) ?_ | refine ARun.putKeyE rfl rfl rfl rfl rfl rfl rfl Try.underlying9 rfl (keyNone_str (kAll_not hk)) (ks_step hk) (vs_step hv) (guardF_spec rfl) ?_ | ((first | refine ARun.fin (by first | (intro h; cases h; done) | (intro _; kernel_rfl)) ?_ | refine awp_skip ?_ | refine awp_exit ?_); dsimp only [thenA, blockA, AS.bump, List.length_cons, List.length_nil, reduceIte, Nat.reduceEqDiff]) | refine awp_condT rfl (by first | rfl | assumption | exact beq_int _ | exact bne_int _) ?_ | refine awp_condF rfl (by first | rfl | assumption | exact beq_int _ | exact bne_int _) ?_ | ((fail_if_success refine ARun.plain rfl ?_); first | refine ARun.knowT rfl rfl rfl (by first | rfl | assumption | exact beq_int _ | exact bne_int _) ?_ | refine ARun.knowF rfl rfl rfl (by first | rfl | assumption | exact beq_int _ | exact bne_int _) ?_ | refine ARun.fork rfl rfl rfl (fun h => ?_) (fun h => ?_)) | refine awp_cond rfl (fun h => ?_) (fun h => ?_)))
      exact ⟨(j + 1, _), ⟨⟨succI j, rfl, rfl, rfl, rfl, rfl, rfl, trivial⟩, ⟨rfl, trivial⟩, Nat.le_refl _⟩, hlt, (by dsimp only; omega)⟩
    · have hjj : j = nowV.length := by omega
      subst hjj
      have hc : decide (((nowV.length : Nat) : Int) < (((nowV.map encN).length : Nat) : Int)) = false := by rw [List.length_map]; exact decide_eq_false (by omega)
      (repeat' (first | refine awp_seq ?_ | refine awp_block ?_ | refine awp_region (fun _ => hmix) ?_ | refine ARun.op rfl (by first | exact True.intro | exact rfl | (unfold inR; omega) | omega | ((try unfold inR); simp only [decide_eq_true_eq, decide_eq_false_iff_not, beq_iff_eq, beq_eq_false_iff_ne, ne_eq, Bool.not_eq_true', Bool.not_eq_false', List.length_map, List.length_append, List.length_take, List.length_drop, List.length_replicate, List.length_cons, List.length_nil] at *; omega)) ?_ | ((first | refine ARun.fin (by first | (intro h; cases h; done) | (intro _; kernel_rfl)) ?_ | refine awp_skip ?_ | refine awp_exit ?_); dsimp only [thenA, blockA, AS.bump, List.length_cons, List.length_nil, reduceIte, Nat.reduceEqDiff]) | refine awp_condT rfl (by first | rfl | assumption | exact beq_int _ | exact bne_int _) ?_ | refine awp_condF rfl (by first | rfl | assumption | exact beq_int _ | exact bne_int _) ?_ | ((fail_if_success refine ARun.plain rfl ?_); first | refine ARun.knowT rfl rfl rfl (by first | rfl | assumption | exact beq_int _ | exact bne_int _) ?_ | refine ARun.knowF rfl rfl rfl (by first | rfl | assumption | exact beq_int _ | exact bne_int _) ?_ | refine ARun.fork rfl rfl rfl (fun h => ?_) (fun h => ?_)) | refine awp_cond rfl (fun h => ?_) (fun h => ?_)))
      exact ⟨(3, _), ⟨⟨rfl, rfl, rfl, trivial⟩, ⟨rfl, trivial⟩, Nat.le_refl _⟩, by omega, by dsimp only; omega⟩
  | 3, _ =>
    have d1 : decide (((3 : Nat) : Int) < 4) = true := decide_eq_true (by omega)
    (repeat' (first | refine awp_seq ?_ | refine awp_block ?_ | refine awp_region (fun _ => hmix) ?_ | refine ARun.op rfl (by first | exact True.intro | exact rfl | (unfold inR; omega) | omega | ((try unfold inR); simp only [decide_eq_true_eq, decide_eq_false_iff_not, beq_iff_eq, beq_eq_false_iff_ne, ne_eq, Bool.not_eq_true', Bool.not_eq_false', List.length_map, List.length_append, List.length_take, List.length_drop, List.length_replicate, List.length_cons, List.length_nil] at *; omega)) ?_ | refine ARun.indexAgg rfl rfl (by omega) (by omega) rfl rfl rfl rfl rfl rfl rfl (guardF_spec rfl) ?_ | ((first | refine ARun.fin (by first | (intro h; cases h; done) | (intro _; kernel_rfl)) ?_ | refine awp_skip ?_ | refine awp_exit ?_); dsimp only [thenA, blockA, AS.bump, List.length_cons, List.length_nil, reduceIte, Nat.reduceEqDiff]) | refine awp_condT rfl (by first | rfl | assumption | exact beq_int _ | exact bne_int _) ?_ | refine awp_condF rfl (by first | rfl | assumption | exact beq_int _ | exact bne_int _) ?_ | ((fail_if_success refine ARun.plain rfl ?_); first | refine ARun.knowT rfl rfl rfl (by first | rfl | assumption | exact beq_int _ | exact bne_int _) ?_ | refine ARun.knowF rfl rfl rfl (by first | rfl | assumption | exact beq_int _ | exact bne_int _) ?_ | refine ARun.fork rfl rfl rfl (fun h => ?_) (fun h => ?_)) | refine awp_cond rfl (fun h => ?_) (fun h => ?_)))
    refine awp_loopT (T := Nat × Nat) (fun t => ⟨[(17, .val (.int .i64 (t.1 : Nat))), (16, .val (.int .i64 (((bothV.map encN).length : Nat)))), (15, .sl 1 true (bothV.map encN)), (1, .mo 6 1), (2, .val (.int .i64 3)), (10, .agg kArr), (11, .val (.int .i64 ((3 : Nat) : Int)))], [(6, some ⟨1, 0, KB (12 + t.1)⟩)], t.2⟩) (fun t => t.1 ≤ bothV.length) (fun t => bothV.length - t.1) (0, _) (Nat.zero_le _) ⟨⟨rfl, rfl, rfl, rfl, rfl, rfl, rfl, trivial⟩, ⟨rfl, trivial⟩, Nat.le_refl _⟩ (fun t ht => ?_)
    obtain ⟨j, gc⟩ := t
    dsimp only at ht ⊢
    have hL := bothV_len
    by_cases hlt : j < bothV.length
    · have hc : decide (((j : Nat) : Int) < (((bothV.map encN).length : Nat) : Int)) = true := by rw [List.length_map]; exact decide_eq_true (by omega)
      have hp : bothV[j]? = some bothV[j] := List.getElem?_eq_getElem hlt
      generalize bothV[j] = a at hp
      obtain ⟨hk, hv⟩ := row3K hp
      (repeat' (first | refine awp_seq ?_ | refine awp_block ?_ | refine awp_region (fun _ => hmix) ?_ | refine ARun.op rfl (by first | exact True.intro | exact rfl | (unfold inR; omega) | omega | ((try unfold inR); simp only [decide_eq_true_eq, decide_eq_false_iff_not, beq_iff_eq, beq_eq_false_iff_ne, ne_eq, Bool.not_eq_true', Bool.not_eq_false', List.length_map, List.length_append, List.length_take, List.length_drop, List.length_replicate, List.length_cons, List.length_nil] at *; omega)) ?_ | refine ARun.indexAddr rfl rfl (by omega) (by first | with_reducible exact get_map hp | with_reducible exact get_map hp) rfl rfl rfl rfl rfl (guardF_spec rfl) ?_ | refine ARun.putKeyE rfl rfl rfl rfl rfl rfl rfl Try.underlying9 rfl (keyNone_str (kAll_not hk)) (ks_step hk) (vs_step hv) (guardF_spec rfl) ?_ | ((first | refine ARun.fin (by first | (intro h; cases h; done) | (intro _; kernel_rfl)) ?_ | refine awp_skip ?_ | refine awp_exit ?_); dsimp only [thenA, blockA, AS.bump, List.length_cons, List.length_nil, reduceIte, Nat.reduceEqDiff]) | refine awp_condT rfl (by first | rfl | assumption | exact beq_int _ | exact bne_int _) ?_ | refine awp_condF rfl (by first | rfl | assumption | exact beq_int _ | exact bne_int _) ?_ | ((fail_if_success refine ARun.plain rfl ?_); first | refine ARun.knowT rfl rfl rfl (by first | rfl | assumption | exact beq_int _ | exact bne_int _) ?_ | refine ARun.knowF rfl rfl rfl (by first | rfl | assumption | exact beq_int _ | exact bne_int _) ?_ | refine ARun.fork rfl rfl rfl (fun h => ?_) (fun h => ?_)) | refine awp_cond rfl (fun h => ?_) (fun h => ?_)))
      exact ⟨(j + 1, _), ⟨⟨succI j, rfl, rfl, rfl, rfl, rfl, rfl, trivial⟩, ⟨rfl, trivial⟩, Nat.le_refl _⟩, hlt, (by dsimp only; omega)⟩
    · have hjj : j = bothV.length := by omega
      subst hjj
      have hc : decide (((bothV.length : Nat) : Int) < (((bothV.map encN).length : Nat) : Int)) = false := by rw [List.length_map]; exact decide_eq_false (by omega)
      (repeat' (first | refine awp_seq ?_ | refine awp_block ?_ | refine awp_region (fun _ => hmix) ?_ | refine ARun.op rfl (by first | exact True.intro | exact rfl | (unfold inR; omega) | omega | ((try unfold inR); simp only [decide_eq_true_eq, decide_eq_false_iff_not, beq_iff_eq, beq_eq_false_iff_ne, ne_eq, Bool.not_eq_true', Bool.not_eq_false', List.length_map, List.length_append, List.length_take, List.length_drop, List.length_replicate, List.length_cons, List.length_nil] at *; omega)) ?_ | ((first | refine ARun.fin (by first | (intro h; cases h; done) | (intro _; kernel_rfl)) ?_ | refine awp_skip ?_ | refine awp_exit ?_); dsimp only [thenA, blockA, AS.bump, List.length_cons, List.length_nil, reduceIte, Nat.reduceEqDiff]) | refine awp_condT rfl (by first | rfl | assumption | exact beq_int _ | exact bne_int _) ?_ | refine awp_condF rfl (by first | rfl | assumption | exact beq_int _ | exact bne_int _) ?_ | ((fail_if_success refine ARun.plain rfl ?_); first | refine ARun.knowT rfl rfl rfl (by first | rfl | assumption | exact beq_int _ | exact bne_int _) ?_ | refine ARun.knowF rfl rfl rfl (by first | rfl | assumption | exact beq_int _ | exact bne_int _) ?_ | refine ARun.fork rfl rfl rfl (fun h => ?_) (fun h => ?_)) | refine awp_cond rfl (fun h => ?_) (fun h => ?_)))
      exact ⟨(4, _), ⟨⟨rfl, rfl, rfl, trivial⟩, ⟨rfl, trivial⟩, Nat.le_refl _⟩, by omega, by dsimp only; omega⟩
  | 4, _ =>
    have d1 : decide (((4 : Nat) : Int) < 4) = false := decide_eq_false (by omega)
    (repeat' (first | refine awp_seq ?_ | refine awp_block ?_ | refine awp_region (fun _ => hmix) ?_ | refine ARun.op rfl (by first | exact True.intro | exact rfl | (unfold inR; omega) | omega | ((try unfold inR); simp only [decide_eq_true_eq, decide_eq_false_iff_not, beq_iff_eq, beq_eq_false_iff_ne, ne_eq, Bool.not_eq_true', Bool.not_eq_false', List.length_map, List.length_append, List.length_take, List.length_drop, List.length_replicate, List.length_cons, List.length_nil] at *; omega)) ?_ | ((first | refine ARun.fin (by first | (intro h; cases h; done) | (intro _; kernel_rfl)) ?_ | refine awp_skip ?_ | refine awp_exit ?_); dsimp only [thenA, blockA, AS.bump, List.length_cons, List.length_nil, reduceIte, Nat.reduceEqDiff]) | refine awp_condT rfl (by first | rfl | assumption | exact beq_int _ | exact bne_int _) ?_ | refine awp_condF rfl (by first | rfl | assumption | exact beq_int _ | exact bne_int _) ?_ | ((fail_if_success refine ARun.plain rfl ?_); first | refine ARun.knowT rfl rfl rfl (by first | rfl | assumption | exact beq_int _ | exact bne_int _) ?_ | refine ARun.knowF rfl rfl rfl (by first | rfl | assumption | exact beq_int _ | exact bne_int _) ?_ | refine ARun.fork rfl rfl rfl (fun h => ?_) (fun h => ?_)) | refine awp_cond rfl (fun h => ?_) (fun h => ?_)))
    refine awp_ret ⟨_, ResL.cons (ResA.tmp (.made (ks := kAll.map kStr) (vs := vI.map encV1) rfl rfl ?_)) .nil, rfl⟩
    exact closed_vI 34
  | i + 5, ht => omega
theorem zeroInt : ∃ z, Try.prog.info? 3 = some z ∧ ∃ zz, z.zero = some zz ∧ ∀ c w, Rep c w (.val (.int .i64 0)) zz := by
  have h1 : (match Try.prog.info? 3 with | some z => z.zero | none => none) = some (.int .i64 0) := by kernel_rfl
  cases h : Try.prog.info? 3 with
  | none => rw [h] at h1; cases h1
  | some z =>
    rw [h] at h1
    exact ⟨z, rfl, _, h1, fun c w => .val _⟩
theorem flags_c (a : Bs) (at' : Int) : FnC Try.prog 47 [St a, .val (.int .i64 at')] (.val (.int .i64 (flagsD a at'))) := by
  have c1 := kinds_c
  by_cases h0 : at' < 12
  · have d0 : decide (at' < 12) = true := decide_eq_true h0
    rw [show flagsD a at' = 6 from if_pos h0]
    refine FnC.of_awp (T := tt) (ok := tok) Try.func47 (by kernel_rfl) rfl (by kernel_rfl) (closedL_cons (.val _) (closedL_cons (.val _) closedL_nil)) (fun w0 st0 => ?_)
    dsimp only [frOf]
    (repeat' (first | refine awp_seq ?_ | refine awp_block ?_ | refine awp_region (fun _ => hmix) ?_ | refine ARun.op rfl (by first | exact True.intro | exact rfl | (unfold inR; omega) | omega | ((try unfold inR); simp only [decide_eq_true_eq, decide_eq_false_iff_not, beq_iff_eq, beq_eq_false_iff_ne, ne_eq, Bool.not_eq_true', Bool.not_eq_false', List.length_map, List.length_append, List.length_take, List.length_drop, List.length_replicate, List.length_cons, List.length_nil] at *; omega)) ?_ | ((first | refine ARun.fin (by first | (intro h; cases h; done) | (intro _; kernel_rfl)) ?_ | refine awp_skip ?_ | refine awp_exit ?_); dsimp only [thenA, blockA, AS.bump, List.length_cons, List.length_nil, reduceIte, Nat.reduceEqDiff]) | refine awp_condT rfl (by first | rfl | assumption | exact beq_int _ | exact bne_int _) ?_ | refine awp_condF rfl (by first | rfl | assumption | exact beq_int _ | exact bne_int _) ?_ | ((fail_if_success refine ARun.plain rfl ?_); first | refine ARun.knowT rfl rfl rfl (by first | rfl | assumption | exact beq_int _ | exact bne_int _) ?_ | refine ARun.knowF rfl rfl rfl (by first | rfl | assumption | exact beq_int _ | exact bne_int _) ?_ | refine ARun.fork rfl rfl rfl (fun h => ?_) (fun h => ?_)) | refine awp_cond rfl (fun h => ?_) (fun h => ?_)))
    exact awp_ret ⟨_, ResL.cons (ResA.tmp (.val _)) .nil, rfl⟩
  have d0 : decide (at' < 12) = false := decide_eq_false h0
  have main : ∀ n r : Int, ((n = 0 ∧ r = 0) ∨ (n = 1 ∧ r = 4) ∨ (n = 2 ∧ r = 1) ∨ (n = 3 ∧ r = 5)) → ((∃ j, keyAt .string (kStr a) (kAll.map kStr) 0 = some j ∧ (vI.map encV1)[j]? = some (.val (.int .i64 n))) ∨ (keyNone .string (kStr a) (kAll.map kStr) = true ∧ n = 0)) → FnC Try.prog 47 [St a, .val (.int .i64 at')] (.val (.int .i64 r)) := by
    intro n r hr hk
    generalize kAll.map kStr = ks at *
    generalize vI.map encV1 = vs at *
    rcases hr with ⟨rfl, rfl⟩ | ⟨rfl, rfl⟩ | ⟨rfl, rfl⟩ | ⟨rfl, rfl⟩
    all_goals
      have q1 : ((0 : Int) == 1) = false := beq_eq_false_iff_ne.2 (by omega)
      have q2 : ((0 : Int) == 2) = false := beq_eq_false_iff_ne.2 (by omega)
      have q3 : ((0 : Int) == 3) = false := beq_eq_false_iff_ne.2 (by omega)
      have q4 : ((2 : Int) == 1) = false := beq_eq_false_iff_ne.2 (by omega)
      have q5 : ((3 : Int) == 1) = false := beq_eq_false_iff_ne.2 (by omega)
      have q6 : ((3 : Int) == 2) = false := beq_eq_false_iff_ne.2 (by omega)
      rcases hk with ⟨j, hkey, hval⟩ | ⟨hno, hz⟩
      · refine FnC.of_awp (T := tt) (ok := tok) Try.func47 (by kernel_rfl) rfl (by kernel_rfl) (closedL_cons (.val _) (closedL_cons (.val _) closedL_nil)) (fun w0 st0 => ?_)
        dsimp only [frOf]
        (repeat' (first | refine awp_seq ?_ | refine awp_block ?_ | refine awp_region (fun _ => hmix) ?_ | refine ARun.op rfl (by first | exact True.intro | exact rfl | (unfold inR; omega) | omega | ((try unfold inR); simp only [decide_eq_true_eq, decide_eq_false_iff_not, beq_iff_eq, beq_eq_false_iff_ne, ne_eq, Bool.not_eq_true', Bool.not_eq_false', List.length_map, List.length_append, List.length_take, List.length_drop, List.length_replicate, List.length_cons, List.length_nil] at *; omega)) ?_ | refine callX (c1) rfl rfl rfl rfl ?_ | refine ARun.look1Hit rfl rfl rfl rfl Try.underlying9 rfl hkey hval rfl (guardF_spec rfl) ?_ | ((first | refine ARun.fin (by first | (intro h; cases h; done) | (intro _; kernel_rfl)) ?_ | refine awp_skip ?_ | refine awp_exit ?_); dsimp only [thenA, blockA, AS.bump, List.length_cons, List.length_nil, reduceIte, Nat.reduceEqDiff]) | refine awp_condT rfl (by first | rfl | assumption | exact beq_int _ | exact bne_int _) ?_ | refine awp_condF rfl (by first | rfl | assumption | exact beq_int _ | exact bne_int _) ?_ | ((fail_if_success refine ARun.plain rfl ?_); first | refine ARun.knowT rfl rfl rfl (by first | rfl | assumption | exact beq_int _ | exact bne_int _) ?_ | refine ARun.knowF rfl rfl rfl (by first | rfl | assumption | exact beq_int _ | exact bne_int _) ?_)))
        exact awp_ret ⟨_, ResL.cons (ResA.tmp (.val _)) .nil, rfl⟩
      · first
          | (exfalso; omega)
          | (refine FnC.of_awp (T := tt) (ok := tok) Try.func47 (by kernel_rfl) rfl (by kernel_rfl) (closedL_cons (.val _) (closedL_cons (.val _) closedL_nil)) (fun w0 st0 => ?_)
             dsimp only [frOf]
             (repeat' (first | refine awp_seq ?_ | refine awp_block ?_ | refine awp_region (fun _ => hmix) ?_ | refine ARun.op rfl (by first | exact True.intro | exact rfl | (unfold inR; omega) | omega | ((try unfold inR); simp only [decide_eq_true_eq, decide_eq_false_iff_not, beq_iff_eq, beq_eq_false_iff_ne, ne_eq, Bool.not_eq_true', Bool.not_eq_false', List.length_map, List.length_append, List.length_take, List.length_drop, List.length_replicate, List.length_cons, List.length_nil] at *; omega)) ?_ | refine callX (c1) rfl rfl rfl rfl ?_ | refine ARun.look1Miss (v := .val (.int .i64 0)) rfl rfl rfl rfl Try.underlying9 rfl hno rfl (guardF_spec rfl) zeroInt ?_ | ((first | refine ARun.fin (by first | (intro h; cases h; done) | (intro _; kernel_rfl)) ?_ | refine awp_skip ?_ | refine awp_exit ?_); dsimp only [thenA, blockA, AS.bump, List.length_cons, List.length_nil, reduceIte, Nat.reduceEqDiff]) | refine awp_condT rfl (by first | rfl | assumption | exact beq_int _ | exact bne_int _) ?_ | refine awp_condF rfl (by first | rfl | assumption | exact beq_int _ | exact bne_int _) ?_ | ((fail_if_success refine ARun.plain rfl ?_); first | refine ARun.knowT rfl rfl rfl (by first | rfl | assumption | exact beq_int _ | exact bne_int _) ?_ | refine ARun.knowF rfl rfl rfl (by first | rfl | assumption | exact beq_int _ | exact bne_int _) ?_)))
             exact awp_ret ⟨_, ResL.cons (ResA.tmp (.val _)) .nil, rfl⟩)
  rw [flags_val a at' h0]
  refine main (valD a) _ ?_ ?_
  · rcases valD_range a with h | h | h | h
    · rw [h]; exact .inl ⟨rfl, by simp⟩
    · rw [h]; exact .inr (.inl ⟨rfl, by simp⟩)
    · rw [h]; exact .inr (.inr (.inl ⟨rfl, by simp⟩))
    · rw [h]; exact .inr (.inr (.inr ⟨rfl, by simp⟩))
  by_cases hm : a ∈ kAll
  · obtain ⟨j, h1, h2⟩ := look_hit hm
    exact .inl ⟨j, h1, by rw [List.getElem?_map, h2]; rfl⟩
  · exact .inr ⟨keyNone_str hm, val_none hm⟩
theorem in_c (l : List Bs) (s : Bs) (hl : l.length ≤ 1000000) : FnC Try.prog 92 [.sl 1 false (l.map encN), St s] (.val (.bool (decide (s ∈ l)))) := by
  refine FnC.of_awp (T := tt) (ok := tok) Try.func92 (by kernel_rfl) rfl (by kernel_rfl) (closedL_cons (closed_ns l) (closedL_cons (.val _) closedL_nil)) (fun w0 st0 => ?_)
  dsimp only [frOf]
  (repeat' (first | refine awp_seq ?_ | refine awp_block ?_ | refine awp_region (fun _ => hmix) ?_ | refine ARun.op rfl (by first | exact True.intro | exact rfl | (unfold inR; omega) | omega | ((try unfold inR); simp only [decide_eq_true_eq, decide_eq_false_iff_not, beq_iff_eq, beq_eq_false_iff_ne, ne_eq, Bool.not_eq_true', Bool.not_eq_false', List.length_map, List.length_append, List.length_take, List.length_drop, List.length_replicate, List.length_cons, List.length_nil] at *; omega)) ?_ | ((first | refine ARun.fin (by first | (intro h; cases h; done) | (intro _; kernel_rfl)) ?_ | refine awp_skip ?_ | refine awp_exit ?_); dsimp only [thenA, blockA, AS.bump, List.length_cons, List.length_nil, reduceIte, Nat.reduceEqDiff]) | refine awp_condT rfl (by first | rfl | assumption | exact beq_int _ | exact bne_int _) ?_ | refine awp_condF rfl (by first | rfl | assumption | exact beq_int _ | exact bne_int _) ?_ | ((fail_if_success refine ARun.plain rfl ?_); first | refine ARun.knowT rfl rfl rfl (by first | rfl | assumption | exact beq_int _ | exact bne_int _) ?_ | refine ARun.knowF rfl rfl rfl (by first | rfl | assumption | exact beq_int _ | exact bne_int _) ?_ | refine ARun.fork rfl rfl rfl (fun h => ?_) (fun h => ?_)) | refine awp_cond rfl (fun h => ?_) (fun h => ?_)))
  refine awp_loopT (T := Nat × Nat) (fun t => ⟨[(5, .val (.int .i64 (t.1 : Nat))), (0, .sl 1 false (l.map encN)), (1, St s)], [], t.2⟩) (fun t => t.1 ≤ l.length ∧ s ∉ l.take t.1) (fun t => l.length - t.1) (0, _) ⟨Nat.zero_le _, by simp⟩ ⟨⟨rfl, rfl, rfl, trivial⟩, trivial, Nat.le_refl _⟩ (fun t ht => ?_)
  obtain ⟨k, gc⟩ := t
  obtain ⟨hk, hA⟩ := ht
  dsimp only at hk hA ⊢
  by_cases hlt : k < l.length
  · have hp : l[k]? = some l[k] := List.getElem?_eq_getElem hlt
    have hc : decide (((k : Nat) : Int) < (((l.map encN).length : Nat) : Int)) = true := by simp; omega
    generalize l[k] = a at hp
    by_cases h3 : a = s
    · have d3 : ((ByteArray.mk a.toArray).toList == (ByteArray.mk s.toArray).toList) = true := by rw [bs_eq]; exact decide_eq_true h3
      rw [show decide (s ∈ l) = true from decide_eq_true (by rw [← h3]; exact List.mem_of_getElem? hp)]
      (repeat' (first | refine awp_seq ?_ | refine awp_block ?_ | refine awp_region (fun _ => hmix) ?_ | refine ARun.op rfl (by first | exact True.intro | exact rfl | (unfold inR; omega) | omega | ((try unfold inR); simp only [decide_eq_true_eq, decide_eq_false_iff_not, beq_iff_eq, beq_eq_false_iff_ne, ne_eq, Bool.not_eq_true', Bool.not_eq_false', List.length_map, List.length_append, List.length_take, List.length_drop, List.length_replicate, List.length_cons, List.length_nil] at *; omega)) ?_ | refine ARun.indexAddr rfl rfl (by omega) (by first | with_reducible exact get_map hp) rfl rfl rfl rfl rfl (guardF_spec rfl) ?_ | ((first | refine ARun.fin (by first | (intro h; cases h; done) | (intro _; kernel_rfl)) ?_ | refine awp_skip ?_ | refine awp_exit ?_); dsimp only [thenA, blockA, AS.bump, List.length_cons, List.length_nil, reduceIte, Nat.reduceEqDiff]) | refine awp_condT rfl (by first | rfl | assumption | exact beq_int _ | exact bne_int _) ?_ | refine awp_condF rfl (by first | rfl | assumption | exact beq_int _ | exact bne_int _) ?_ | ((fail_if_success refine ARun.plain rfl ?_); first | refine ARun.knowT rfl rfl rfl (by first | rfl | assumption | exact beq_int _ | exact bne_int _) ?_ | refine ARun.knowF rfl rfl rfl (by first | rfl | assumption | exact beq_int _ | exact bne_int _) ?_ | refine ARun.fork rfl rfl rfl (fun h => ?_) (fun h => ?_)) | refine awp_cond rfl (fun h => ?_) (fun h => ?_)))
      exact awp_ret ⟨_, ResL.cons (ResA.tmp (.val _)) .nil, rfl⟩
    · have d3 : ((ByteArray.mk a.toArray).toList == (ByteArray.mk s.toArray).toList) = false := by rw [bs_eq]; exact decide_eq_false h3
      (repeat' (first | refine awp_seq ?_ | refine awp_block ?_ | refine awp_region (fun _ => hmix) ?_ | refine ARun.op rfl (by first | exact True.intro | exact rfl | (unfold inR; omega) | omega | ((try unfold inR); simp only [decide_eq_true_eq, decide_eq_false_iff_not, beq_iff_eq, beq_eq_false_iff_ne, ne_eq, Bool.not_eq_true', Bool.not_eq_false', List.length_map, List.length_append, List.length_take, List.length_drop, List.length_replicate, List.length_cons, List.length_nil] at *; omega)) ?_ | refine ARun.indexAddr rfl rfl (by omega) (by first | with_reducible exact get_map hp) rfl rfl rfl rfl rfl (guardF_spec rfl) ?_ | ((first | refine ARun.fin (by first | (intro h; cases h; done) | (intro _; kernel_rfl)) ?_ | refine awp_skip ?_ | refine awp_exit ?_); dsimp only [thenA, blockA, AS.bump, List.length_cons, List.length_nil, reduceIte, Nat.reduceEqDiff]) | refine awp_condT rfl (by first | rfl | assumption | exact beq_int _ | exact bne_int _) ?_ | refine awp_condF rfl (by first | rfl | assumption | exact beq_int _ | exact bne_int _) ?_ | ((fail_if_success refine ARun.plain rfl ?_); first | refine ARun.knowT rfl rfl rfl (by first | rfl | assumption | exact beq_int _ | exact bne_int _) ?_ | refine ARun.knowF rfl rfl rfl (by first | rfl | assumption | exact beq_int _ | exact bne_int _) ?_ | refine ARun.fork rfl rfl rfl (fun h => ?_) (fun h => ?_)) | refine awp_cond rfl (fun h => ?_) (fun h => ?_)))
      exact ⟨(k + 1, _), ⟨⟨succI k, rfl, rfl, trivial⟩, trivial, Nat.le_refl _⟩, ⟨hlt, by
        dsimp only
        rw [take_succ' hp]
        simp only [List.mem_append, List.mem_singleton, not_or]
        exact ⟨hA, fun e => h3 e.symm⟩⟩, (by dsimp only; omega)⟩
  · have hkk : k = l.length := by omega
    subst hkk
    have hc : decide (((l.length : Nat) : Int) < (((l.map encN).length : Nat) : Int)) = false := by simp
    rw [List.take_length] at hA
    rw [show decide (s ∈ l) = false from decide_eq_false hA]
    (repeat' (first | refine awp_seq ?_ | refine awp_block ?_ | refine awp_region (fun _ => hmix) ?_ | refine ARun.op rfl (by first | exact True.intro | exact rfl | (unfold inR; omega) | omega | ((try unfold inR); simp only [decide_eq_true_eq, decide_eq_false_iff_not, beq_iff_eq, beq_eq_false_iff_ne, ne_eq, Bool.not_eq_true', Bool.not_eq_false', List.length_map, List.length_append, List.length_take, List.length_drop, List.length_replicate, List.length_cons, List.length_nil] at *; omega)) ?_ | ((first | refine ARun.fin (by first | (intro h; cases h; done) | (intro _; kernel_rfl)) ?_ | refine awp_skip ?_ | refine awp_exit ?_); dsimp only [thenA, blockA, AS.bump, List.length_cons, List.length_nil, reduceIte, Nat.reduceEqDiff]) | refine awp_condT rfl (by first | rfl | assumption | exact beq_int _ | exact bne_int _) ?_ | refine awp_condF rfl (by first | rfl | assumption | exact beq_int _ | exact bne_int _) ?_ | ((fail_if_success refine ARun.plain rfl ?_); first | refine ARun.knowT rfl rfl rfl (by first | rfl | assumption | exact beq_int _ | exact bne_int _) ?_ | refine ARun.knowF rfl rfl rfl (by first | rfl | assumption | exact beq_int _ | exact bne_int _) ?_ | refine ARun.fork rfl rfl rfl (fun h => ?_) (fun h => ?_)) | refine awp_cond rfl (fun h => ?_) (fun h => ?_)))
    exact awp_ret ⟨_, ResL.cons (ResA.tmp (.val _)) .nil, rfl⟩
theorem ref_flags_c (a : Bs) (at' : Int) : FnC Try.prog 49 [St a, .val (.int .i64 at')] (.val (.int .i64 (flagsD a at'))) := by
  have c1 := in_c onlyV a (by rw [onlyV_len]; omega)
  have c2 := in_c nowV a (by rw [nowV_len]; omega)
  have c3 := in_c bothV a (by rw [bothV_len]; omega)
  by_cases h0 : at' < 12
  · have d0 : decide (at' < 12) = true := decide_eq_true h0
    rw [show flagsD a at' = 6 from if_pos h0]
    refine FnC.of_awp (T := tt) (ok := tok) Try.func49 (by kernel_rfl) rfl (by kernel_rfl) (closedL_cons (.val _) (closedL_cons (.val _) closedL_nil)) (fun w0 st0 => ?_)
    dsimp only [frOf]
    (repeat' (first | refine awp_seq ?_ | refine awp_block ?_ | refine awp_region (fun _ => hmix) ?_ | refine ARun.op rfl (by first | exact True.intro | exact rfl | (unfold inR; omega) | omega | ((try unfold inR); simp only [decide_eq_true_eq, decide_eq_false_iff_not, beq_iff_eq, beq_eq_false_iff_ne, ne_eq, Bool.not_eq_true', Bool.not_eq_false', List.length_map, List.length_append, List.length_take, List.length_drop, List.length_replicate, List.length_cons, List.length_nil] at *; omega)) ?_ | ((first | refine ARun.fin (by first | (intro h; cases h; done) | (intro _; kernel_rfl)) ?_ | refine awp_skip ?_ | refine awp_exit ?_); dsimp only [thenA, blockA, AS.bump, List.length_cons, List.length_nil, reduceIte, Nat.reduceEqDiff]) | refine awp_condT rfl (by first | rfl | assumption | exact beq_int _ | exact bne_int _) ?_ | refine awp_condF rfl (by first | rfl | assumption | exact beq_int _ | exact bne_int _) ?_ | ((fail_if_success refine ARun.plain rfl ?_); first | refine ARun.knowT rfl rfl rfl (by first | rfl | assumption | exact beq_int _ | exact bne_int _) ?_ | refine ARun.knowF rfl rfl rfl (by first | rfl | assumption | exact beq_int _ | exact bne_int _) ?_ | refine ARun.fork rfl rfl rfl (fun h => ?_) (fun h => ?_)) | refine awp_cond rfl (fun h => ?_) (fun h => ?_)))
    exact awp_ret ⟨_, ResL.cons (ResA.tmp (.val _)) .nil, rfl⟩
  have d0 : decide (at' < 12) = false := decide_eq_false h0
  by_cases h1 : a ∈ onlyV
  · rw [decide_eq_true h1] at c1
    rw [show flagsD a at' = 4 by unfold flagsD; rw [if_neg h0, if_pos h1]]
    refine FnC.of_awp (T := tt) (ok := tok) Try.func49 (by kernel_rfl) rfl (by kernel_rfl) (closedL_cons (.val _) (closedL_cons (.val _) closedL_nil)) (fun w0 st0 => ?_)
    dsimp only [frOf]
    (repeat' (first | refine awp_seq ?_ | refine awp_block ?_ | refine awp_region (fun _ => hmix) ?_ | refine ARun.op rfl (by first | exact True.intro | exact rfl | (unfold inR; omega) | omega | ((try unfold inR); simp only [decide_eq_true_eq, decide_eq_false_iff_not, beq_iff_eq, beq_eq_false_iff_ne, ne_eq, Bool.not_eq_true', Bool.not_eq_false', List.length_map, List.length_append, List.length_take, List.length_drop, List.length_replicate, List.length_cons, List.length_nil] at *; omega)) ?_ | refine callW (c1) rfl (by (repeat (refine WkL.cons (by first | exact Wk.same _ | exact Wk.nilSl | exact Wk.weak _ _ _ | exact Wk.aggL (by (repeat (refine WkL.cons (by first | exact Wk.same _ | exact Wk.nilSl | exact Wk.weak _ _ _) ?_)); exact WkL.nil)) ?_)); exact WkL.nil) rfl rfl ?_ | refine callW (c2) rfl (by (repeat (refine WkL.cons (by first | exact Wk.same _ | exact Wk.nilSl | exact Wk.weak _ _ _ | exact Wk.aggL (by (repeat (refine WkL.cons (by first | exact Wk.same _ | exact Wk.nilSl | exact Wk.weak _ _ _) ?_)); exact WkL.nil)) ?_)); exact WkL.nil) rfl rfl ?_ | refine callW (c3) rfl (by (repeat (refine WkL.cons (by first | exact Wk.same _ | exact Wk.nilSl | exact Wk.weak _ _ _ | exact Wk.aggL (by (repeat (refine WkL.cons (by first | exact Wk.same _ | exact Wk.nilSl | exact Wk.weak _ _ _) ?_)); exact WkL.nil)) ?_)); exact WkL.nil) rfl rfl ?_ | ((first | refine ARun.fin (by first | (intro h; cases h; done) | (intro _; kernel_rfl)) ?_ | refine awp_skip ?_ | refine awp_exit ?_); dsimp only [thenA, blockA, AS.bump, List.length_cons, List.length_nil, reduceIte, Nat.reduceEqDiff]) | refine awp_condT rfl (by first | rfl | assumption | exact beq_int _ | exact bne_int _) ?_ | refine awp_condF rfl (by first | rfl | assumption | exact beq_int _ | exact bne_int _) ?_ | ((fail_if_success refine ARun.plain rfl ?_); first | refine ARun.knowT rfl rfl rfl (by first | rfl | assumption | exact beq_int _ | exact bne_int _) ?_ | refine ARun.knowF rfl rfl rfl (by first | rfl | assumption | exact beq_int _ | exact bne_int _) ?_)))
    exact awp_ret ⟨_, ResL.cons (ResA.tmp (.val _)) .nil, rfl⟩
  rw [decide_eq_false h1] at c1
  by_cases h2 : a ∈ nowV
  · rw [decide_eq_true h2] at c2
    rw [show flagsD a at' = 1 by unfold flagsD; rw [if_neg h0, if_neg h1, if_pos h2]]
    refine FnC.of_awp (T := tt) (ok := tok) Try.func49 (by kernel_rfl) rfl (by kernel_rfl) (closedL_cons (.val _) (closedL_cons (.val _) closedL_nil)) (fun w0 st0 => ?_)
    dsimp only [frOf]
    (repeat' (first | refine awp_seq ?_ | refine awp_block ?_ | refine awp_region (fun _ => hmix) ?_ | refine ARun.op rfl (by first | exact True.intro | exact rfl | (unfold inR; omega) | omega | ((try unfold inR); simp only [decide_eq_true_eq, decide_eq_false_iff_not, beq_iff_eq, beq_eq_false_iff_ne, ne_eq, Bool.not_eq_true', Bool.not_eq_false', List.length_map, List.length_append, List.length_take, List.length_drop, List.length_replicate, List.length_cons, List.length_nil] at *; omega)) ?_ | refine callW (c1) rfl (by (repeat (refine WkL.cons (by first | exact Wk.same _ | exact Wk.nilSl | exact Wk.weak _ _ _ | exact Wk.aggL (by (repeat (refine WkL.cons (by first | exact Wk.same _ | exact Wk.nilSl | exact Wk.weak _ _ _) ?_)); exact WkL.nil)) ?_)); exact WkL.nil) rfl rfl ?_ | refine callW (c2) rfl (by (repeat (refine WkL.cons (by first | exact Wk.same _ | exact Wk.nilSl | exact Wk.weak _ _ _ | exact Wk.aggL (by (repeat (refine WkL.cons (by first | exact Wk.same _ | exact Wk.nilSl | exact Wk.weak _ _ _) ?_)); exact WkL.nil)) ?_)); exact WkL.nil) rfl rfl ?_ | refine callW (c3) rfl (by (repeat (refine WkL.cons (by first | exact Wk.same _ | exact Wk.nilSl | exact Wk.weak _ _ _ | exact Wk.aggL (by (repeat (refine WkL.cons (by first | exact Wk.same _ | exact Wk.nilSl | exact Wk.weak _ _ _) ?_)); exact WkL.nil)) ?_)); exact WkL.nil) rfl rfl ?_ | ((first | refine ARun.fin (by first | (intro h; cases h; done) | (intro _; kernel_rfl)) ?_ | refine awp_skip ?_ | refine awp_exit ?_); dsimp only [thenA, blockA, AS.bump, List.length_cons, List.length_nil, reduceIte, Nat.reduceEqDiff]) | refine awp_condT rfl (by first | rfl | assumption | exact beq_int _ | exact bne_int _) ?_ | refine awp_condF rfl (by first | rfl | assumption | exact beq_int _ | exact bne_int _) ?_ | ((fail_if_success refine ARun.plain rfl ?_); first | refine ARun.knowT rfl rfl rfl (by first | rfl | assumption | exact beq_int _ | exact bne_int _) ?_ | refine ARun.knowF rfl rfl rfl (by first | rfl | assumption | exact beq_int _ | exact bne_int _) ?_)))
    exact awp_ret ⟨_, ResL.cons (ResA.tmp (.val _)) .nil, rfl⟩
  rw [decide_eq_false h2] at c2
  by_cases h3 : a ∈ bothV
  · rw [decide_eq_true h3] at c3
    rw [show flagsD a at' = 5 by unfold flagsD; rw [if_neg h0, if_neg h1, if_neg h2, if_pos h3]]
    refine FnC.of_awp (T := tt) (ok := tok) Try.func49 (by kernel_rfl) rfl (by kernel_rfl) (closedL_cons (.val _) (closedL_cons (.val _) closedL_nil)) (fun w0 st0 => ?_)
    dsimp only [frOf]
    (repeat' (first | refine awp_seq ?_ | refine awp_block ?_ | refine awp_region (fun _ => hmix) ?_ | refine ARun.op rfl (by first | exact True.intro | exact rfl | (unfold inR; omega) | omega | ((try unfold inR); simp only [decide_eq_true_eq, decide_eq_false_iff_not, beq_iff_eq, beq_eq_false_iff_ne, ne_eq, Bool.not_eq_true', Bool.not_eq_false', List.length_map, List.length_append, List.length_take, List.length_drop, List.length_replicate, List.length_cons, List.length_nil] at *; omega)) ?_ | refine callW (c1) rfl (by (repeat (refine WkL.cons (by first | exact Wk.same _ | exact Wk.nilSl | exact Wk.weak _ _ _ | exact Wk.aggL (by (repeat (refine WkL.cons (by first | exact Wk.same _ | exact Wk.nilSl | exact Wk.weak _ _ _) ?_)); exact WkL.nil)) ?_)); exact WkL.nil) rfl rfl ?_ | refine callW (c2) rfl (by (repeat (refine WkL.cons (by first | exact Wk.same _ | exact Wk.nilSl | exact Wk.weak _ _ _ | exact Wk.aggL (by (repeat (refine WkL.cons (by first | exact Wk.same _ | exact Wk.nilSl | exact Wk.weak _ _ _) ?_)); exact WkL.nil)) ?_)); exact WkL.nil) rfl rfl ?_ | refine callW (c3) rfl (by (repeat (refine WkL.cons (by first | exact Wk.same _ | exact Wk.nilSl | exact Wk.weak _ _ _ | exact Wk.aggL (by (repeat (refine WkL.cons (by first | exact Wk.same _ | exact Wk.nilSl | exact Wk.weak _ _ _) ?_)); exact WkL.nil)) ?_)); exact WkL.nil) rfl rfl ?_ | ((first | refine ARun.fin (by first | (intro h; cases h; done) | (intro _; kernel_rfl)) ?_ | refine awp_skip ?_ | refine awp_exit ?_); dsimp only [thenA, blockA, AS.bump, List.length_cons, List.length_nil, reduceIte, Nat.reduceEqDiff]) | refine awp_condT rfl (by first | rfl | assumption | exact beq_int _ | exact bne_int _) ?_ | refine awp_condF rfl (by first | rfl | assumption | exact beq_int _ | exact bne_int _) ?_ | ((fail_if_success refine ARun.plain rfl ?_); first | refine ARun.knowT rfl rfl rfl (by first | rfl | assumption | exact beq_int _ | exact bne_int _) ?_ | refine ARun.knowF rfl rfl rfl (by first | rfl | assumption | exact beq_int _ | exact bne_int _) ?_)))
    exact awp_ret ⟨_, ResL.cons (ResA.tmp (.val _)) .nil, rfl⟩
  · rw [decide_eq_false h3] at c3
    rw [show flagsD a at' = 0 by unfold flagsD; rw [if_neg h0, if_neg h1, if_neg h2, if_neg h3]]
    refine FnC.of_awp (T := tt) (ok := tok) Try.func49 (by kernel_rfl) rfl (by kernel_rfl) (closedL_cons (.val _) (closedL_cons (.val _) closedL_nil)) (fun w0 st0 => ?_)
    dsimp only [frOf]
    (repeat' (first | refine awp_seq ?_ | refine awp_block ?_ | refine awp_region (fun _ => hmix) ?_ | refine ARun.op rfl (by first | exact True.intro | exact rfl | (unfold inR; omega) | omega | ((try unfold inR); simp only [decide_eq_true_eq, decide_eq_false_iff_not, beq_iff_eq, beq_eq_false_iff_ne, ne_eq, Bool.not_eq_true', Bool.not_eq_false', List.length_map, List.length_append, List.length_take, List.length_drop, List.length_replicate, List.length_cons, List.length_nil] at *; omega)) ?_ | refine callW (c1) rfl (by (repeat (refine WkL.cons (by first | exact Wk.same _ | exact Wk.nilSl | exact Wk.weak _ _ _ | exact Wk.aggL (by (repeat (refine WkL.cons (by first | exact Wk.same _ | exact Wk.nilSl | exact Wk.weak _ _ _) ?_)); exact WkL.nil)) ?_)); exact WkL.nil) rfl rfl ?_ | refine callW (c2) rfl (by (repeat (refine WkL.cons (by first | exact Wk.same _ | exact Wk.nilSl | exact Wk.weak _ _ _ | exact Wk.aggL (by (repeat (refine WkL.cons (by first | exact Wk.same _ | exact Wk.nilSl | exact Wk.weak _ _ _) ?_)); exact WkL.nil)) ?_)); exact WkL.nil) rfl rfl ?_ | refine callW (c3) rfl (by (repeat (refine WkL.cons (by first | exact Wk.same _ | exact Wk.nilSl | exact Wk.weak _ _ _ | exact Wk.aggL (by (repeat (refine WkL.cons (by first | exact Wk.same _ | exact Wk.nilSl | exact Wk.weak _ _ _) ?_)); exact WkL.nil)) ?_)); exact WkL.nil) rfl rfl ?_ | ((first | refine ARun.fin (by first | (intro h; cases h; done) | (intro _; kernel_rfl)) ?_ | refine awp_skip ?_ | refine awp_exit ?_); dsimp only [thenA, blockA, AS.bump, List.length_cons, List.length_nil, reduceIte, Nat.reduceEqDiff]) | refine awp_condT rfl (by first | rfl | assumption | exact beq_int _ | exact bne_int _) ?_ | refine awp_condF rfl (by first | rfl | assumption | exact beq_int _ | exact bne_int _) ?_ | ((fail_if_success refine ARun.plain rfl ?_); first | refine ARun.knowT rfl rfl rfl (by first | rfl | assumption | exact beq_int _ | exact bne_int _) ?_ | refine ARun.knowF rfl rfl rfl (by first | rfl | assumption | exact beq_int _ | exact bne_int _) ?_)))
    exact awp_ret ⟨_, ResL.cons (ResA.tmp (.val _)) .nil, rfl⟩
end Go.Proofs.Ytgkjappmcgnabaa
/- vm: the closures of New. -/
namespace Go.Proofs.Ytgkjappmcgnabaa
set_option linter.unusedVariables false
set_option linter.unusedSimpArgs false
open Go Go.RowKit
open Dict (St Bs bs_eq Wd encW encWs closed_ws addD)
open Mem (Mm encM storeD closed_m)
set_option maxRecDepth 100000
attribute [local irreducible] Decidable.decide awp ARun regK toK
theorem Rl.cloL {n : Nat} {sX : AS} {f : Fn} {first first' cap cap' : List AV} (h : RlL n sX first first') (h' : RlL n sX cap cap') : Rl n sX (.clo f first cap) (.clo f first' cap') := .clo h.1 h.2 h'.1 h'.2
theorem encM_cl (m : Mm) : ∀ x, x ∈ encM m → Closed x := Mem.encM_closed m
theorem one_cl {es : List AV} (h : ∀ x, x ∈ es → Closed x) : ∀ el x, el ∈ [es] → x ∈ el → Closed x := fun el x h1 h2 => by
  rw [List.mem_singleton.1 h1] at h2
  exact h x h2
theorem put_l (m : Mm) (a n : Int) (hl : m.b.length ≤ 1000000) (ho : m.old.length ≤ 1000000) : FnL Try.prog 43 [.val (.int .i64 a), .val (.int .i64 n), .ptr 1000 0 0 0] [(2, [encM m])] (.tup []) [[encM (storeD m a n).1]] := by
  have c1 := Mem.store_c m a n hl ho
  generalize storeD m a n = p at *
  refine FnL.of_awp (T := tt) (ok := tok) Try.func43 (by kernel_rfl) rfl (by kernel_rfl) (by kernel_rfl) (fun w0 st0 lent c0 => ?_)
  dsimp only [frOf, hpFrom, List.length_cons, List.length_nil]
  (repeat' (first | refine awp_seq ?_ | refine awp_block ?_ | refine awp_region (fun _ => hmix) ?_ | refine ARun.op rfl (by first | exact True.intro | exact rfl | (unfold inR; omega) | omega | ((try unfold inR); simp only [decide_eq_true_eq, decide_eq_false_iff_not, beq_iff_eq, beq_eq_false_iff_ne, ne_eq, Bool.not_eq_true', Bool.not_eq_false', List.length_map, List.length_append, List.length_take, List.length_drop, List.length_replicate, List.length_cons, List.length_nil] at *; omega)) ?_ | refine callX (c1) rfl rfl rfl rfl ?_ | ((first | refine ARun.fin (by first | (intro h; cases h; done) | (intro _; kernel_rfl)) ?_ | refine awp_skip ?_ | refine awp_exit ?_); dsimp only [thenA, blockA, AS.bump, List.length_cons, List.length_nil, reduceIte, Nat.reduceEqDiff]) | refine awp_condT rfl (by first | rfl | assumption | exact beq_int _ | exact bne_int _) ?_ | refine awp_condF rfl (by first | rfl | assumption | exact beq_int _ | exact bne_int _) ?_ | ((fail_if_success refine ARun.plain rfl ?_); first | refine ARun.knowT rfl rfl rfl (by first | rfl | assumption | exact beq_int _ | exact bne_int _) ?_ | refine ARun.knowF rfl rfl rfl (by first | rfl | assumption | exact beq_int _ | exact bne_int _) ?_ | refine ARun.fork rfl rfl rfl (fun h => ?_) (fun h => ?_)) | refine awp_cond rfl (fun h => ?_) (fun h => ?_)))
  exact ⟨_, ResL.nil, rfl, ⟨_, rfl, RlR.closed (one_cl (encM_cl _))⟩, trivial⟩
def putV (b g : Nat) : AV := .clo (.func 43) [] [.ptr b g 0 0]
set_option maxHeartbeats 4000000 in
theorem add_l (m : Mm) (l : List Wd) (c : Cf) (name : Bs) (i n a : Int) (hl : m.b.length ≤ 1000000) (ho : m.old.length ≤ 1000000) (hd : l.length ≤ 1000000) (hn : name.length ≤ 1000000) (ha : 0 ≤ a ∧ a ≤ 1000000) :
    FnL Try.prog 45 [St name, .val (.int .i64 i), .val (.int .i64 n), .ptr 1001 1 0 0, .ptr 1002 2 0 0, .ptr 1003 3 0 0, .ptr 1004 4 0 0]
      [(2, [encM m]), (1, [[putV 1000 0]]), (1, [[.val (.int .i64 a)]]), (1, [[encWs l]]), (5, [encC c])] (.tup [])
      [[encM (storeD m a n).1], [[putV 1000 0]], [[.val (.int .i64 (a + 8))]], [[encWs (addD l name a (flagsD name i) c.words).1]], [encC c]] := by
  have cp := put_l m a n hl ho
  have c1 := flags_c name i
  have hf := flagsD_range name i
  have c2 := Dict.add_c l name a (flagsD name i) c.words hd hn (by omega)
  generalize flagsD name i = fl at *
  generalize addD l name a fl c.words = p at *
  refine FnL.of_awp (T := tt) (ok := tok) Try.func45 (by kernel_rfl) rfl (by kernel_rfl) (by kernel_rfl) (fun w0 st0 lent c0 => ?_)
  dsimp only [frOf, hpFrom, List.length_cons, List.length_nil]
  (repeat' (first | refine awp_seq ?_ | refine awp_block ?_ | refine awp_region (fun _ => hmix) ?_ | refine ARun.op rfl (by first | exact True.intro | exact rfl | (unfold inR; omega) | omega | ((try unfold inR); simp only [decide_eq_true_eq, decide_eq_false_iff_not, beq_iff_eq, beq_eq_false_iff_ne, ne_eq, Bool.not_eq_true', Bool.not_eq_false', List.length_map, List.length_append, List.length_take, List.length_drop, List.length_replicate, List.length_cons, List.length_nil] at *; omega)) ?_ | refine callLX [(1000, ⟨0, 2, [encM m]⟩)] [(1000, ⟨0, 2, [encM (storeD m a n).1]⟩)] cp (.inr rfl) ⟨rfl, trivial⟩ (RelL.cons (.wk (.same _) (.val _)) (RelL.cons (.wk (.same _) (.val _)) (RelL.cons (.ptr (j := 0) 0 0 rfl) (RelL.nil _)))) ⟨⟨rfl, rfl, RelR.id (fun el x h1 h2 => .wk (.same _) (one_cl (encM_cl _) el x h1 h2))⟩, trivial⟩ ⟨⟨rfl, rfl, rfl, RelR.id (fun el x h1 h2 => .same _ (one_cl (encM_cl _) el x h1 h2))⟩, trivial⟩ (.same _ (.tup closedL_nil)) rfl rfl rfl ?_ | refine callX (c1) rfl rfl rfl rfl ?_ | refine callX (c2) rfl rfl rfl rfl ?_ | ((first | refine ARun.fin (by first | (intro h; cases h; done) | (intro _; kernel_rfl)) ?_ | refine awp_skip ?_ | refine awp_exit ?_); dsimp only [thenA, blockA, AS.bump, List.length_cons, List.length_nil, reduceIte, Nat.reduceEqDiff]) | refine awp_condT rfl (by first | rfl | assumption | exact beq_int _ | exact bne_int _) ?_ | refine awp_condF rfl (by first | rfl | assumption | exact beq_int _ | exact bne_int _) ?_ | ((fail_if_success refine ARun.plain rfl ?_); first | refine ARun.knowT rfl rfl rfl (by first | rfl | assumption | exact beq_int _ | exact bne_int _) ?_ | refine ARun.knowF rfl rfl rfl (by first | rfl | assumption | exact beq_int _ | exact bne_int _) ?_ | refine ARun.fork rfl rfl rfl (fun h => ?_) (fun h => ?_)) | refine awp_cond rfl (fun h => ?_) (fun h => ?_)))
  refine ⟨_, ResL.nil, rfl, ⟨_, rfl, RlR.closed (one_cl (encM_cl _))⟩, ⟨_, rfl, ?_⟩, ⟨_, rfl, RlR.closed (one_cl (closedL_cons (.val _) closedL_nil))⟩, ⟨_, rfl, RlR.closed (one_cl (closedL_cons (closed_ws _) closedL_nil))⟩, ⟨_, rfl, RlR.closed (one_cl (encC_closed _))⟩, trivial⟩
  exact RlR.cons (RlL.cons (Rl.cloL (RlL.nil _ _) (RlL.cons (.ptr 0 0 0 rfl) (RlL.nil _ _))) (RlL.nil _ _)) (RlR.nil _ _)
end Go.Proofs.Ytgkjappmcgnabaa
/- vm: machines; New. -/
namespace Go.Proofs.Ytgkjappmcgnabaa
set_option linter.unusedVariables false
set_option linter.unusedSimpArgs false
open Go Go.RowKit
open Dict (St Bs bs_eq Wd encW encWs closed_ws encW_closed addD)
open Mem (Mm encM encBs closed_bs storeD newD freeD writeD thereD there_yes encP encP_closed closed_m)
open Stk (encS closed_s)
set_option maxRecDepth 100000
structure V where
  cf : Cf
  m : Mm
  here : Int
  d : List Int
  r : List Int
  f : List Fr
  dict : List Wd
  last : Int
  out : Bs
  pb : Bs
  po : Bool
  req : List Rq
  free : Int
  next : Int
  arg : Int
  self : Int
  now : Int
  hand : List Hn
def encV (v : V) : List AV := [.val (.int .i64 v.cf.mem), .val (.int .i64 v.cf.data), .val (.int .i64 v.cf.ret), .val (.int .i64 v.cf.words), .val (.int .i64 v.cf.out), encBs v.m.b, .sl 2 false (v.m.old.map encP), .val (.int .i64 v.here), encS v.d, encS v.r, encLFr v.f, encWs v.dict, .val (.int .i64 v.last), encBs v.out, encBs v.pb, .val (.bool v.po), encLRq v.req, .val (.int .i64 v.free), .val (.int .i64 v.next), .val (.int .i64 v.arg), .val (.int .i64 v.self), .val (.int .i64 v.now), encLHn v.hand]
theorem encV_closed (v : V) : ∀ x, x ∈ encV v → Closed x :=
  closedL_cons (.val _) (closedL_cons (.val _) (closedL_cons (.val _) (closedL_cons (.val _) (closedL_cons (.val _) (closedL_cons (closed_bs _) (closedL_cons (closed_map encP_closed) (closedL_cons (.val _) (closedL_cons (closed_s _) (closedL_cons (closed_s _) (closedL_cons (closedFr _) (closedL_cons (closed_ws _) (closedL_cons (.val _) (closedL_cons (closed_bs _) (closedL_cons (closed_bs _) (closedL_cons (.val _) (closedL_cons (closedRq _) (closedL_cons (.val _) (closedL_cons (.val _) (closedL_cons (.val _) (closedL_cons (.val _) (closedL_cons (.val _) (closedL_cons (closedHn _) closedL_nil))))))))))))))))))))))
theorem closedV (v : V) : Closed (.agg (encV v)) := .agg (encV_closed v)
def vZero : V := ⟨⟨0, 0, 0, 0, 0⟩, ⟨[], []⟩, 0, [], [], [], [], 0, [], [], false, [], 0, 0, 0, 0, 0, []⟩
def nHalt : Bs := [40, 104, 97, 108, 116, 41]
def nCaught : Bs := [40, 99, 97, 117, 103, 104, 116, 41]
def haltD (nm : Bs) (m : Mm) (a : Int) : Mm := if nm = nHalt then (storeD m 16 a).1 else if nm = nCaught then (storeD m 24 a).1 else m
def stepV (words : Int) (s : Mm × List Wd) (a : Int) (nm : Bs) (n number : Int) : Mm × List Wd := ((storeD s.1 a number).1, (addD s.2 nm a (flagsD nm n) words).1)
def newN (c : Cf) : Nat → Mm × List Wd
  | 0 => ((newD c.mem).1, [])
  | i + 1 => match nmsV[i]? with
    | some nm => (haltD nm (stepV c.words (newN c i) (32 + 8 * (i : Nat)) nm (i : Nat) (i : Nat)).1 (32 + 8 * (i : Nat)), (stepV c.words (newN c i) (32 + 8 * (i : Nat)) nm (i : Nat) (i : Nat)).2)
    | none => newN c i
def newS (c : Cf) : Nat → Mm × List Wd
  | 0 => newN c 130
  | j + 1 => match spcV[j]? with
    | some nm => stepV c.words (newS c j) (1072 + 8 * (j : Nat)) nm (12 + (j : Nat)) (300 + (j : Nat))
    | none => newS c j
open Classical in
noncomputable def newV (c : Cf) : V × Int := if FitsP c then (⟨c, freeD (storeD (newS c 37).1 0 10).1, 1368, [], [], [], (newS c 37).2, 0, [], [], false, [], 0, 0, 0, 0, 0, []⟩, 0) else (vZero, -24)
theorem newV_yes {c : Cf} (h : FitsP c) : newV c = (⟨c, freeD (storeD (newS c 37).1 0 10).1, 1368, [], [], [], (newS c 37).2, 0, [], [], false, [], 0, 0, 0, 0, 0, []⟩, 0) := by unfold newV; exact if_pos h
theorem newV_no {c : Cf} (h : ¬ FitsP c) : newV c = (vZero, -24) := by unfold newV; exact if_neg h
theorem store_len (m : Mm) (a n : Int) : (storeD m a n).1.b.length = m.b.length ∧ (storeD m a n).1.old.length ≤ m.old.length + 1 := by
  unfold storeD
  split
  · exact ⟨rfl, Nat.le_succ _⟩
  · unfold writeD
    split
    · exact ⟨rfl, Nat.le_succ _⟩
    · rename_i h1
      split
      · exact ⟨rfl, Nat.le_succ _⟩
      · rename_i h2
        simp only [Bool.not_eq_false] at h1
        have h3 := there_yes h1 (by
          have := List.length_pos_iff.2 h2
          omega)
        exact ⟨by dsimp only; exact overL_length (by omega), by simp⟩
end Go.Proofs.Ytgkjappmcgnabaa
/- vm: New. -/
namespace Go.Proofs.Ytgkjappmcgnabaa
set_option linter.unusedVariables false
set_option linter.unusedSimpArgs false
open Go Go.RowKit
open Dict (St Bs bs_eq Wd encW encWs closed_ws encW_closed addD)
open Mem (Mm encM encBs closed_bs storeD newD freeD writeD thereD there_yes encP encP_closed closed_m)
open Stk (encS closed_s)
set_option maxRecDepth 100000
theorem nms_short : (nmsV.all fun nm => decide (nm.length ≤ 31)) = true := by kernel_rfl
theorem spc_short : (spcV.all fun nm => decide (nm.length ≤ 31)) = true := by kernel_rfl
theorem nms_len {i : Nat} {nm : Bs} (h : nmsV[i]? = some nm) : nm.length ≤ 31 := of_decide_eq_true (List.all_eq_true.1 nms_short nm (List.mem_of_getElem? h))
theorem spc_len {i : Nat} {nm : Bs} (h : spcV[i]? = some nm) : nm.length ≤ 31 := of_decide_eq_true (List.all_eq_true.1 spc_short nm (List.mem_of_getElem? h))
theorem halt_len (nm : Bs) (m : Mm) (a : Int) : (haltD nm m a).b.length = m.b.length ∧ (haltD nm m a).old.length ≤ m.old.length + 1 := by
  unfold haltD
  split
  · exact store_len _ _ _
  · split
    · exact store_len _ _ _
    · exact ⟨rfl, Nat.le_succ _⟩
theorem addD_le (l : List Wd) (name : Bs) (xt fl limit : Int) : (addD l name xt fl limit).1.length ≤ l.length + 1 := by
  unfold addD
  split
  · exact Nat.le_succ _
  · split
    · exact Nat.le_succ _
    · split
      · exact Nat.le_succ _
      · simp
theorem newN_len (c : Cf) : ∀ i : Nat, (newN c i).1.b.length = (newD c.mem).1.b.length ∧ (newN c i).1.old.length ≤ (newD c.mem).1.old.length + 2 * i ∧ (newN c i).2.length ≤ i
  | 0 => ⟨rfl, Nat.le_refl _, Nat.le_refl _⟩
  | i + 1 => by
    obtain ⟨h1, h2, h3⟩ := newN_len c i
    unfold newN
    split
    · rename_i nm hnm
      unfold stepV
      have k1 := store_len (newN c i).1 (32 + 8 * (i : Nat)) (i : Nat)
      have k2 := halt_len nm (storeD (newN c i).1 (32 + 8 * (i : Nat)) (i : Nat)).1 (32 + 8 * (i : Nat))
      have k3 := addD_le (newN c i).2 nm (32 + 8 * (i : Nat)) (flagsD nm (i : Nat)) c.words
      exact ⟨by dsimp only; omega, by dsimp only; omega, by dsimp only; omega⟩
    · exact ⟨h1, by omega, by omega⟩
theorem newS_len (c : Cf) : ∀ j : Nat, (newS c j).1.b.length = (newD c.mem).1.b.length ∧ (newS c j).1.old.length ≤ (newD c.mem).1.old.length + 260 + j ∧ (newS c j).2.length ≤ 130 + j
  | 0 => by have := newN_len c 130; exact ⟨this.1, this.2.1, this.2.2⟩
  | j + 1 => by
    obtain ⟨h1, h2, h3⟩ := newS_len c j
    unfold newS
    split
    · rename_i nm hnm
      unfold stepV
      have k1 := store_len (newS c j).1 (1072 + 8 * (j : Nat)) (300 + (j : Nat))
      have k3 := addD_le (newS c j).2 nm (1072 + 8 * (j : Nat)) (flagsD nm (12 + (j : Nat))) c.words
      exact ⟨by dsimp only; omega, by dsimp only; omega, by dsimp only; omega⟩
    · exact ⟨h1, by omega, by omega⟩
attribute [local irreducible] Decidable.decide awp ARun regK toK
set_option maxHeartbeats 8000000 in
theorem new_c (c : Cf) : FnC Try.prog 9 [.agg (encC c)] (.tup [.agg (encV (newV c).1), .val (.int .i64 (newV c).2)]) := by
  have c1 := fits_c c
  by_cases hF : FitsP c
  case neg =>
    rw [fits_no hF] at c1
    rw [newV_no hF]
    refine FnC.of_awp (T := tt) (ok := tok) Try.func9 (by kernel_rfl) rfl (by kernel_rfl) (closedL_cons (.agg (encC_closed _)) closedL_nil) (fun w0 st0 => ?_)
    dsimp only [frOf]
    (repeat' (first | refine awp_seq ?_ | refine awp_block ?_ | refine awp_region (fun _ => hmix) ?_ | refine ARun.op rfl (by first | exact True.intro | exact rfl | (unfold inR; omega) | omega | ((try unfold inR); simp only [decide_eq_true_eq, decide_eq_false_iff_not, beq_iff_eq, beq_eq_false_iff_ne, ne_eq, Bool.not_eq_true', Bool.not_eq_false', List.length_map, List.length_append, List.length_take, List.length_drop, List.length_replicate, List.length_cons, List.length_nil] at *; omega)) ?_ | refine callX (c1) rfl rfl rfl rfl ?_ | ((first | refine ARun.fin (by first | (intro h; cases h; done) | (intro _; kernel_rfl)) ?_ | refine awp_skip ?_ | refine awp_exit ?_); dsimp only [thenA, blockA, AS.bump, List.length_cons, List.length_nil, reduceIte, Nat.reduceEqDiff]) | refine awp_condT rfl (by first | rfl | assumption | exact beq_int _ | exact bne_int _) ?_ | refine awp_condF rfl (by first | rfl | assumption | exact beq_int _ | exact bne_int _) ?_ | ((fail_if_success refine ARun.plain rfl ?_); first | refine ARun.knowT rfl rfl rfl (by first | rfl | assumption | exact beq_int _ | exact bne_int _) ?_ | refine ARun.knowF rfl rfl rfl (by first | rfl | assumption | exact beq_int _ | exact bne_int _) ?_ | refine ARun.fork rfl rfl rfl (fun h => ?_) (fun h => ?_)) | refine awp_cond rfl (fun h => ?_) (fun h => ?_)))
    exact awp_ret ⟨_, ResL.cons (ResA.agg rfl rfl rfl rfl rfl rfl rfl (RL.cons (.val _) (RL.cons (.val _) (RL.cons (.val _) (RL.cons (.val _) (RL.cons (.val _) (RL.cons (.nilSl (sz' := 1)) (RL.cons (.nilSl (sz' := 2)) (RL.cons (.val _) (RL.cons (.nilSl (sz' := 1)) (RL.cons (.nilSl (sz' := 1)) (RL.cons (.nilSl (sz' := 3)) (RL.cons (.nilSl (sz' := 3)) (RL.cons (.val _) (RL.cons (.nilSl (sz' := 1)) (RL.cons (.nilSl (sz' := 1)) (RL.cons (.val _) (RL.cons (.nilSl (sz' := 6)) (RL.cons (.val _) (RL.cons (.val _) (RL.cons (.val _) (RL.cons (.val _) (RL.cons (.val _) (RL.cons (.nilSl (sz' := 4)) (RL.nil _))))))))))))))))))))))))) (ResL.cons (ResA.tmp (.val _)) .nil), rfl⟩
  rw [fits_yes hF] at c1
  rw [newV_yes hF]
  have c2 := Mem.new_c c.mem
  simp only [Mem.enc2m] at c2
  have c3 := names_c
  have c4 := specials_c
  refine FnC.of_awp (T := tt) (ok := tok) Try.func9 (by kernel_rfl) rfl (by kernel_rfl) (closedL_cons (.agg (encC_closed _)) closedL_nil) (fun w0 st0 => ?_)
  dsimp only [frOf]
  (repeat' (first | refine awp_seq ?_ | refine awp_block ?_ | refine awp_region (fun _ => hmix) ?_ | refine ARun.op rfl (by first | exact True.intro | exact rfl | (unfold inR; omega) | omega | ((try unfold inR); simp only [decide_eq_true_eq, decide_eq_false_iff_not, beq_iff_eq, beq_eq_false_iff_ne, ne_eq, Bool.not_eq_true', Bool.not_eq_false', List.length_map, List.length_append, List.length_take, List.length_drop, List.length_replicate, List.length_cons, List.length_nil] at *; omega)) ?_ | refine callX (c1) rfl rfl rfl rfl ?_ | refine callX (c2) rfl rfl rfl rfl ?_ | refine ARun.makeFunc rfl rfl rfl (guardF_spec rfl) ?_ | refine callX (c3) rfl rfl rfl rfl ?_ | ((first | refine ARun.fin (by first | (intro h; cases h; done) | (intro _; kernel_rfl)) ?_ | refine awp_skip ?_ | refine awp_exit ?_); dsimp only [thenA, blockA, AS.bump, List.length_cons, List.length_nil, reduceIte, Nat.reduceEqDiff]) | refine awp_condT rfl (by first | rfl | assumption | exact beq_int _ | exact bne_int _) ?_ | refine awp_condF rfl (by first | rfl | assumption | exact beq_int _ | exact bne_int _) ?_ | ((fail_if_success refine ARun.plain rfl ?_); first | refine ARun.knowT rfl rfl rfl (by first | rfl | assumption | exact beq_int _ | exact bne_int _) ?_ | refine ARun.knowF rfl rfl rfl (by first | rfl | assumption | exact beq_int _ | exact bne_int _) ?_ | refine ARun.fork rfl rfl rfl (fun h => ?_) (fun h => ?_)) | refine awp_cond rfl (fun h => ?_) (fun h => ?_)))
  have eb : (newD c.mem).1.b.length ≤ 65536 ∧ (newD c.mem).1.old = [] := by
    unfold newD
    split
    · exact ⟨by simp, rfl⟩
    · exact ⟨by simp; omega, rfl⟩
  refine awp_wkH 7 [[encWs []]] rfl rfl (RelR.cons (RelL.cons Wk.nilSl (RelL.nil _)) (RelR.nil _)) ?_
  refine awp_loopT (T := Nat × Nat) (fun t => ⟨[(28, .val (.int .i64 (t.1 : Nat))), (27, .val (.int .i64 ((nmsV.map encN).length : Nat))), (26, .sl 1 true (nmsV.map encN)), (9, .clo (.func 45) [] [.ptr 6 16 0 0, .ptr 8 19 0 0, .ptr 7 18 0 0, .ptr 1 0 0 0]), (1, .ptr 1 0 0 0), (2, .ptr 2 1 0 0), (4, .ptr 4 12 0 0), (6, .ptr 6 16 0 0), (7, .ptr 7 18 0 0), (8, .ptr 8 19 0 0)], [(4, some ⟨12, 2, [encM (newN c t.1).1]⟩), (6, some ⟨16, 1, [[putV 4 12]]⟩), (8, some ⟨19, 1, [[.val (.int .i64 (32 + 8 * ((t.1 : Nat) : Int)))]]⟩), (7, some ⟨18, 1, [[encWs (newN c t.1).2]]⟩), (1, some ⟨0, 5, [encC c]⟩), (2, some ⟨1, 23, [[.val (.int .i64 0), .val (.int .i64 0), .val (.int .i64 0), .val (.int .i64 0), .val (.int .i64 0), .sl 0 true [], .sl 0 true [], .val (.int .i64 0), .sl 0 true [], .sl 0 true [], .sl 0 true [], .sl 0 true [], .val (.int .i64 0), .sl 0 true [], .sl 0 true [], .val (.bool false), .sl 0 true [], .val (.int .i64 0), .val (.int .i64 0), .val (.int .i64 0), .val (.int .i64 0), .val (.int .i64 0), .sl 0 true []]]⟩)], t.2⟩) (fun t => t.1 ≤ 130) (fun t => 130 - t.1) (0, _) (Nat.zero_le _) ⟨⟨rfl, rfl, rfl, rfl, rfl, rfl, rfl, rfl, rfl, rfl, trivial⟩, ⟨rfl, rfl, rfl, rfl, rfl, rfl, trivial⟩, Nat.le_refl _⟩ (fun t ht => ?_)
  obtain ⟨i, gc⟩ := t
  dsimp only at ht ⊢
  have hnl := len_nms
  by_cases hlt : i < 130
  · have hc : decide (((i : Nat) : Int) < ((nmsV.map encN).length : Nat)) = true := decide_eq_true (by omega)
    have hi : i < nmsV.length := by rw [List.length_map] at hnl; omega
    have hp : nmsV[i]? = some nmsV[i] := List.getElem?_eq_getElem hi
    generalize nmsV[i] = nm at hp
    obtain ⟨k1, k2, k3⟩ := newN_len c i
    rw [eb.2, List.length_nil] at k2
    have hnm := nms_len hp
    have estep : newN c (i + 1) = (haltD nm (storeD (newN c i).1 (32 + 8 * ((i : Nat) : Int)) (i : Nat)).1 (32 + 8 * ((i : Nat) : Int)), (addD (newN c i).2 nm (32 + 8 * ((i : Nat) : Int)) (flagsD nm (i : Nat)) c.words).1) := by
      rw [newN, hp]
      rfl
    have hnext : [[AV.val (.int .i64 (32 + 8 * ((i : Nat) : Int) + 8))]] = [[AV.val (.int .i64 (32 + 8 * (((i + 1 : Nat)) : Int)))]] := by
      rw [show 32 + 8 * ((i : Nat) : Int) + 8 = 32 + 8 * (((i + 1 : Nat)) : Int) by omega]
    have ca := add_l (newN c i).1 (newN c i).2 c nm (i : Nat) (i : Nat) (32 + 8 * ((i : Nat) : Int)) (by omega) (by omega) (by omega) (by omega) (by omega)
    have q1 := store_len (newN c i).1 (32 + 8 * ((i : Nat) : Int)) (i : Nat)
    generalize hm2 : (storeD (newN c i).1 (32 + 8 * ((i : Nat) : Int)) (i : Nat)).1 = m2 at *
    generalize hl2 : (addD (newN c i).2 nm (32 + 8 * ((i : Nat) : Int)) (flagsD nm (i : Nat)) c.words).1 = l2 at *
    have e16 : 32 + 8 * ((i : Nat) : Int) + 8 - 8 = 32 + 8 * ((i : Nat) : Int) := by omega
    have cp1 := put_l m2 16 (32 + 8 * ((i : Nat) : Int) + 8 - 8) (by omega) (by omega)
    have cp2 := put_l m2 24 (32 + 8 * ((i : Nat) : Int) + 8 - 8) (by omega) (by omega)
    by_cases h1 : nm = nHalt
    · have d1 : ((ByteArray.mk nm.toArray).toList == (ByteArray.mk #[40, 104, 97, 108, 116, 41]).toList) = true := by rw [show ByteArray.mk #[40, 104, 97, 108, 116, 41] = ByteArray.mk nHalt.toArray from rfl, bs_eq]; exact decide_eq_true h1
      (repeat' (first | refine awp_seq ?_ | refine awp_block ?_ | refine awp_region (fun _ => hmix) ?_ | refine ARun.op rfl (by first | exact True.intro | exact rfl | (unfold inR; omega) | omega | ((try unfold inR); simp only [decide_eq_true_eq, decide_eq_false_iff_not, beq_iff_eq, beq_eq_false_iff_ne, ne_eq, Bool.not_eq_true', Bool.not_eq_false', List.length_map, List.length_append, List.length_take, List.length_drop, List.length_replicate, List.length_cons, List.length_nil] at *; omega)) ?_ | refine ARun.indexAddr rfl rfl (by omega) (by first | with_reducible exact get_map hp | with_reducible exact get_map hp) rfl rfl rfl rfl rfl (guardF_spec rfl) ?_ | refine callLX [(4, ⟨12, 2, [encM (newN c i).1]⟩), (6, ⟨16, 1, [[putV 4 12]]⟩), (8, ⟨19, 1, [[.val (.int .i64 (32 + 8 * ((i : Nat) : Int)))]]⟩), (7, ⟨18, 1, [[encWs (newN c i).2]]⟩), (1, ⟨0, 5, [encC c]⟩)] [(4, ⟨12, 2, [encM m2]⟩), (6, ⟨16, 1, [[putV 4 12]]⟩), (8, ⟨19, 1, [[.val (.int .i64 (32 + 8 * ((i : Nat) : Int) + 8))]]⟩), (7, ⟨18, 1, [[encWs l2]]⟩), (1, ⟨0, 5, [encC c]⟩)] ca (.inr rfl) ⟨rfl, rfl, rfl, rfl, rfl, trivial⟩ (RelL.cons (.wk (.same _) (.val _)) (RelL.cons (.wk (.same _) (.val _)) (RelL.cons (.wk (.same _) (.val _)) (RelL.cons (.ptr (j := 1) 0 0 rfl) (RelL.cons (.ptr (j := 2) 0 0 rfl) (RelL.cons (.ptr (j := 3) 0 0 rfl) (RelL.cons (.ptr (j := 4) 0 0 rfl) (RelL.nil _)))))))) ⟨⟨rfl, rfl, RelR.id (fun el x h1 h2 => .wk (.same _) (one_cl (encM_cl _) el x h1 h2))⟩, ⟨rfl, rfl, RelR.cons (RelL.cons (Ln.cloL (RelL.nil _) (RelL.cons (.ptr (j := 0) 0 0 rfl) (RelL.nil _))) (RelL.nil _)) (RelR.nil _)⟩, ⟨rfl, rfl, RelR.id (fun el x h1 h2 => .wk (.same _) (one_cl (closedL_cons (.val _) closedL_nil) el x h1 h2))⟩, ⟨rfl, rfl, RelR.id (fun el x h1 h2 => .wk (.same _) (one_cl (closedL_cons (closed_ws _) closedL_nil) el x h1 h2))⟩, ⟨rfl, rfl, RelR.id (fun el x h1 h2 => .wk (.same _) (one_cl (encC_closed _) el x h1 h2))⟩, trivial⟩ ⟨⟨rfl, rfl, rfl, RelR.id (fun el x h1 h2 => .same _ (one_cl (encM_cl _) el x h1 h2))⟩, ⟨rfl, rfl, rfl, RelR.cons (RelL.cons (Lb.cloL (RelL.nil _) (RelL.cons (.ptr (j := 0) 0 0 rfl) (RelL.nil _))) (RelL.nil _)) (RelR.nil _)⟩, ⟨rfl, rfl, rfl, RelR.id (fun el x h1 h2 => .same _ (one_cl (closedL_cons (.val _) closedL_nil) el x h1 h2))⟩, ⟨rfl, rfl, rfl, RelR.id (fun el x h1 h2 => .same _ (one_cl (closedL_cons (closed_ws _) closedL_nil) el x h1 h2))⟩, ⟨rfl, rfl, rfl, RelR.id (fun el x h1 h2 => .same _ (one_cl (encC_closed _) el x h1 h2))⟩, trivial⟩ (.same _ (.tup closedL_nil)) rfl rfl rfl ?_ | refine callLX [(4, ⟨12, 2, [encM m2]⟩)] [(4, ⟨12, 2, [encM (storeD m2 16 (32 + 8 * ((i : Nat) : Int) + 8 - 8)).1]⟩)] cp1 (.inr rfl) ⟨rfl, trivial⟩ (RelL.cons (.wk (.same _) (.val _)) (RelL.cons (.wk (.same _) (.val _)) (RelL.cons (.ptr (j := 0) 0 0 rfl) (RelL.nil _)))) ⟨⟨rfl, rfl, RelR.id (fun el x h1 h2 => .wk (.same _) (one_cl (encM_cl _) el x h1 h2))⟩, trivial⟩ ⟨⟨rfl, rfl, rfl, RelR.id (fun el x h1 h2 => .same _ (one_cl (encM_cl _) el x h1 h2))⟩, trivial⟩ (.same _ (.tup closedL_nil)) rfl rfl rfl ?_ | ((first | refine ARun.fin (by first | (intro h; cases h; done) | (intro _; kernel_rfl)) ?_ | refine awp_skip ?_ | refine awp_exit ?_); dsimp only [thenA, blockA, AS.bump, List.length_cons, List.length_nil, reduceIte, Nat.reduceEqDiff]) | refine awp_condT rfl (by first | rfl | assumption | exact beq_int _ | exact bne_int _) ?_ | refine awp_condF rfl (by first | rfl | assumption | exact beq_int _ | exact bne_int _) ?_ | ((fail_if_success refine ARun.plain rfl ?_); first | refine ARun.knowT rfl rfl rfl (by first | rfl | assumption | exact beq_int _ | exact bne_int _) ?_ | refine ARun.knowF rfl rfl rfl (by first | rfl | assumption | exact beq_int _ | exact bne_int _) ?_)))
      refine ⟨(i + 1, _), ⟨⟨succI i, rfl, rfl, rfl, rfl, rfl, rfl, rfl, rfl, rfl, trivial⟩, ⟨?_, rfl, ?_, ?_, rfl, rfl, trivial⟩, Nat.le_refl _⟩, hlt, (by dsimp only; omega)⟩
      · rw [estep, e16, show haltD nm m2 (32 + 8 * ((i : Nat) : Int)) = (storeD m2 16 (32 + 8 * ((i : Nat) : Int))).1 from if_pos h1]
        rfl
      · rw [← hnext]
        rfl
      · rw [estep]
        rfl
    have d1 : ((ByteArray.mk nm.toArray).toList == (ByteArray.mk #[40, 104, 97, 108, 116, 41]).toList) = false := by rw [show ByteArray.mk #[40, 104, 97, 108, 116, 41] = ByteArray.mk nHalt.toArray from rfl, bs_eq]; exact decide_eq_false h1
    by_cases h2 : nm = nCaught
    · have d2 : ((ByteArray.mk nm.toArray).toList == (ByteArray.mk #[40, 99, 97, 117, 103, 104, 116, 41]).toList) = true := by rw [show ByteArray.mk #[40, 99, 97, 117, 103, 104, 116, 41] = ByteArray.mk nCaught.toArray from rfl, bs_eq]; exact decide_eq_true h2
      (repeat' (first | refine awp_seq ?_ | refine awp_block ?_ | refine awp_region (fun _ => hmix) ?_ | refine ARun.op rfl (by first | exact True.intro | exact rfl | (unfold inR; omega) | omega | ((try unfold inR); simp only [decide_eq_true_eq, decide_eq_false_iff_not, beq_iff_eq, beq_eq_false_iff_ne, ne_eq, Bool.not_eq_true', Bool.not_eq_false', List.length_map, List.length_append, List.length_take, List.length_drop, List.length_replicate, List.length_cons, List.length_nil] at *; omega)) ?_ | refine ARun.indexAddr rfl rfl (by omega) (by first | with_reducible exact get_map hp | with_reducible exact get_map hp) rfl rfl rfl rfl rfl (guardF_spec rfl) ?_ | refine callLX [(4, ⟨12, 2, [encM (newN c i).1]⟩), (6, ⟨16, 1, [[putV 4 12]]⟩), (8, ⟨19, 1, [[.val (.int .i64 (32 + 8 * ((i : Nat) : Int)))]]⟩), (7, ⟨18, 1, [[encWs (newN c i).2]]⟩), (1, ⟨0, 5, [encC c]⟩)] [(4, ⟨12, 2, [encM m2]⟩), (6, ⟨16, 1, [[putV 4 12]]⟩), (8, ⟨19, 1, [[.val (.int .i64 (32 + 8 * ((i : Nat) : Int) + 8))]]⟩), (7, ⟨18, 1, [[encWs l2]]⟩), (1, ⟨0, 5, [encC c]⟩)] ca (.inr rfl) ⟨rfl, rfl, rfl, rfl, rfl, trivial⟩ (RelL.cons (.wk (.same _) (.val _)) (RelL.cons (.wk (.same _) (.val _)) (RelL.cons (.wk (.same _) (.val _)) (RelL.cons (.ptr (j := 1) 0 0 rfl) (RelL.cons (.ptr (j := 2) 0 0 rfl) (RelL.cons (.ptr (j := 3) 0 0 rfl) (RelL.cons (.ptr (j := 4) 0 0 rfl) (RelL.nil _)))))))) ⟨⟨rfl, rfl, RelR.id (fun el x h1 h2 => .wk (.same _) (one_cl (encM_cl _) el x h1 h2))⟩, ⟨rfl, rfl, RelR.cons (RelL.cons (Ln.cloL (RelL.nil _) (RelL.cons (.ptr (j := 0) 0 0 rfl) (RelL.nil _))) (RelL.nil _)) (RelR.nil _)⟩, ⟨rfl, rfl, RelR.id (fun el x h1 h2 => .wk (.same _) (one_cl (closedL_cons (.val _) closedL_nil) el x h1 h2))⟩, ⟨rfl, rfl, RelR.id (fun el x h1 h2 => .wk (.same _) (one_cl (closedL_cons (closed_ws _) closedL_nil) el x h1 h2))⟩, ⟨rfl, rfl, RelR.id (fun el x h1 h2 => .wk (.same _) (one_cl (encC_closed _) el x h1 h2))⟩, trivial⟩ ⟨⟨rfl, rfl, rfl, RelR.id (fun el x h1 h2 => .same _ (one_cl (encM_cl _) el x h1 h2))⟩, ⟨rfl, rfl, rfl, RelR.cons (RelL.cons (Lb.cloL (RelL.nil _) (RelL.cons (.ptr (j := 0) 0 0 rfl) (RelL.nil _))) (RelL.nil _)) (RelR.nil _)⟩, ⟨rfl, rfl, rfl, RelR.id (fun el x h1 h2 => .same _ (one_cl (closedL_cons (.val _) closedL_nil) el x h1 h2))⟩, ⟨rfl, rfl, rfl, RelR.id (fun el x h1 h2 => .same _ (one_cl (closedL_cons (closed_ws _) closedL_nil) el x h1 h2))⟩, ⟨rfl, rfl, rfl, RelR.id (fun el x h1 h2 => .same _ (one_cl (encC_closed _) el x h1 h2))⟩, trivial⟩ (.same _ (.tup closedL_nil)) rfl rfl rfl ?_ | refine callLX [(4, ⟨12, 2, [encM m2]⟩)] [(4, ⟨12, 2, [encM (storeD m2 24 (32 + 8 * ((i : Nat) : Int) + 8 - 8)).1]⟩)] cp2 (.inr rfl) ⟨rfl, trivial⟩ (RelL.cons (.wk (.same _) (.val _)) (RelL.cons (.wk (.same _) (.val _)) (RelL.cons (.ptr (j := 0) 0 0 rfl) (RelL.nil _)))) ⟨⟨rfl, rfl, RelR.id (fun el x h1 h2 => .wk (.same _) (one_cl (encM_cl _) el x h1 h2))⟩, trivial⟩ ⟨⟨rfl, rfl, rfl, RelR.id (fun el x h1 h2 => .same _ (one_cl (encM_cl _) el x h1 h2))⟩, trivial⟩ (.same _ (.tup closedL_nil)) rfl rfl rfl ?_ | ((first | refine ARun.fin (by first | (intro h; cases h; done) | (intro _; kernel_rfl)) ?_ | refine awp_skip ?_ | refine awp_exit ?_); dsimp only [thenA, blockA, AS.bump, List.length_cons, List.length_nil, reduceIte, Nat.reduceEqDiff]) | refine awp_condT rfl (by first | rfl | assumption | exact beq_int _ | exact bne_int _) ?_ | refine awp_condF rfl (by first | rfl | assumption | exact beq_int _ | exact bne_int _) ?_ | ((fail_if_success refine ARun.plain rfl ?_); first | refine ARun.knowT rfl rfl rfl (by first | rfl | assumption | exact beq_int _ | exact bne_int _) ?_ | refine ARun.knowF rfl rfl rfl (by first | rfl | assumption | exact beq_int _ | exact bne_int _) ?_)))
      refine ⟨(i + 1, _), ⟨⟨succI i, rfl, rfl, rfl, rfl, rfl, rfl, rfl, rfl, rfl, trivial⟩, ⟨?_, rfl, ?_, ?_, rfl, rfl, trivial⟩, Nat.le_refl _⟩, hlt, (by dsimp only; omega)⟩
      · rw [estep, e16, show haltD nm m2 (32 + 8 * ((i : Nat) : Int)) = (storeD m2 24 (32 + 8 * ((i : Nat) : Int))).1 by unfold haltD; rw [if_neg h1, if_pos h2]]
        rfl
      · rw [← hnext]
        rfl
      · rw [estep]
        rfl
    have d2 : ((ByteArray.mk nm.toArray).toList == (ByteArray.mk #[40, 99, 97, 117, 103, 104, 116, 41]).toList) = false := by rw [show ByteArray.mk #[40, 99, 97, 117, 103, 104, 116, 41] = ByteArray.mk nCaught.toArray from rfl, bs_eq]; exact decide_eq_false h2
    (repeat' (first | refine awp_seq ?_ | refine awp_block ?_ | refine awp_region (fun _ => hmix) ?_ | refine ARun.op rfl (by first | exact True.intro | exact rfl | (unfold inR; omega) | omega | ((try unfold inR); simp only [decide_eq_true_eq, decide_eq_false_iff_not, beq_iff_eq, beq_eq_false_iff_ne, ne_eq, Bool.not_eq_true', Bool.not_eq_false', List.length_map, List.length_append, List.length_take, List.length_drop, List.length_replicate, List.length_cons, List.length_nil] at *; omega)) ?_ | refine ARun.indexAddr rfl rfl (by omega) (by first | with_reducible exact get_map hp | with_reducible exact get_map hp) rfl rfl rfl rfl rfl (guardF_spec rfl) ?_ | refine callLX [(4, ⟨12, 2, [encM (newN c i).1]⟩), (6, ⟨16, 1, [[putV 4 12]]⟩), (8, ⟨19, 1, [[.val (.int .i64 (32 + 8 * ((i : Nat) : Int)))]]⟩), (7, ⟨18, 1, [[encWs (newN c i).2]]⟩), (1, ⟨0, 5, [encC c]⟩)] [(4, ⟨12, 2, [encM m2]⟩), (6, ⟨16, 1, [[putV 4 12]]⟩), (8, ⟨19, 1, [[.val (.int .i64 (32 + 8 * ((i : Nat) : Int) + 8))]]⟩), (7, ⟨18, 1, [[encWs l2]]⟩), (1, ⟨0, 5, [encC c]⟩)] ca (.inr rfl) ⟨rfl, rfl, rfl, rfl, rfl, trivial⟩ (RelL.cons (.wk (.same _) (.val _)) (RelL.cons (.wk (.same _) (.val _)) (RelL.cons (.wk (.same _) (.val _)) (RelL.cons (.ptr (j := 1) 0 0 rfl) (RelL.cons (.ptr (j := 2) 0 0 rfl) (RelL.cons (.ptr (j := 3) 0 0 rfl) (RelL.cons (.ptr (j := 4) 0 0 rfl) (RelL.nil _)))))))) ⟨⟨rfl, rfl, RelR.id (fun el x h1 h2 => .wk (.same _) (one_cl (encM_cl _) el x h1 h2))⟩, ⟨rfl, rfl, RelR.cons (RelL.cons (Ln.cloL (RelL.nil _) (RelL.cons (.ptr (j := 0) 0 0 rfl) (RelL.nil _))) (RelL.nil _)) (RelR.nil _)⟩, ⟨rfl, rfl, RelR.id (fun el x h1 h2 => .wk (.same _) (one_cl (closedL_cons (.val _) closedL_nil) el x h1 h2))⟩, ⟨rfl, rfl, RelR.id (fun el x h1 h2 => .wk (.same _) (one_cl (closedL_cons (closed_ws _) closedL_nil) el x h1 h2))⟩, ⟨rfl, rfl, RelR.id (fun el x h1 h2 => .wk (.same _) (one_cl (encC_closed _) el x h1 h2))⟩, trivial⟩ ⟨⟨rfl, rfl, rfl, RelR.id (fun el x h1 h2 => .same _ (one_cl (encM_cl _) el x h1 h2))⟩, ⟨rfl, rfl, rfl, RelR.cons (RelL.cons (Lb.cloL (RelL.nil _) (RelL.cons (.ptr (j := 0) 0 0 rfl) (RelL.nil _))) (RelL.nil _)) (RelR.nil _)⟩, ⟨rfl, rfl, rfl, RelR.id (fun el x h1 h2 => .same _ (one_cl (closedL_cons (.val _) closedL_nil) el x h1 h2))⟩, ⟨rfl, rfl, rfl, RelR.id (fun el x h1 h2 => .same _ (one_cl (closedL_cons (closed_ws _) closedL_nil) el x h1 h2))⟩, ⟨rfl, rfl, rfl, RelR.id (fun el x h1 h2 => .same _ (one_cl (encC_closed _) el x h1 h2))⟩, trivial⟩ (.same _ (.tup closedL_nil)) rfl rfl rfl ?_ | ((first | refine ARun.fin (by first | (intro h; cases h; done) | (intro _; kernel_rfl)) ?_ | refine awp_skip ?_ | refine awp_exit ?_); dsimp only [thenA, blockA, AS.bump, List.length_cons, List.length_nil, reduceIte, Nat.reduceEqDiff]) | refine awp_condT rfl (by first | rfl | assumption | exact beq_int _ | exact bne_int _) ?_ | refine awp_condF rfl (by first | rfl | assumption | exact beq_int _ | exact bne_int _) ?_ | ((fail_if_success refine ARun.plain rfl ?_); first | refine ARun.knowT rfl rfl rfl (by first | rfl | assumption | exact beq_int _ | exact bne_int _) ?_ | refine ARun.knowF rfl rfl rfl (by first | rfl | assumption | exact beq_int _ | exact bne_int _) ?_)))
    refine ⟨(i + 1, _), ⟨⟨succI i, rfl, rfl, rfl, rfl, rfl, rfl, rfl, rfl, rfl, trivial⟩, ⟨?_, rfl, ?_, ?_, rfl, rfl, trivial⟩, Nat.le_refl _⟩, hlt, (by dsimp only; omega)⟩
    · rw [estep, show haltD nm m2 (32 + 8 * ((i : Nat) : Int)) = m2 by unfold haltD; rw [if_neg h1, if_neg h2]]
      rfl
    · rw [← hnext]
      rfl
    · rw [estep]
      rfl
  have hi : i = 130 := by omega
  subst hi
  clear c1 c2 c3
  have hc : decide (((130 : Nat) : Int) < ((nmsV.map encN).length : Nat)) = false := decide_eq_false (by omega)
  (repeat' (first | refine awp_seq ?_ | refine awp_block ?_ | refine awp_region (fun _ => hmix) ?_ | refine ARun.op rfl (by first | exact True.intro | exact rfl | (unfold inR; omega) | omega | ((try unfold inR); simp only [decide_eq_true_eq, decide_eq_false_iff_not, beq_iff_eq, beq_eq_false_iff_ne, ne_eq, Bool.not_eq_true', Bool.not_eq_false', List.length_map, List.length_append, List.length_take, List.length_drop, List.length_replicate, List.length_cons, List.length_nil] at *; omega)) ?_ | refine callX (c4) rfl rfl rfl rfl ?_ | ((first | refine ARun.fin (by first | (intro h; cases h; done) | (intro _; kernel_rfl)) ?_ | refine awp_skip ?_ | refine awp_exit ?_); dsimp only [thenA, blockA, AS.bump, List.length_cons, List.length_nil, reduceIte, Nat.reduceEqDiff]) | refine awp_condT rfl (by first | rfl | assumption | exact beq_int _ | exact bne_int _) ?_ | refine awp_condF rfl (by first | rfl | assumption | exact beq_int _ | exact bne_int _) ?_ | ((fail_if_success refine ARun.plain rfl ?_); first | refine ARun.knowT rfl rfl rfl (by first | rfl | assumption | exact beq_int _ | exact bne_int _) ?_ | refine ARun.knowF rfl rfl rfl (by first | rfl | assumption | exact beq_int _ | exact bne_int _) ?_)))
  refine awp_loopT (T := Nat × Nat) (fun t => ⟨[(54, .val (.int .i64 (t.1 : Nat))), (53, .val (.int .i64 ((spcV.map encN).length : Nat))), (52, .sl 1 true (spcV.map encN)), (9, .clo (.func 45) [] [.ptr 6 16 0 0, .ptr 8 19 0 0, .ptr 7 18 0 0, .ptr 1 0 0 0]), (1, .ptr 1 0 0 0), (2, .ptr 2 1 0 0), (4, .ptr 4 12 0 0), (6, .ptr 6 16 0 0), (7, .ptr 7 18 0 0), (8, .ptr 8 19 0 0)], [(4, some ⟨12, 2, [encM (newS c t.1).1]⟩), (6, some ⟨16, 1, [[putV 4 12]]⟩), (8, some ⟨19, 1, [[.val (.int .i64 (1072 + 8 * ((t.1 : Nat) : Int)))]]⟩), (7, some ⟨18, 1, [[encWs (newS c t.1).2]]⟩), (1, some ⟨0, 5, [encC c]⟩), (2, some ⟨1, 23, [[.val (.int .i64 0), .val (.int .i64 0), .val (.int .i64 0), .val (.int .i64 0), .val (.int .i64 0), .sl 0 true [], .sl 0 true [], .val (.int .i64 0), .sl 0 true [], .sl 0 true [], .sl 0 true [], .sl 0 true [], .val (.int .i64 0), .sl 0 true [], .sl 0 true [], .val (.bool false), .sl 0 true [], .val (.int .i64 0), .val (.int .i64 0), .val (.int .i64 0), .val (.int .i64 0), .val (.int .i64 0), .sl 0 true []]]⟩)], t.2⟩) (fun t => t.1 ≤ 37) (fun t => 37 - t.1) (0, _) (Nat.zero_le _) ⟨⟨rfl, rfl, rfl, rfl, rfl, rfl, rfl, rfl, rfl, rfl, trivial⟩, ⟨rfl, rfl, rfl, rfl, rfl, rfl, trivial⟩, Nat.le_refl _⟩ (fun t htj => ?_)
  clear hc hnl
  obtain ⟨j, gc⟩ := t
  dsimp only at htj ⊢
  have hnl := len_spc
  obtain ⟨k1, k2, k3⟩ := newS_len c j
  rw [eb.2, List.length_nil] at k2
  by_cases hlt : j < 37
  · have hc : decide (((j : Nat) : Int) < ((spcV.map encN).length : Nat)) = true := decide_eq_true (by omega)
    have hi : j < spcV.length := by rw [List.length_map] at hnl; omega
    have hp : spcV[j]? = some spcV[j] := List.getElem?_eq_getElem hi
    generalize spcV[j] = nm at hp
    have hnm := spc_len hp
    have estep : newS c (j + 1) = ((storeD (newS c j).1 (1072 + 8 * ((j : Nat) : Int)) (300 + ((j : Nat) : Int))).1, (addD (newS c j).2 nm (1072 + 8 * ((j : Nat) : Int)) (flagsD nm (12 + ((j : Nat) : Int))) c.words).1) := by
      rw [newS, hp]
      rfl
    have hnext : [[AV.val (.int .i64 (1072 + 8 * ((j : Nat) : Int) + 8))]] = [[AV.val (.int .i64 (1072 + 8 * (((j + 1 : Nat)) : Int)))]] := by
      rw [show 1072 + 8 * ((j : Nat) : Int) + 8 = 1072 + 8 * (((j + 1 : Nat)) : Int) by omega]
    have ca := add_l (newS c j).1 (newS c j).2 c nm (12 + ((j : Nat) : Int)) (300 + ((j : Nat) : Int)) (1072 + 8 * ((j : Nat) : Int)) (by omega) (by omega) (by omega) (by omega) (by omega)
    generalize hm2 : (storeD (newS c j).1 (1072 + 8 * ((j : Nat) : Int)) (300 + ((j : Nat) : Int))).1 = m2 at *
    generalize hl2 : (addD (newS c j).2 nm (1072 + 8 * ((j : Nat) : Int)) (flagsD nm (12 + ((j : Nat) : Int))) c.words).1 = l2 at *
    (repeat' (first | refine awp_seq ?_ | refine awp_block ?_ | refine awp_region (fun _ => hmix) ?_ | refine ARun.op rfl (by first | exact True.intro | exact rfl | (unfold inR; omega) | omega | ((try unfold inR); simp only [decide_eq_true_eq, decide_eq_false_iff_not, beq_iff_eq, beq_eq_false_iff_ne, ne_eq, Bool.not_eq_true', Bool.not_eq_false', List.length_map, List.length_append, List.length_take, List.length_drop, List.length_replicate, List.length_cons, List.length_nil] at *; omega)) ?_ | refine ARun.indexAddr rfl rfl (by omega) (by first | with_reducible exact get_map hp | with_reducible exact get_map hp) rfl rfl rfl rfl rfl (guardF_spec rfl) ?_ | refine callLX [(4, ⟨12, 2, [encM (newS c j).1]⟩), (6, ⟨16, 1, [[putV 4 12]]⟩), (8, ⟨19, 1, [[.val (.int .i64 (1072 + 8 * ((j : Nat) : Int)))]]⟩), (7, ⟨18, 1, [[encWs (newS c j).2]]⟩), (1, ⟨0, 5, [encC c]⟩)] [(4, ⟨12, 2, [encM m2]⟩), (6, ⟨16, 1, [[putV 4 12]]⟩), (8, ⟨19, 1, [[.val (.int .i64 (1072 + 8 * ((j : Nat) : Int) + 8))]]⟩), (7, ⟨18, 1, [[encWs l2]]⟩), (1, ⟨0, 5, [encC c]⟩)] ca (.inr rfl) ⟨rfl, rfl, rfl, rfl, rfl, trivial⟩ (RelL.cons (.wk (.same _) (.val _)) (RelL.cons (.wk (.same _) (.val _)) (RelL.cons (.wk (.same _) (.val _)) (RelL.cons (.ptr (j := 1) 0 0 rfl) (RelL.cons (.ptr (j := 2) 0 0 rfl) (RelL.cons (.ptr (j := 3) 0 0 rfl) (RelL.cons (.ptr (j := 4) 0 0 rfl) (RelL.nil _)))))))) ⟨⟨rfl, rfl, RelR.id (fun el x h1 h2 => .wk (.same _) (one_cl (encM_cl _) el x h1 h2))⟩, ⟨rfl, rfl, RelR.cons (RelL.cons (Ln.cloL (RelL.nil _) (RelL.cons (.ptr (j := 0) 0 0 rfl) (RelL.nil _))) (RelL.nil _)) (RelR.nil _)⟩, ⟨rfl, rfl, RelR.id (fun el x h1 h2 => .wk (.same _) (one_cl (closedL_cons (.val _) closedL_nil) el x h1 h2))⟩, ⟨rfl, rfl, RelR.id (fun el x h1 h2 => .wk (.same _) (one_cl (closedL_cons (closed_ws _) closedL_nil) el x h1 h2))⟩, ⟨rfl, rfl, RelR.id (fun el x h1 h2 => .wk (.same _) (one_cl (encC_closed _) el x h1 h2))⟩, trivial⟩ ⟨⟨rfl, rfl, rfl, RelR.id (fun el x h1 h2 => .same _ (one_cl (encM_cl _) el x h1 h2))⟩, ⟨rfl, rfl, rfl, RelR.cons (RelL.cons (Lb.cloL (RelL.nil _) (RelL.cons (.ptr (j := 0) 0 0 rfl) (RelL.nil _))) (RelL.nil _)) (RelR.nil _)⟩, ⟨rfl, rfl, rfl, RelR.id (fun el x h1 h2 => .same _ (one_cl (closedL_cons (.val _) closedL_nil) el x h1 h2))⟩, ⟨rfl, rfl, rfl, RelR.id (fun el x h1 h2 => .same _ (one_cl (closedL_cons (closed_ws _) closedL_nil) el x h1 h2))⟩, ⟨rfl, rfl, rfl, RelR.id (fun el x h1 h2 => .same _ (one_cl (encC_closed _) el x h1 h2))⟩, trivial⟩ (.same _ (.tup closedL_nil)) rfl rfl rfl ?_ | ((first | refine ARun.fin (by first | (intro h; cases h; done) | (intro _; kernel_rfl)) ?_ | refine awp_skip ?_ | refine awp_exit ?_); dsimp only [thenA, blockA, AS.bump, List.length_cons, List.length_nil, reduceIte, Nat.reduceEqDiff]) | refine awp_condT rfl (by first | rfl | assumption | exact beq_int _ | exact bne_int _) ?_ | refine awp_condF rfl (by first | rfl | assumption | exact beq_int _ | exact bne_int _) ?_ | ((fail_if_success refine ARun.plain rfl ?_); first | refine ARun.knowT rfl rfl rfl (by first | rfl | assumption | exact beq_int _ | exact bne_int _) ?_ | refine ARun.knowF rfl rfl rfl (by first | rfl | assumption | exact beq_int _ | exact bne_int _) ?_)))
    refine ⟨(j + 1, _), ⟨⟨succI j, rfl, rfl, rfl, rfl, rfl, rfl, rfl, rfl, rfl, trivial⟩, ⟨?_, rfl, ?_, ?_, rfl, rfl, trivial⟩, Nat.le_refl _⟩, hlt, (by dsimp only; omega)⟩
    · rw [estep]
      rfl
    · rw [← hnext]
      rfl
    · rw [estep]
      rfl
  have hj : j = 37 := by omega
  subst hj
  have hc : decide (((37 : Nat) : Int) < ((spcV.map encN).length : Nat)) = false := decide_eq_false (by omega)
  have cp := put_l (newS c 37).1 0 10 (by omega) (by omega)
  have cf := Mem.free_c (storeD (newS c 37).1 0 10).1
  generalize (storeD (newS c 37).1 0 10).1 = m2 at *
  generalize newS c 37 = p at *
  (repeat' (first | refine awp_seq ?_ | refine awp_block ?_ | refine awp_region (fun _ => hmix) ?_ | refine ARun.op rfl (by first | exact True.intro | exact rfl | (unfold inR; omega) | omega | ((try unfold inR); simp only [decide_eq_true_eq, decide_eq_false_iff_not, beq_iff_eq, beq_eq_false_iff_ne, ne_eq, Bool.not_eq_true', Bool.not_eq_false', List.length_map, List.length_append, List.length_take, List.length_drop, List.length_replicate, List.length_cons, List.length_nil] at *; omega)) ?_ | refine callLX [(4, ⟨12, 2, [encM p.1]⟩)] [(4, ⟨12, 2, [encM m2]⟩)] cp (.inr rfl) ⟨rfl, trivial⟩ (RelL.cons (.wk (.same _) (.val _)) (RelL.cons (.wk (.same _) (.val _)) (RelL.cons (.ptr (j := 0) 0 0 rfl) (RelL.nil _)))) ⟨⟨rfl, rfl, RelR.id (fun el x h1 h2 => .wk (.same _) (one_cl (encM_cl _) el x h1 h2))⟩, trivial⟩ ⟨⟨rfl, rfl, rfl, RelR.id (fun el x h1 h2 => .same _ (one_cl (encM_cl _) el x h1 h2))⟩, trivial⟩ (.same _ (.tup closedL_nil)) rfl rfl rfl ?_ | refine callX (cf) rfl rfl rfl rfl ?_ | ((first | refine ARun.fin (by first | (intro h; cases h; done) | (intro _; kernel_rfl)) ?_ | refine awp_skip ?_ | refine awp_exit ?_); dsimp only [thenA, blockA, AS.bump, List.length_cons, List.length_nil, reduceIte, Nat.reduceEqDiff]) | refine awp_condT rfl (by first | rfl | assumption | exact beq_int _ | exact bne_int _) ?_ | refine awp_condF rfl (by first | rfl | assumption | exact beq_int _ | exact bne_int _) ?_ | ((fail_if_success refine ARun.plain rfl ?_); first | refine ARun.knowT rfl rfl rfl (by first | rfl | assumption | exact beq_int _ | exact bne_int _) ?_ | refine ARun.knowF rfl rfl rfl (by first | rfl | assumption | exact beq_int _ | exact bne_int _) ?_)))
  refine awp_ret ⟨_, ResL.cons (ResA.agg rfl rfl rfl rfl rfl rfl rfl (RL.cons (.val _) (RL.cons (.val _) (RL.cons (.val _) (RL.cons (.val _) (RL.cons (.val _) (RL.cons (.closed _ (closed_bs _)) (RL.cons (.closed _ (closed_map encP_closed)) (RL.cons (.val _) (RL.cons (.nilSl (sz' := 1)) (RL.cons (.nilSl (sz' := 1)) (RL.cons (.nilSl (sz' := 3)) (RL.cons (.closed _ (closed_ws _)) (RL.cons (.val _) (RL.cons (.nilSl (sz' := 1)) (RL.cons (.nilSl (sz' := 1)) (RL.cons (.val _) (RL.cons (.nilSl (sz' := 6)) (RL.cons (.val _) (RL.cons (.val _) (RL.cons (.val _) (RL.cons (.val _) (RL.cons (.val _) (RL.cons (.nilSl (sz' := 4)) (RL.nil _))))))))))))))))))))))))) (ResL.cons (ResA.tmp (.val _)) .nil), ?_⟩
  rfl
end Go.Proofs.Ytgkjappmcgnabaa
/- vm: frames, handlers, numbers under way that may be. -/
namespace Go.Proofs.Ytgkjappmcgnabaa
set_option linter.unusedVariables false
set_option linter.unusedSimpArgs false
open Go Go.RowKit
open Dict (St Bs bs_eq)
open Mem (encBs closed_bs)
set_option maxRecDepth 100000
attribute [local irreducible] Decidable.decide awp ARun regK toK
def FrOk (x : Fr) : Prop := (0 ≤ x.d ∧ x.d ≤ 256) ∧ 0 ≤ x.r ∧ x.r ≤ 256
def FramedP (l : List Fr) : Prop := (∀ x, x ∈ l → FrOk x) ∧ l.length ≤ 64
def HandP (l : List Hn) : Prop := (∀ x, x ∈ l → 0 ≤ x.fuel) ∧ l.length ≤ 64
open Classical in
noncomputable def pD (p : Prop) : Bool := if p then true else false
theorem pD_yes {p : Prop} (h : p) : pD p = true := by unfold pD; exact if_pos h
theorem pD_no {p : Prop} (h : ¬ p) : pD p = false := by unfold pD; exact if_neg h
theorem pD_iff {p : Prop} : pD p = true ↔ p := by unfold pD; split <;> simp_all
theorem pD_congr {p q : Prop} (h : p ↔ q) : pD p = pD q := by
  by_cases hp : p
  · rw [pD_yes hp, pD_yes (h.1 hp)]
  · rw [pD_no hp, pD_no (fun e => hp (h.2 e))]
theorem mem_snocG {α : Type} {l : List α} {k : Nat} {w : α} {R : α → Prop} (h : l[k]? = some w) (h1 : ∀ v, v ∈ l.take k → R v) (h2 : R w) : ∀ v, v ∈ l.take (k + 1) → R v := fun v hv => by
  rw [take_succ' h] at hv
  rcases List.mem_append.1 hv with hv | hv
  · exact h1 v hv
  · rw [List.mem_singleton.1 hv]; exact h2
set_option maxHeartbeats 4000000 in
theorem framed_c (l : List Fr) (hl : l.length ≤ 1000000) : FnC Try.prog 59 [encLFr l] (.val (.bool (pD (FramedP l)))) := by
  refine FnC.of_awp (T := tt) (ok := tok) Try.func59 (by kernel_rfl) rfl (by kernel_rfl) (closedL_cons (closedFr l) closedL_nil) (fun w0 st0 => ?_)
  dsimp only [frOf]
  (repeat' (first | refine awp_seq ?_ | refine awp_block ?_ | refine awp_region (fun _ => hmix) ?_ | refine ARun.op rfl (by first | exact True.intro | exact rfl | (unfold inR; omega) | omega | ((try unfold inR); simp only [decide_eq_true_eq, decide_eq_false_iff_not, beq_iff_eq, beq_eq_false_iff_ne, ne_eq, Bool.not_eq_true', Bool.not_eq_false', List.length_map, List.length_append, List.length_take, List.length_drop, List.length_replicate, List.length_cons, List.length_nil] at *; omega)) ?_ | ((first | refine ARun.fin (by first | (intro h; cases h; done) | (intro _; kernel_rfl)) ?_ | refine awp_skip ?_ | refine awp_exit ?_); dsimp only [thenA, blockA, AS.bump, List.length_cons, List.length_nil, reduceIte, Nat.reduceEqDiff]) | refine awp_condT rfl (by first | rfl | assumption | exact beq_int _ | exact bne_int _) ?_ | refine awp_condF rfl (by first | rfl | assumption | exact beq_int _ | exact bne_int _) ?_ | ((fail_if_success refine ARun.plain rfl ?_); first | refine ARun.knowT rfl rfl rfl (by first | rfl | assumption | exact beq_int _ | exact bne_int _) ?_ | refine ARun.knowF rfl rfl rfl (by first | rfl | assumption | exact beq_int _ | exact bne_int _) ?_ | refine ARun.fork rfl rfl rfl (fun h => ?_) (fun h => ?_)) | refine awp_cond rfl (fun h => ?_) (fun h => ?_)))
  refine awp_loopT (T := Nat × Nat) (fun t => ⟨[(7, .val (.int .i64 (t.1 : Nat))), (6, .val (.int .i64 ((l.map encFr).length : Nat))), (5, encLFr l), (0, encLFr l)], [], t.2⟩) (fun t => t.1 ≤ l.length ∧ ∀ x, x ∈ l.take t.1 → FrOk x) (fun t => l.length - t.1) (0, _) ⟨Nat.zero_le _, fun w h => by cases h⟩ ⟨⟨rfl, rfl, rfl, rfl, trivial⟩, trivial, Nat.le_refl _⟩ (fun t ht => ?_)
  obtain ⟨i, gc⟩ := t
  obtain ⟨hi, hA⟩ := ht
  dsimp only at hi hA ⊢
  by_cases hlt : i < l.length
  · have hc : decide (((i : Nat) : Int) < ((l.map encFr).length : Nat)) = true := by simp; omega
    have hp : l[i]? = some l[i] := List.getElem?_eq_getElem hlt
    have hm : l[i] ∈ l := List.getElem_mem hlt
    generalize l[i] = x at hp hm
    have c1 := within_c x.d 0 256
    have c2 := within_c x.r 0 256
    by_cases h1 : 0 ≤ x.d ∧ x.d ≤ 256
    · rw [decide_eq_true h1] at c1
      by_cases h2 : 0 ≤ x.r ∧ x.r ≤ 256
      · rw [decide_eq_true h2] at c2
        (repeat' (first | refine awp_seq ?_ | refine awp_block ?_ | refine awp_region (fun _ => hmix) ?_ | refine ARun.op rfl (by first | exact True.intro | exact rfl | (unfold inR; omega) | omega | ((try unfold inR); simp only [decide_eq_true_eq, decide_eq_false_iff_not, beq_iff_eq, beq_eq_false_iff_ne, ne_eq, Bool.not_eq_true', Bool.not_eq_false', List.length_map, List.length_append, List.length_take, List.length_drop, List.length_replicate, List.length_cons, List.length_nil] at *; omega)) ?_ | refine ARun.indexAddr rfl rfl (by omega) (by first | with_reducible exact get_map hp | with_reducible exact get_map hp) rfl rfl rfl rfl rfl (guardF_spec rfl) ?_ | refine callX (c1) rfl rfl rfl rfl ?_ | refine callX (c2) rfl rfl rfl rfl ?_ | ((first | refine ARun.fin (by first | (intro h; cases h; done) | (intro _; kernel_rfl)) ?_ | refine awp_skip ?_ | refine awp_exit ?_); dsimp only [thenA, blockA, AS.bump, List.length_cons, List.length_nil, reduceIte, Nat.reduceEqDiff]) | refine awp_condT rfl (by first | rfl | assumption | exact beq_int _ | exact bne_int _) ?_ | refine awp_condF rfl (by first | rfl | assumption | exact beq_int _ | exact bne_int _) ?_ | ((fail_if_success refine ARun.plain rfl ?_); first | refine ARun.knowT rfl rfl rfl (by first | rfl | assumption | exact beq_int _ | exact bne_int _) ?_ | refine ARun.knowF rfl rfl rfl (by first | rfl | assumption | exact beq_int _ | exact bne_int _) ?_)))
        exact ⟨(i + 1, _), ⟨⟨succI i, rfl, rfl, rfl, trivial⟩, trivial, Nat.le_refl _⟩, ⟨hlt, mem_snocG hp hA ⟨h1, h2⟩⟩, (by dsimp only; omega)⟩
      · rw [decide_eq_false h2] at c2
        rw [pD_no (fun h => h2 (h.1 x hm).2)]
        (repeat' (first | refine awp_seq ?_ | refine awp_block ?_ | refine awp_region (fun _ => hmix) ?_ | refine ARun.op rfl (by first | exact True.intro | exact rfl | (unfold inR; omega) | omega | ((try unfold inR); simp only [decide_eq_true_eq, decide_eq_false_iff_not, beq_iff_eq, beq_eq_false_iff_ne, ne_eq, Bool.not_eq_true', Bool.not_eq_false', List.length_map, List.length_append, List.length_take, List.length_drop, List.length_replicate, List.length_cons, List.length_nil] at *; omega)) ?_ | refine ARun.indexAddr rfl rfl (by omega) (by first | with_reducible exact get_map hp | with_reducible exact get_map hp) rfl rfl rfl rfl rfl (guardF_spec rfl) ?_ | refine callX (c1) rfl rfl rfl rfl ?_ | refine callX (c2) rfl rfl rfl rfl ?_ | ((first | refine ARun.fin (by first | (intro h; cases h; done) | (intro _; kernel_rfl)) ?_ | refine awp_skip ?_ | refine awp_exit ?_); dsimp only [thenA, blockA, AS.bump, List.length_cons, List.length_nil, reduceIte, Nat.reduceEqDiff]) | refine awp_condT rfl (by first | rfl | assumption | exact beq_int _ | exact bne_int _) ?_ | refine awp_condF rfl (by first | rfl | assumption | exact beq_int _ | exact bne_int _) ?_ | ((fail_if_success refine ARun.plain rfl ?_); first | refine ARun.knowT rfl rfl rfl (by first | rfl | assumption | exact beq_int _ | exact bne_int _) ?_ | refine ARun.knowF rfl rfl rfl (by first | rfl | assumption | exact beq_int _ | exact bne_int _) ?_)))
        exact awp_ret ⟨_, ResL.cons (ResA.tmp (.val _)) .nil, rfl⟩
    · rw [decide_eq_false h1] at c1
      rw [pD_no (fun h => h1 (h.1 x hm).1)]
      (repeat' (first | refine awp_seq ?_ | refine awp_block ?_ | refine awp_region (fun _ => hmix) ?_ | refine ARun.op rfl (by first | exact True.intro | exact rfl | (unfold inR; omega) | omega | ((try unfold inR); simp only [decide_eq_true_eq, decide_eq_false_iff_not, beq_iff_eq, beq_eq_false_iff_ne, ne_eq, Bool.not_eq_true', Bool.not_eq_false', List.length_map, List.length_append, List.length_take, List.length_drop, List.length_replicate, List.length_cons, List.length_nil] at *; omega)) ?_ | refine ARun.indexAddr rfl rfl (by omega) (by first | with_reducible exact get_map hp | with_reducible exact get_map hp) rfl rfl rfl rfl rfl (guardF_spec rfl) ?_ | refine callX (c1) rfl rfl rfl rfl ?_ | refine callX (c2) rfl rfl rfl rfl ?_ | ((first | refine ARun.fin (by first | (intro h; cases h; done) | (intro _; kernel_rfl)) ?_ | refine awp_skip ?_ | refine awp_exit ?_); dsimp only [thenA, blockA, AS.bump, List.length_cons, List.length_nil, reduceIte, Nat.reduceEqDiff]) | refine awp_condT rfl (by first | rfl | assumption | exact beq_int _ | exact bne_int _) ?_ | refine awp_condF rfl (by first | rfl | assumption | exact beq_int _ | exact bne_int _) ?_ | ((fail_if_success refine ARun.plain rfl ?_); first | refine ARun.knowT rfl rfl rfl (by first | rfl | assumption | exact beq_int _ | exact bne_int _) ?_ | refine ARun.knowF rfl rfl rfl (by first | rfl | assumption | exact beq_int _ | exact bne_int _) ?_)))
      exact awp_ret ⟨_, ResL.cons (ResA.tmp (.val _)) .nil, rfl⟩
  · have hii : i = l.length := by omega
    subst hii
    have hc : decide (((l.length : Nat) : Int) < ((l.map encFr).length : Nat)) = false := by simp
    rw [List.take_length] at hA
    (repeat' (first | refine awp_seq ?_ | refine awp_block ?_ | refine awp_region (fun _ => hmix) ?_ | refine ARun.op rfl (by first | exact True.intro | exact rfl | (unfold inR; omega) | omega | ((try unfold inR); simp only [decide_eq_true_eq, decide_eq_false_iff_not, beq_iff_eq, beq_eq_false_iff_ne, ne_eq, Bool.not_eq_true', Bool.not_eq_false', List.length_map, List.length_append, List.length_take, List.length_drop, List.length_replicate, List.length_cons, List.length_nil] at *; omega)) ?_ | ((first | refine ARun.fin (by first | (intro h; cases h; done) | (intro _; kernel_rfl)) ?_ | refine awp_skip ?_ | refine awp_exit ?_); dsimp only [thenA, blockA, AS.bump, List.length_cons, List.length_nil, reduceIte, Nat.reduceEqDiff]) | refine awp_condT rfl (by first | rfl | assumption | exact beq_int _ | exact bne_int _) ?_ | refine awp_condF rfl (by first | rfl | assumption | exact beq_int _ | exact bne_int _) ?_ | ((fail_if_success refine ARun.plain rfl ?_); first | refine ARun.knowT rfl rfl rfl (by first | rfl | assumption | exact beq_int _ | exact bne_int _) ?_ | refine ARun.knowF rfl rfl rfl (by first | rfl | assumption | exact beq_int _ | exact bne_int _) ?_)))
    refine awp_ret ⟨_, ResL.cons (ResA.tmp (.val _)) .nil, congrArg (fun b => AV.val (.bool b)) ?_⟩
    by_cases h4 : l.length ≤ 64
    · rw [pD_yes ⟨hA, h4⟩, decide_eq_true (by rw [List.length_map]; omega)]
    · rw [pD_no (fun h => h4 h.2), decide_eq_false (by rw [List.length_map]; omega)]
set_option maxHeartbeats 4000000 in
theorem handled_c (l : List Hn) (hl : l.length ≤ 1000000) : FnC Try.prog 62 [encLHn l] (.val (.bool (pD (HandP l)))) := by
  refine FnC.of_awp (T := tt) (ok := tok) Try.func62 (by kernel_rfl) rfl (by kernel_rfl) (closedL_cons (closedHn l) closedL_nil) (fun w0 st0 => ?_)
  dsimp only [frOf]
  (repeat' (first | refine awp_seq ?_ | refine awp_block ?_ | refine awp_region (fun _ => hmix) ?_ | refine ARun.op rfl (by first | exact True.intro | exact rfl | (unfold inR; omega) | omega | ((try unfold inR); simp only [decide_eq_true_eq, decide_eq_false_iff_not, beq_iff_eq, beq_eq_false_iff_ne, ne_eq, Bool.not_eq_true', Bool.not_eq_false', List.length_map, List.length_append, List.length_take, List.length_drop, List.length_replicate, List.length_cons, List.length_nil] at *; omega)) ?_ | ((first | refine ARun.fin (by first | (intro h; cases h; done) | (intro _; kernel_rfl)) ?_ | refine awp_skip ?_ | refine awp_exit ?_); dsimp only [thenA, blockA, AS.bump, List.length_cons, List.length_nil, reduceIte, Nat.reduceEqDiff]) | refine awp_condT rfl (by first | rfl | assumption | exact beq_int _ | exact bne_int _) ?_ | refine awp_condF rfl (by first | rfl | assumption | exact beq_int _ | exact bne_int _) ?_ | ((fail_if_success refine ARun.plain rfl ?_); first | refine ARun.knowT rfl rfl rfl (by first | rfl | assumption | exact beq_int _ | exact bne_int _) ?_ | refine ARun.knowF rfl rfl rfl (by first | rfl | assumption | exact beq_int _ | exact bne_int _) ?_ | refine ARun.fork rfl rfl rfl (fun h => ?_) (fun h => ?_)) | refine awp_cond rfl (fun h => ?_) (fun h => ?_)))
  refine awp_loopT (T := Nat × Nat) (fun t => ⟨[(7, .val (.int .i64 (t.1 : Nat))), (6, .val (.int .i64 ((l.map encHn).length : Nat))), (5, encLHn l), (0, encLHn l)], [], t.2⟩) (fun t => t.1 ≤ l.length ∧ ∀ x, x ∈ l.take t.1 → 0 ≤ x.fuel) (fun t => l.length - t.1) (0, _) ⟨Nat.zero_le _, fun w h => by cases h⟩ ⟨⟨rfl, rfl, rfl, rfl, trivial⟩, trivial, Nat.le_refl _⟩ (fun t ht => ?_)
  obtain ⟨i, gc⟩ := t
  obtain ⟨hi, hA⟩ := ht
  dsimp only at hi hA ⊢
  by_cases hlt : i < l.length
  · have hc : decide (((i : Nat) : Int) < ((l.map encHn).length : Nat)) = true := by simp; omega
    have hp : l[i]? = some l[i] := List.getElem?_eq_getElem hlt
    have hm : l[i] ∈ l := List.getElem_mem hlt
    generalize l[i] = x at hp hm
    by_cases h1 : x.fuel < 0
    · have d1 : decide (x.fuel < 0) = true := decide_eq_true h1
      rw [pD_no (fun h => by have := h.1 x hm; omega)]
      (repeat' (first | refine awp_seq ?_ | refine awp_block ?_ | refine awp_region (fun _ => hmix) ?_ | refine ARun.op rfl (by first | exact True.intro | exact rfl | (unfold inR; omega) | omega | ((try unfold inR); simp only [decide_eq_true_eq, decide_eq_false_iff_not, beq_iff_eq, beq_eq_false_iff_ne, ne_eq, Bool.not_eq_true', Bool.not_eq_false', List.length_map, List.length_append, List.length_take, List.length_drop, List.length_replicate, List.length_cons, List.length_nil] at *; omega)) ?_ | refine ARun.indexAddr rfl rfl (by omega) (by first | with_reducible exact get_map hp | with_reducible exact get_map hp) rfl rfl rfl rfl rfl (guardF_spec rfl) ?_ | ((first | refine ARun.fin (by first | (intro h; cases h; done) | (intro _; kernel_rfl)) ?_ | refine awp_skip ?_ | refine awp_exit ?_); dsimp only [thenA, blockA, AS.bump, List.length_cons, List.length_nil, reduceIte, Nat.reduceEqDiff]) | refine awp_condT rfl (by first | rfl | assumption | exact beq_int _ | exact bne_int _) ?_ | refine awp_condF rfl (by first | rfl | assumption | exact beq_int _ | exact bne_int _) ?_ | ((fail_if_success refine ARun.plain rfl ?_); first | refine ARun.knowT rfl rfl rfl (by first | rfl | assumption | exact beq_int _ | exact bne_int _) ?_ | refine ARun.knowF rfl rfl rfl (by first | rfl | assumption | exact beq_int _ | exact bne_int _) ?_)))
      exact awp_ret ⟨_, ResL.cons (ResA.tmp (.val _)) .nil, rfl⟩
    · have d1 : decide (x.fuel < 0) = false := decide_eq_false h1
      (repeat' (first | refine awp_seq ?_ | refine awp_block ?_ | refine awp_region (fun _ => hmix) ?_ | refine ARun.op rfl (by first | exact True.intro | exact rfl | (unfold inR; omega) | omega | ((try unfold inR); simp only [decide_eq_true_eq, decide_eq_false_iff_not, beq_iff_eq, beq_eq_false_iff_ne, ne_eq, Bool.not_eq_true', Bool.not_eq_false', List.length_map, List.length_append, List.length_take, List.length_drop, List.length_replicate, List.length_cons, List.length_nil] at *; omega)) ?_ | refine ARun.indexAddr rfl rfl (by omega) (by first | with_reducible exact get_map hp | with_reducible exact get_map hp) rfl rfl rfl rfl rfl (guardF_spec rfl) ?_ | ((first | refine ARun.fin (by first | (intro h; cases h; done) | (intro _; kernel_rfl)) ?_ | refine awp_skip ?_ | refine awp_exit ?_); dsimp only [thenA, blockA, AS.bump, List.length_cons, List.length_nil, reduceIte, Nat.reduceEqDiff]) | refine awp_condT rfl (by first | rfl | assumption | exact beq_int _ | exact bne_int _) ?_ | refine awp_condF rfl (by first | rfl | assumption | exact beq_int _ | exact bne_int _) ?_ | ((fail_if_success refine ARun.plain rfl ?_); first | refine ARun.knowT rfl rfl rfl (by first | rfl | assumption | exact beq_int _ | exact bne_int _) ?_ | refine ARun.knowF rfl rfl rfl (by first | rfl | assumption | exact beq_int _ | exact bne_int _) ?_)))
      exact ⟨(i + 1, _), ⟨⟨succI i, rfl, rfl, rfl, trivial⟩, trivial, Nat.le_refl _⟩, ⟨hlt, mem_snocG hp hA (by omega)⟩, (by dsimp only; omega)⟩
  · have hii : i = l.length := by omega
    subst hii
    have hc : decide (((l.length : Nat) : Int) < ((l.map encHn).length : Nat)) = false := by simp
    rw [List.take_length] at hA
    (repeat' (first | refine awp_seq ?_ | refine awp_block ?_ | refine awp_region (fun _ => hmix) ?_ | refine ARun.op rfl (by first | exact True.intro | exact rfl | (unfold inR; omega) | omega | ((try unfold inR); simp only [decide_eq_true_eq, decide_eq_false_iff_not, beq_iff_eq, beq_eq_false_iff_ne, ne_eq, Bool.not_eq_true', Bool.not_eq_false', List.length_map, List.length_append, List.length_take, List.length_drop, List.length_replicate, List.length_cons, List.length_nil] at *; omega)) ?_ | ((first | refine ARun.fin (by first | (intro h; cases h; done) | (intro _; kernel_rfl)) ?_ | refine awp_skip ?_ | refine awp_exit ?_); dsimp only [thenA, blockA, AS.bump, List.length_cons, List.length_nil, reduceIte, Nat.reduceEqDiff]) | refine awp_condT rfl (by first | rfl | assumption | exact beq_int _ | exact bne_int _) ?_ | refine awp_condF rfl (by first | rfl | assumption | exact beq_int _ | exact bne_int _) ?_ | ((fail_if_success refine ARun.plain rfl ?_); first | refine ARun.knowT rfl rfl rfl (by first | rfl | assumption | exact beq_int _ | exact bne_int _) ?_ | refine ARun.knowF rfl rfl rfl (by first | rfl | assumption | exact beq_int _ | exact bne_int _) ?_)))
    refine awp_ret ⟨_, ResL.cons (ResA.tmp (.val _)) .nil, congrArg (fun b => AV.val (.bool b)) ?_⟩
    by_cases h4 : l.length ≤ 64
    · rw [pD_yes ⟨hA, h4⟩, decide_eq_true (by rw [List.length_map]; omega)]
    · rw [pD_no (fun h => h4 h.2), decide_eq_false (by rw [List.length_map]; omega)]
def encPc (b : Bs) (o : Bool) : List AV := [encBs b, .val (.bool o)]
def PicP (b : Bs) (o : Bool) : Prop := b.length ≤ 130 ∧ (o = true ∨ b.length = 0)
theorem pic_right_c (b : Bs) (o : Bool) : FnC Try.prog 61 [.agg (encPc b o)] (.val (.bool (pD (PicP b o)))) := by
  by_cases h1 : b.length ≤ 130
  · have d1 : decide ((((b.map encB).length : Nat) : Int) ≤ 130) = true := decide_eq_true (by rw [List.length_map]; omega)
    cases o with
    | true =>
      rw [pD_yes ⟨h1, .inl rfl⟩]
      refine FnC.of_awp (T := tt) (ok := tok) Try.func61 (by kernel_rfl) rfl (by kernel_rfl) (closedL_cons (.agg (closedL_cons (closed_bs _) (closedL_cons (.val _) closedL_nil))) closedL_nil) (fun w0 st0 => ?_)
      dsimp only [frOf]
      (repeat' (first | refine awp_seq ?_ | refine awp_block ?_ | refine awp_region (fun _ => hmix) ?_ | refine ARun.op rfl (by first | exact True.intro | exact rfl | (unfold inR; omega) | omega | ((try unfold inR); simp only [decide_eq_true_eq, decide_eq_false_iff_not, beq_iff_eq, beq_eq_false_iff_ne, ne_eq, Bool.not_eq_true', Bool.not_eq_false', List.length_map, List.length_append, List.length_take, List.length_drop, List.length_replicate, List.length_cons, List.length_nil] at *; omega)) ?_ | ((first | refine ARun.fin (by first | (intro h; cases h; done) | (intro _; kernel_rfl)) ?_ | refine awp_skip ?_ | refine awp_exit ?_); dsimp only [thenA, blockA, AS.bump, List.length_cons, List.length_nil, reduceIte, Nat.reduceEqDiff]) | refine awp_condT rfl (by first | rfl | assumption | exact beq_int _ | exact bne_int _) ?_ | refine awp_condF rfl (by first | rfl | assumption | exact beq_int _ | exact bne_int _) ?_ | ((fail_if_success refine ARun.plain rfl ?_); first | refine ARun.knowT rfl rfl rfl (by first | rfl | assumption | exact beq_int _ | exact bne_int _) ?_ | refine ARun.knowF rfl rfl rfl (by first | rfl | assumption | exact beq_int _ | exact bne_int _) ?_)))
      exact awp_ret ⟨_, ResL.cons (ResA.tmp (.val _)) .nil, rfl⟩
    | false =>
      refine FnC.of_awp (T := tt) (ok := tok) Try.func61 (by kernel_rfl) rfl (by kernel_rfl) (closedL_cons (.agg (closedL_cons (closed_bs _) (closedL_cons (.val _) closedL_nil))) closedL_nil) (fun w0 st0 => ?_)
      dsimp only [frOf]
      (repeat' (first | refine awp_seq ?_ | refine awp_block ?_ | refine awp_region (fun _ => hmix) ?_ | refine ARun.op rfl (by first | exact True.intro | exact rfl | (unfold inR; omega) | omega | ((try unfold inR); simp only [decide_eq_true_eq, decide_eq_false_iff_not, beq_iff_eq, beq_eq_false_iff_ne, ne_eq, Bool.not_eq_true', Bool.not_eq_false', List.length_map, List.length_append, List.length_take, List.length_drop, List.length_replicate, List.length_cons, List.length_nil] at *; omega)) ?_ | ((first | refine ARun.fin (by first | (intro h; cases h; done) | (intro _; kernel_rfl)) ?_ | refine awp_skip ?_ | refine awp_exit ?_); dsimp only [thenA, blockA, AS.bump, List.length_cons, List.length_nil, reduceIte, Nat.reduceEqDiff]) | refine awp_condT rfl (by first | rfl | assumption | exact beq_int _ | exact bne_int _) ?_ | refine awp_condF rfl (by first | rfl | assumption | exact beq_int _ | exact bne_int _) ?_ | ((fail_if_success refine ARun.plain rfl ?_); first | refine ARun.knowT rfl rfl rfl (by first | rfl | assumption | exact beq_int _ | exact bne_int _) ?_ | refine ARun.knowF rfl rfl rfl (by first | rfl | assumption | exact beq_int _ | exact bne_int _) ?_)))
      refine awp_ret ⟨_, ResL.cons (ResA.tmp (.val _)) .nil, congrArg (fun b => AV.val (.bool b)) ?_⟩
      by_cases h2 : b.length = 0
      · rw [pD_yes ⟨h1, .inr h2⟩]
        exact (beq_iff_eq.2 (by rw [List.length_map, h2]; rfl)).symm
      · rw [pD_no (fun h => h2 (h.2.resolve_left (by simp)))]
        exact (beq_eq_false_iff_ne.2 (by rw [List.length_map]; omega)).symm
  · have d1 : decide ((((b.map encB).length : Nat) : Int) ≤ 130) = false := decide_eq_false (by rw [List.length_map]; omega)
    rw [pD_no (fun h => h1 h.1)]
    refine FnC.of_awp (T := tt) (ok := tok) Try.func61 (by kernel_rfl) rfl (by kernel_rfl) (closedL_cons (.agg (closedL_cons (closed_bs _) (closedL_cons (.val _) closedL_nil))) closedL_nil) (fun w0 st0 => ?_)
    dsimp only [frOf]
    (repeat' (first | refine awp_seq ?_ | refine awp_block ?_ | refine awp_region (fun _ => hmix) ?_ | refine ARun.op rfl (by first | exact True.intro | exact rfl | (unfold inR; omega) | omega | ((try unfold inR); simp only [decide_eq_true_eq, decide_eq_false_iff_not, beq_iff_eq, beq_eq_false_iff_ne, ne_eq, Bool.not_eq_true', Bool.not_eq_false', List.length_map, List.length_append, List.length_take, List.length_drop, List.length_replicate, List.length_cons, List.length_nil] at *; omega)) ?_ | ((first | refine ARun.fin (by first | (intro h; cases h; done) | (intro _; kernel_rfl)) ?_ | refine awp_skip ?_ | refine awp_exit ?_); dsimp only [thenA, blockA, AS.bump, List.length_cons, List.length_nil, reduceIte, Nat.reduceEqDiff]) | refine awp_condT rfl (by first | rfl | assumption | exact beq_int _ | exact bne_int _) ?_ | refine awp_condF rfl (by first | rfl | assumption | exact beq_int _ | exact bne_int _) ?_ | ((fail_if_success refine ARun.plain rfl ?_); first | refine ARun.knowT rfl rfl rfl (by first | rfl | assumption | exact beq_int _ | exact bne_int _) ?_ | refine ARun.knowF rfl rfl rfl (by first | rfl | assumption | exact beq_int _ | exact bne_int _) ?_)))
    exact awp_ret ⟨_, ResL.cons (ResA.tmp (.val _)) .nil, rfl⟩
theorem ref_pic_right_c (b : Bs) (o : Bool) : FnC Try.prog 65 [.agg (encPc b o)] (.val (.bool (pD (PicP b o)))) := by
  by_cases h1 : b.length ≤ 130
  · have d1 : decide ((((b.map encB).length : Nat) : Int) ≤ 130) = true := decide_eq_true (by rw [List.length_map]; omega)
    cases o with
    | true =>
      rw [pD_yes ⟨h1, .inl rfl⟩]
      refine FnC.of_awp (T := tt) (ok := tok) Try.func65 (by kernel_rfl) rfl (by kernel_rfl) (closedL_cons (.agg (closedL_cons (closed_bs _) (closedL_cons (.val _) closedL_nil))) closedL_nil) (fun w0 st0 => ?_)
      dsimp only [frOf]
      (repeat' (first | refine awp_seq ?_ | refine awp_block ?_ | refine awp_region (fun _ => hmix) ?_ | refine ARun.op rfl (by first | exact True.intro | exact rfl | (unfold inR; omega) | omega | ((try unfold inR); simp only [decide_eq_true_eq, decide_eq_false_iff_not, beq_iff_eq, beq_eq_false_iff_ne, ne_eq, Bool.not_eq_true', Bool.not_eq_false', List.length_map, List.length_append, List.length_take, List.length_drop, List.length_replicate, List.length_cons, List.length_nil] at *; omega)) ?_ | ((first | refine ARun.fin (by first | (intro h; cases h; done) | (intro _; kernel_rfl)) ?_ | refine awp_skip ?_ | refine awp_exit ?_); dsimp only [thenA, blockA, AS.bump, List.length_cons, List.length_nil, reduceIte, Nat.reduceEqDiff]) | refine awp_condT rfl (by first | rfl | assumption | exact beq_int _ | exact bne_int _) ?_ | refine awp_condF rfl (by first | rfl | assumption | exact beq_int _ | exact bne_int _) ?_ | ((fail_if_success refine ARun.plain rfl ?_); first | refine ARun.knowT rfl rfl rfl (by first | rfl | assumption | exact beq_int _ | exact bne_int _) ?_ | refine ARun.knowF rfl rfl rfl (by first | rfl | assumption | exact beq_int _ | exact bne_int _) ?_)))
      exact awp_ret ⟨_, ResL.cons (ResA.tmp (.val _)) .nil, rfl⟩
    | false =>
      refine FnC.of_awp (T := tt) (ok := tok) Try.func65 (by kernel_rfl) rfl (by kernel_rfl) (closedL_cons (.agg (closedL_cons (closed_bs _) (closedL_cons (.val _) closedL_nil))) closedL_nil) (fun w0 st0 => ?_)
      dsimp only [frOf]
      (repeat' (first | refine awp_seq ?_ | refine awp_block ?_ | refine awp_region (fun _ => hmix) ?_ | refine ARun.op rfl (by first | exact True.intro | exact rfl | (unfold inR; omega) | omega | ((try unfold inR); simp only [decide_eq_true_eq, decide_eq_false_iff_not, beq_iff_eq, beq_eq_false_iff_ne, ne_eq, Bool.not_eq_true', Bool.not_eq_false', List.length_map, List.length_append, List.length_take, List.length_drop, List.length_replicate, List.length_cons, List.length_nil] at *; omega)) ?_ | ((first | refine ARun.fin (by first | (intro h; cases h; done) | (intro _; kernel_rfl)) ?_ | refine awp_skip ?_ | refine awp_exit ?_); dsimp only [thenA, blockA, AS.bump, List.length_cons, List.length_nil, reduceIte, Nat.reduceEqDiff]) | refine awp_condT rfl (by first | rfl | assumption | exact beq_int _ | exact bne_int _) ?_ | refine awp_condF rfl (by first | rfl | assumption | exact beq_int _ | exact bne_int _) ?_ | ((fail_if_success refine ARun.plain rfl ?_); first | refine ARun.knowT rfl rfl rfl (by first | rfl | assumption | exact beq_int _ | exact bne_int _) ?_ | refine ARun.knowF rfl rfl rfl (by first | rfl | assumption | exact beq_int _ | exact bne_int _) ?_)))
      refine awp_ret ⟨_, ResL.cons (ResA.tmp (.val _)) .nil, congrArg (fun b => AV.val (.bool b)) ?_⟩
      by_cases h2 : b.length = 0
      · rw [pD_yes ⟨h1, .inr h2⟩]
        exact (beq_iff_eq.2 (by rw [List.length_map, h2]; rfl)).symm
      · rw [pD_no (fun h => h2 (h.2.resolve_left (by simp)))]
        exact (beq_eq_false_iff_ne.2 (by rw [List.length_map]; omega)).symm
  · have d1 : decide ((((b.map encB).length : Nat) : Int) ≤ 130) = false := decide_eq_false (by rw [List.length_map]; omega)
    rw [pD_no (fun h => h1 h.1)]
    refine FnC.of_awp (T := tt) (ok := tok) Try.func65 (by kernel_rfl) rfl (by kernel_rfl) (closedL_cons (.agg (closedL_cons (closed_bs _) (closedL_cons (.val _) closedL_nil))) closedL_nil) (fun w0 st0 => ?_)
    dsimp only [frOf]
    (repeat' (first | refine awp_seq ?_ | refine awp_block ?_ | refine awp_region (fun _ => hmix) ?_ | refine ARun.op rfl (by first | exact True.intro | exact rfl | (unfold inR; omega) | omega | ((try unfold inR); simp only [decide_eq_true_eq, decide_eq_false_iff_not, beq_iff_eq, beq_eq_false_iff_ne, ne_eq, Bool.not_eq_true', Bool.not_eq_false', List.length_map, List.length_append, List.length_take, List.length_drop, List.length_replicate, List.length_cons, List.length_nil] at *; omega)) ?_ | ((first | refine ARun.fin (by first | (intro h; cases h; done) | (intro _; kernel_rfl)) ?_ | refine awp_skip ?_ | refine awp_exit ?_); dsimp only [thenA, blockA, AS.bump, List.length_cons, List.length_nil, reduceIte, Nat.reduceEqDiff]) | refine awp_condT rfl (by first | rfl | assumption | exact beq_int _ | exact bne_int _) ?_ | refine awp_condF rfl (by first | rfl | assumption | exact beq_int _ | exact bne_int _) ?_ | ((fail_if_success refine ARun.plain rfl ?_); first | refine ARun.knowT rfl rfl rfl (by first | rfl | assumption | exact beq_int _ | exact bne_int _) ?_ | refine ARun.knowF rfl rfl rfl (by first | rfl | assumption | exact beq_int _ | exact bne_int _) ?_)))
    exact awp_ret ⟨_, ResL.cons (ResA.tmp (.val _)) .nil, rfl⟩
theorem tf1 : (true == false) = false := by simp
theorem tf2 : (false == true) = false := by simp
theorem tf3 : (true == true) = true := by simp
theorem tf4 : (false == false) = true := by simp
theorem pic_same_c (b b' : Bs) (o o' : Bool) : FnC Try.prog 71 [.agg (encPc b o), .agg (encPc b' o')] (.val (.bool (pD (o = o' ∧ b = b')))) := by
  have c1 := Mem.bequal_c b b'
  have q1 := tf1
  have q2 := tf2
  have q3 := tf3
  have q4 := tf4
  cases o <;> cases o'
  all_goals
    refine FnC.of_awp (T := tt) (ok := tok) Try.func71 (by kernel_rfl) rfl (by kernel_rfl) (closedL_cons (.agg (closedL_cons (closed_bs _) (closedL_cons (.val _) closedL_nil))) (closedL_cons (.agg (closedL_cons (closed_bs _) (closedL_cons (.val _) closedL_nil))) closedL_nil)) (fun w0 st0 => ?_)
    dsimp only [frOf]
    (repeat' (first | refine awp_seq ?_ | refine awp_block ?_ | refine awp_region (fun _ => hmix) ?_ | refine ARun.op rfl (by first | exact True.intro | exact rfl | (unfold inR; omega) | omega | ((try unfold inR); simp only [decide_eq_true_eq, decide_eq_false_iff_not, beq_iff_eq, beq_eq_false_iff_ne, ne_eq, Bool.not_eq_true', Bool.not_eq_false', List.length_map, List.length_append, List.length_take, List.length_drop, List.length_replicate, List.length_cons, List.length_nil] at *; omega)) ?_ | refine callX (c1) rfl rfl rfl rfl ?_ | ((first | refine ARun.fin (by first | (intro h; cases h; done) | (intro _; kernel_rfl)) ?_ | refine awp_skip ?_ | refine awp_exit ?_); dsimp only [thenA, blockA, AS.bump, List.length_cons, List.length_nil, reduceIte, Nat.reduceEqDiff]) | refine awp_condT rfl (by first | rfl | assumption | exact beq_int _ | exact bne_int _) ?_ | refine awp_condF rfl (by first | rfl | assumption | exact beq_int _ | exact bne_int _) ?_ | ((fail_if_success refine ARun.plain rfl ?_); first | refine ARun.knowT rfl rfl rfl (by first | rfl | assumption | exact beq_int _ | exact bne_int _) ?_ | refine ARun.knowF rfl rfl rfl (by first | rfl | assumption | exact beq_int _ | exact bne_int _) ?_)))
    refine awp_ret ⟨_, ResL.cons (ResA.tmp (.val _)) .nil, congrArg (fun b => AV.val (.bool b)) ?_⟩
    first
      | exact pD_no (fun h => by have := h.1; simp at this)
      | (by_cases h : b = b'
         · rw [pD_yes ⟨rfl, h⟩, decide_eq_true h]
         · rw [pD_no (fun e => h e.2), decide_eq_false h])
theorem ref_pic_same_c (b b' : Bs) (o o' : Bool) : FnC Try.prog 55 [.agg (encPc b o), .agg (encPc b' o')] (.val (.bool (pD (o = o' ∧ b = b')))) := by
  have q1 := tf1
  have q2 := tf2
  have q3 := tf3
  have q4 := tf4
  cases o <;> cases o'
  all_goals
    refine FnC.of_awp (T := tt) (ok := tok) Try.func55 (by kernel_rfl) rfl (by kernel_rfl) (closedL_cons (.agg (closedL_cons (closed_bs _) (closedL_cons (.val _) closedL_nil))) (closedL_cons (.agg (closedL_cons (closed_bs _) (closedL_cons (.val _) closedL_nil))) closedL_nil)) (fun w0 st0 => ?_)
    dsimp only [frOf]
    (repeat' (first | refine awp_seq ?_ | refine awp_block ?_ | refine awp_region (fun _ => hmix) ?_ | refine ARun.op rfl (by first | exact True.intro | exact rfl | (unfold inR; omega) | omega | ((try unfold inR); simp only [decide_eq_true_eq, decide_eq_false_iff_not, beq_iff_eq, beq_eq_false_iff_ne, ne_eq, Bool.not_eq_true', Bool.not_eq_false', List.length_map, List.length_append, List.length_take, List.length_drop, List.length_replicate, List.length_cons, List.length_nil] at *; omega)) ?_ | refine ARun.bytesStr (by first | exact SrcA.sl rfl (.inr rfl) | exact SrcA.sl rfl (.inl rfl) | exact SrcA.ownW rfl rfl rfl rfl) rfl rfl rfl rfl rfl rfl rfl rfl (guardF_spec rfl) ?_ | ((first | refine ARun.fin (by first | (intro h; cases h; done) | (intro _; kernel_rfl)) ?_ | refine awp_skip ?_ | refine awp_exit ?_); dsimp only [thenA, blockA, AS.bump, List.length_cons, List.length_nil, reduceIte, Nat.reduceEqDiff]) | refine awp_condT rfl (by first | rfl | assumption | exact beq_int _ | exact bne_int _) ?_ | refine awp_condF rfl (by first | rfl | assumption | exact beq_int _ | exact bne_int _) ?_ | ((fail_if_success refine ARun.plain rfl ?_); first | refine ARun.knowT rfl rfl rfl (by first | rfl | assumption | exact beq_int _ | exact bne_int _) ?_ | refine ARun.knowF rfl rfl rfl (by first | rfl | assumption | exact beq_int _ | exact bne_int _) ?_)))
    refine awp_ret ⟨_, ResL.cons (ResA.tmp (.val _)) .nil, congrArg (fun b => AV.val (.bool b)) ?_⟩
    first
      | exact pD_no (fun h => by have := h.1; simp at this)
      | (refine Eq.trans ?_ (bs_eq b b').symm
         by_cases h : b = b'
         · rw [pD_yes ⟨rfl, h⟩, decide_eq_true h]
         · rw [pD_no (fun e => h e.2), decide_eq_false h])
end Go.Proofs.Ytgkjappmcgnabaa
