/- evq: EvqOrder returns true. -/
import Derived.Test.YtpolenndeeaodabQi
namespace Go.Proofs.Ytpolenndeeaodab
set_option linter.unusedVariables false
set_option linter.unusedSimpArgs false
open Go Go.RowKit
set_option maxRecDepth 100000
attribute [local irreducible] Decidable.decide awp ARun regK toK

def encU (n : Int) : List AV := [.val (.int .u8 n)]
theorem takeQ_none' {q : Q} (h : q.ev.length = 0) : takeQ q = ((0, 0, 0, 0, 0), q, false) := by unfold takeQ; rw [if_pos h]
theorem closed_u (n : Int) : ∀ x, x ∈ encU n → Closed x := closedL_cons (.val _) closedL_nil

set_option maxHeartbeats 4000000 in
theorem order_c (us : List Int) (hu : ∀ u, u ∈ us → 0 ≤ u ∧ u ≤ 255) (hmax : us.length ≤ 9223372036854775807) : FnC Try.prog 6 [.sl 1 false (us.map encU)] (.val (.bool true)) := by
  refine FnC.of_awp (T := tt) (ok := tok) Try.func6 (by kernel_rfl) rfl (by kernel_rfl) (closedL_cons (closed_map closed_u) closedL_nil) (fun w0 st0 => ?_)
  dsimp only [frOf]
  by_cases hlen : 64 < us.length
  · have d1 : decide ((64 : Int) < (((us.map encU).length : Nat) : Int)) = true := by rw [List.length_map]; simp; omega
    (repeat' (first | refine awp_seq ?_ | refine awp_block ?_ | refine awp_region (fun _ => hmix) ?_ | refine ARun.op rfl (by first | exact True.intro | exact rfl | (unfold inR; omega) | omega) ?_ | refine callX (shown_c) rfl rfl rfl rfl ?_ | (refine ARun.fin (by first | (intro h; cases h; done) | (intro _; kernel_rfl)) ?_; dsimp only [thenA, blockA, AS.bump, List.length_cons, List.length_nil, reduceIte, Nat.reduceEqDiff]) | (refine awp_skip ?_; dsimp only [thenA, blockA, AS.bump, List.length_cons, List.length_nil, reduceIte, Nat.reduceEqDiff]) | (refine awp_exit ?_; dsimp only [thenA, blockA, AS.bump, List.length_cons, List.length_nil, reduceIte, Nat.reduceEqDiff]) | refine awp_condT rfl (by first | rfl | assumption) ?_ | refine awp_condF rfl (by first | rfl | assumption) ?_ | ((fail_if_success refine ARun.plain rfl ?_); first | refine ARun.knowT rfl rfl rfl (by first | rfl | assumption) ?_ | refine ARun.knowF rfl rfl rfl (by first | rfl | assumption) ?_ | refine ARun.fork rfl rfl rfl (fun h => ?_) (fun h => ?_)) | refine awp_cond rfl (fun h => ?_) (fun h => ?_)))
    exact awp_ret ⟨_, ResL.cons (ResA.tmp (.val _)) .nil, rfl⟩
  have d1 : decide ((64 : Int) < (((us.map encU).length : Nat) : Int)) = false := by rw [List.length_map]; simp; omega
  have hrs : ∀ r, r ∈ us.map (fun u => u.tmod 4) → 0 ≤ r ∧ r ≤ 3 := fun r hr => by
    obtain ⟨u, h1, rfl⟩ := List.mem_map.1 hr
    have := hu u h1
    rw [Int.tmod_eq_emod_of_nonneg this.1]
    omega
  have hrl : (us.map (fun u => u.tmod 4)).length = us.length := List.length_map ..
  have hrg : ∀ (k : Nat), (us.map (fun u => u.tmod 4))[k]? = (us[k]?).map (fun u => u.tmod 4) := fun k => List.getElem?_map
  generalize us.map (fun u => u.tmod 4) = rs at hrs hrl hrg
  have c1 := new_c 64 1048576
  rw [show newQ 64 1048576 = (fillQ rs 0, 0) from by simp [newQ, newOk, fillQ, fillUp]] at c1
  have n1 : ((0 : Int) != 0) = false := by simp
  have n2 : ((0 : Int) == 0) = true := by simp
  (repeat' (first | refine awp_seq ?_ | refine awp_block ?_ | refine awp_region (fun _ => hmix) ?_ | refine ARun.op rfl (by first | exact True.intro | exact rfl | (unfold inR; omega) | omega) ?_ | refine callX (shown_c) rfl rfl rfl rfl ?_ | refine callX (c1) rfl rfl rfl rfl ?_ | (refine ARun.fin (by first | (intro h; cases h; done) | (intro _; kernel_rfl)) ?_; dsimp only [thenA, blockA, AS.bump, List.length_cons, List.length_nil, reduceIte, Nat.reduceEqDiff]) | (refine awp_skip ?_; dsimp only [thenA, blockA, AS.bump, List.length_cons, List.length_nil, reduceIte, Nat.reduceEqDiff]) | (refine awp_exit ?_; dsimp only [thenA, blockA, AS.bump, List.length_cons, List.length_nil, reduceIte, Nat.reduceEqDiff]) | refine awp_condT rfl (by first | rfl | assumption) ?_ | refine awp_condF rfl (by first | rfl | assumption) ?_ | ((fail_if_success refine ARun.plain rfl ?_); first | refine ARun.knowT rfl rfl rfl (by first | rfl | assumption) ?_ | refine ARun.knowF rfl rfl rfl (by first | rfl | assumption) ?_ | refine ARun.fork rfl rfl rfl (fun h => ?_) (fun h => ?_)) | refine awp_cond rfl (fun h => ?_) (fun h => ?_)))
  refine awp_loopT (T := Nat × Nat) (fun t => ⟨[(0, .sl 1 false (us.map encU)), (2, .val (.bool false)), (3, .val (.bool true)), (4, .ptr 4 10 0 0), (5, .val (.int .i64 0)), (6, .val (.int .i64 (t.1 : Nat)))], [(4, some ⟨10, 4, [encQ (fillQ rs t.1)]⟩)], t.2⟩)
    (fun t => t.1 ≤ us.length) (fun t => us.length - t.1) (0, _) (Nat.zero_le _) ⟨⟨rfl, rfl, rfl, rfl, rfl, rfl, trivial⟩, ⟨rfl, trivial⟩, Nat.le_refl _⟩ (fun t ht => ?_)
  clear c1
  obtain ⟨k, gc⟩ := t
  dsimp only at ht ⊢
  by_cases hlt : k < us.length
  · have h1 : us[k]? = some us[k] := List.getElem?_eq_getElem hlt
    have hc : decide (((k : Nat) : Int) < (((us.map encU).length : Nat) : Int)) = true := by rw [List.length_map]; simp; omega
    have hub := hu _ (List.getElem_mem hlt)
    have hr : rs[k]? = some (us[k].tmod 4) := by rw [hrg, h1]; rfl
    have hR := fill_right (by omega) hrs k (by omega)
    have c2 := post_c (fillQ rs k) (us[k].tmod 4) k k (by have := hR.len; omega) hR.nx
    rw [fill_post (by omega) hr (hrs _ (List.mem_of_getElem? hr))] at c2
    have n3 : (((k : Nat) : Int) != ((k : Nat) : Int)) = false := by simp
    (repeat' (first | refine awp_seq ?_ | refine awp_block ?_ | refine awp_region (fun _ => hmix) ?_ | refine ARun.op rfl (by first | exact True.intro | exact rfl | (unfold inR; omega) | omega) ?_ | refine ARun.indexAddr rfl rfl (by omega) (by first | with_reducible exact get_map h1 | with_reducible exact get_map h1) rfl rfl rfl rfl rfl (guardF_spec rfl) ?_ | refine callX (c2) rfl rfl rfl rfl ?_ | (refine ARun.fin (by first | (intro h; cases h; done) | (intro _; kernel_rfl)) ?_; dsimp only [thenA, blockA, AS.bump, List.length_cons, List.length_nil, reduceIte, Nat.reduceEqDiff]) | (refine awp_skip ?_; dsimp only [thenA, blockA, AS.bump, List.length_cons, List.length_nil, reduceIte, Nat.reduceEqDiff]) | (refine awp_exit ?_; dsimp only [thenA, blockA, AS.bump, List.length_cons, List.length_nil, reduceIte, Nat.reduceEqDiff]) | refine awp_condT rfl (by first | rfl | assumption) ?_ | refine awp_condF rfl (by first | rfl | assumption) ?_ | ((fail_if_success refine ARun.plain rfl ?_); first | refine ARun.knowT rfl rfl rfl (by first | rfl | assumption) ?_ | refine ARun.knowF rfl rfl rfl (by first | rfl | assumption) ?_ | refine ARun.fork rfl rfl rfl (fun h => ?_) (fun h => ?_)) | refine awp_cond rfl (fun h => ?_) (fun h => ?_)))
    exact ⟨(k + 1, _), ⟨⟨rfl, rfl, rfl, rfl, rfl, succI k, trivial⟩, ⟨rfl, trivial⟩, Nat.le_refl _⟩, hlt, by dsimp only; omega⟩
  · have hc : decide (((k : Nat) : Int) < (((us.map encU).length : Nat) : Int)) = false := by rw [List.length_map]; simp; omega
    have hk : k = us.length := by omega
    subst hk
    have hW := fill_wait (by omega) hrs
    rw [hrl] at hW
    (repeat' (first | refine awp_seq ?_ | refine awp_block ?_ | refine awp_region (fun _ => hmix) ?_ | refine ARun.op rfl (by first | exact True.intro | exact rfl | (unfold inR; omega) | omega) ?_ | (refine ARun.fin (by first | (intro h; cases h; done) | (intro _; kernel_rfl)) ?_; dsimp only [thenA, blockA, AS.bump, List.length_cons, List.length_nil, reduceIte, Nat.reduceEqDiff]) | (refine awp_skip ?_; dsimp only [thenA, blockA, AS.bump, List.length_cons, List.length_nil, reduceIte, Nat.reduceEqDiff]) | (refine awp_exit ?_; dsimp only [thenA, blockA, AS.bump, List.length_cons, List.length_nil, reduceIte, Nat.reduceEqDiff]) | refine awp_condT rfl (by first | rfl | assumption) ?_ | refine awp_condF rfl (by first | rfl | assumption) ?_ | ((fail_if_success refine ARun.plain rfl ?_); first | refine ARun.knowT rfl rfl rfl (by first | rfl | assumption) ?_ | refine ARun.knowF rfl rfl rfl (by first | rfl | assumption) ?_ | refine ARun.fork rfl rfl rfl (fun h => ?_) (fun h => ?_)) | refine awp_cond rfl (fun h => ?_) (fun h => ?_)))
    clear hc
    refine awp_loopT (T := Nat × Q × Int × Int × Nat) (fun t => ⟨[(0, .sl 1 false (us.map encU)), (2, .val (.bool false)), (3, .val (.bool true)), (4, .ptr 4 10 0 0), (5, .val (.int .i64 0)), (10, .val (.int .i64 t.2.2.1)), (11, .val (.int .i64 t.2.2.2.1)), (12, .val (.int .i64 (t.1 : Nat)))], [(4, some ⟨10, 4, [encQ t.2.1]⟩)], t.2.2.2.2⟩)
      (fun t => t.1 ≤ us.length ∧ Wait rs t.1 t.2.1 t.2.2.1 t.2.2.2.1) (fun t => us.length - t.1) (0, _, _, _, _) ⟨Nat.zero_le _, hW⟩ ⟨⟨rfl, rfl, rfl, rfl, rfl, rfl, rfl, rfl, trivial⟩, ⟨rfl, trivial⟩, Nat.le_refl _⟩ (fun t ht => ?_)
    clear hW
    obtain ⟨k, q, rank, last, gc⟩ := t
    obtain ⟨hk, hW⟩ := ht
    dsimp only at hk hW ⊢
    have c3 := hW.right.take_c
    by_cases hlt : k < us.length
    · have hc : decide (((k : Nat) : Int) < (((us.map encU).length : Nat) : Int)) = true := by rw [List.length_map]; simp; omega
      obtain ⟨t1, t2, t3⟩ := hW.take (by omega)
      have t4 := hW.each _ t1
      generalize takeQ q = tt at *
      obtain ⟨te, tq, ts⟩ := tt
      dsimp only at c3 t1 t2 t3 t4
      subst t2
      rw [hrg] at t4
      obtain ⟨⟨b1, b2⟩, b3, b4, b5, b6⟩ := t4
      have hul : te.1.toNat < us.length := by omega
      have hue : us[te.1.toNat]? = some us[te.1.toNat] := List.getElem?_eq_getElem hul
      have hub := hu _ (List.getElem_mem hul)
      rw [hue] at b3
      have b3' : us[te.1.toNat].tmod 4 = te.2.1 := Option.some.inj b3
      have hidx : (us.map encU)[te.1.toNat]? = some (encU us[te.1.toNat]) := by rw [List.getElem?_map, hue]; rfl
      generalize us[te.1.toNat] = u at *
      have m1 : decide (te.2.1 < rank) = false := by simp; omega
      have m2 : decide (te.1 < 0) = false := by simp; omega
      have m3 : decide ((((us.map encU).length : Nat) : Int) ≤ te.1) = false := by rw [List.length_map]; simp; omega
      have m4 : (te.2.1 != u.tmod 4) = false := by rw [b3']; simp
      have m5 : (te.2.2.1 != te.1) = false := by rw [b4]; simp
      by_cases he : te.2.1 = rank
      · have m6 : (te.2.1 == rank) = true := by simp [he]
        have m7 : decide (te.1 ≤ last) = false := by simp; omega
        (repeat' (first | refine awp_seq ?_ | refine awp_block ?_ | refine awp_region (fun _ => hmix) ?_ | refine ARun.op rfl (by first | exact True.intro | exact rfl | (unfold inR; omega) | omega) ?_ | refine callX (c3) rfl rfl rfl rfl ?_ | refine ARun.indexAddr rfl rfl (by omega) hidx rfl rfl rfl rfl rfl (guardF_spec rfl) ?_ | (refine ARun.fin (by first | (intro h; cases h; done) | (intro _; kernel_rfl)) ?_; dsimp only [thenA, blockA, AS.bump, List.length_cons, List.length_nil, reduceIte, Nat.reduceEqDiff]) | (refine awp_skip ?_; dsimp only [thenA, blockA, AS.bump, List.length_cons, List.length_nil, reduceIte, Nat.reduceEqDiff]) | (refine awp_exit ?_; dsimp only [thenA, blockA, AS.bump, List.length_cons, List.length_nil, reduceIte, Nat.reduceEqDiff]) | refine awp_condT rfl (by first | rfl | assumption) ?_ | refine awp_condF rfl (by first | rfl | assumption) ?_ | ((fail_if_success refine ARun.plain rfl ?_); first | refine ARun.knowT rfl rfl rfl (by first | rfl | assumption) ?_ | refine ARun.knowF rfl rfl rfl (by first | rfl | assumption) ?_ | refine ARun.fork rfl rfl rfl (fun h => ?_) (fun h => ?_)) | refine awp_cond rfl (fun h => ?_) (fun h => ?_)))
        exact ⟨(k + 1, tq, _, _, _), ⟨⟨rfl, rfl, rfl, rfl, rfl, rfl, rfl, succI k, trivial⟩, ⟨rfl, trivial⟩, Nat.le_refl _⟩, ⟨hlt, t3⟩, by dsimp only; omega⟩
      · have m6 : (te.2.1 == rank) = false := by simp [he]
        (repeat' (first | refine awp_seq ?_ | refine awp_block ?_ | refine awp_region (fun _ => hmix) ?_ | refine ARun.op rfl (by first | exact True.intro | exact rfl | (unfold inR; omega) | omega) ?_ | refine callX (c3) rfl rfl rfl rfl ?_ | refine ARun.indexAddr rfl rfl (by omega) hidx rfl rfl rfl rfl rfl (guardF_spec rfl) ?_ | (refine ARun.fin (by first | (intro h; cases h; done) | (intro _; kernel_rfl)) ?_; dsimp only [thenA, blockA, AS.bump, List.length_cons, List.length_nil, reduceIte, Nat.reduceEqDiff]) | (refine awp_skip ?_; dsimp only [thenA, blockA, AS.bump, List.length_cons, List.length_nil, reduceIte, Nat.reduceEqDiff]) | (refine awp_exit ?_; dsimp only [thenA, blockA, AS.bump, List.length_cons, List.length_nil, reduceIte, Nat.reduceEqDiff]) | refine awp_condT rfl (by first | rfl | assumption) ?_ | refine awp_condF rfl (by first | rfl | assumption) ?_ | ((fail_if_success refine ARun.plain rfl ?_); first | refine ARun.knowT rfl rfl rfl (by first | rfl | assumption) ?_ | refine ARun.knowF rfl rfl rfl (by first | rfl | assumption) ?_ | refine ARun.fork rfl rfl rfl (fun h => ?_) (fun h => ?_)) | refine awp_cond rfl (fun h => ?_) (fun h => ?_)))
        exact ⟨(k + 1, tq, _, _, _), ⟨⟨rfl, rfl, rfl, rfl, rfl, rfl, rfl, succI k, trivial⟩, ⟨rfl, trivial⟩, Nat.le_refl _⟩, ⟨hlt, t3⟩, by dsimp only; omega⟩
    · have hc : decide (((k : Nat) : Int) < (((us.map encU).length : Nat) : Int)) = false := by rw [List.length_map]; simp; omega
      have hz : q.ev.length = 0 := by have := hW.len; omega
      rw [takeQ_none' hz] at c3
      (repeat' (first | refine awp_seq ?_ | refine awp_block ?_ | refine awp_region (fun _ => hmix) ?_ | refine ARun.op rfl (by first | exact True.intro | exact rfl | (unfold inR; omega) | omega) ?_ | refine callX (c3) rfl rfl rfl rfl ?_ | (refine ARun.fin (by first | (intro h; cases h; done) | (intro _; kernel_rfl)) ?_; dsimp only [thenA, blockA, AS.bump, List.length_cons, List.length_nil, reduceIte, Nat.reduceEqDiff]) | (refine awp_skip ?_; dsimp only [thenA, blockA, AS.bump, List.length_cons, List.length_nil, reduceIte, Nat.reduceEqDiff]) | (refine awp_exit ?_; dsimp only [thenA, blockA, AS.bump, List.length_cons, List.length_nil, reduceIte, Nat.reduceEqDiff]) | refine awp_condT rfl (by first | rfl | assumption) ?_ | refine awp_condF rfl (by first | rfl | assumption) ?_ | ((fail_if_success refine ARun.plain rfl ?_); first | refine ARun.knowT rfl rfl rfl (by first | rfl | assumption) ?_ | refine ARun.knowF rfl rfl rfl (by first | rfl | assumption) ?_ | refine ARun.fork rfl rfl rfl (fun h => ?_) (fun h => ?_)) | refine awp_cond rfl (fun h => ?_) (fun h => ?_)))
      exact awp_ret ⟨_, ResL.cons (ResA.tmp (.val _)) .nil, rfl⟩
end Go.Proofs.Ytpolenndeeaodab
