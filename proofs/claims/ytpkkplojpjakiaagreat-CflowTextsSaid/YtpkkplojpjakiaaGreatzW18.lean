/- zX21, zX22, zY1, zY2, zY3. -/
import Derived.Test.YtpkkplojpjakiaaGreatW1
import Derived.Test.YtpkkplojpjakiaaGreatW2
import Derived.Test.YtpkkplojpjakiaaGreatW3
import Derived.Test.YtpkkplojpjakiaaGreatW4
import Derived.Test.YtpkkplojpjakiaaGreatzW5
import Derived.Test.YtpkkplojpjakiaaGreatzW6
import Derived.Test.YtpkkplojpjakiaaGreatzW7
import Derived.Test.YtpkkplojpjakiaaGreatzW8
import Derived.Test.YtpkkplojpjakiaaGreatzW9
import Derived.Test.YtpkkplojpjakiaaGreatzW10
import Derived.Test.YtpkkplojpjakiaaGreatzW11
import Derived.Test.YtpkkplojpjakiaaGreatzW12
import Derived.Test.YtpkkplojpjakiaaGreatzW13
import Derived.Test.YtpkkplojpjakiaaGreatzW14
import Derived.Test.YtpkkplojpjakiaaGreatzW15
import Derived.Test.YtpkkplojpjakiaaGreatzW16
import Derived.Test.YtpkkplojpjakiaaGreatzW17
set_option linter.unusedVariables false
set_option linter.unusedSimpArgs false
namespace Go.Proofs.YtpkkplojpjakiaaGreat
open Go Go.RowKit
open Go.Proofs.YtpkkplojpjakiaaGreat.Dict (St Bs bs_eq encWs closed_ws)
open Go.Proofs.YtpkkplojpjakiaaGreat.Mem (Mm encM encBs closed_bs encP encP_closed closed_m storeD fetchD commaD writeD alignD padN putB_len enc2m)
open Go.Proofs.YtpkkplojpjakiaaGreat.Stk (encS closed_s encI_closed)
set_option maxRecDepth 100000
theorem name_if : brN v0 [] [73, 70] = brI 0 v0 [] := brN_yes (by simp [nmC])
theorem name_then (v : V) (l : List Cfr) : brN v l [84, 72, 69, 78] = brI 2 v l := brN_yes (by simp [nmC])
attribute [local irreducible] Decidable.decide awp ARun regK toK
theorem fresh_c : FnC Tryz.prog 5 [] (.agg (encV v0)) := by
 have c1 := ref_new_c conf0
 rw [newV_new fits0] at c1
 rw [show vNew conf0 = v0 from rfl] at c1
 generalize v0 = v at *
 refine goF Tryz.func5 closedL_nil (fun w0 st0 => ?_)
 dsimp only [frOf]
 (repeat' (first | refine goA ?_ | refine cX c1 ?_ | refine goB ?_ | fail))
 exact awp_ret ⟨_, ResL.cons (ResA.agg rfl rfl rfl rfl rfl rfl rfl (RL.allClosed (encV_closed _))) .nil, rfl⟩
theorem cright_zero_c : FnC Tryz.prog 15 [.sl 3 true [[.val (.int .i64 0), .val (.int .i64 0), .sl 0 true []]]] (.val (.bool false)) := by
 have hcl : ∀ el x, el ∈ [[AV.val (.int .i64 0), .val (.int .i64 0), .sl 0 true []]] → x ∈ el → Closed x := one_cl (closedL_cons (.val _) (closedL_cons (.val _) (closedL_cons (.sl (by simp)) closedL_nil)))
 refine goF Tryz.func15 (closedL_cons (.sl hcl) closedL_nil) (fun w0 st0 => ?_)
 dsimp only [frOf]
 (repeat' (first | refine goA ?_ | refine goB ?_ | fail))
 refine awp_loopT (T := Nat) (fun t => ⟨[(7, .val (.int .i64 0)), (6, .val (.int .i64 1)), (5, .sl 3 true [[.val (.int .i64 0), .val (.int .i64 0), .sl 0 true []]])], [], t⟩) (fun t => True) (fun t => 0) _ trivial ⟨⟨rfl, rfl, rfl, trivial⟩, trivial, Nat.le_refl _⟩ (fun t _ => ?_)
 dsimp only
 have d1 : decide ((0 : Int) < 1) = true := decide_eq_true (by omega)
 have hp : [[AV.val (.int .i64 0), .val (.int .i64 0), .sl 0 true []]][(0 : Int).toNat]? = some [AV.val (.int .i64 0), .val (.int .i64 0), .sl 0 true []] := rfl
 (repeat' (first | refine goA ?_ | refine ARun.indexAddr rfl rfl (by omega) (by with_reducible exact hp) rfl rfl rfl rfl rfl (guardF_spec rfl) ?_ | refine goB ?_ | fail))
 exact awp_ret ⟨_, ResL.cons (ResA.tmp (.val _)) .nil, rfl⟩
def lA : List Cfr := [⟨1, 1376, []⟩]
set_option maxHeartbeats 16000000 in
theorem shown13_c : FnC Tryz.prog 4 [] (.val (.bool true)) := by
 obtain ⟨x, y, z, s, h1, h2, h3, h4, h5, h6, h7, h8, h9, h10, ox⟩ := facts13
 have c0 := fresh_c
 have c1 := bracket_c v0 [] [73, 70] (by decide) (fun c h => by cases h) (v0_okk _ (by decide))
 rw [name_if, h1] at c1
 have c2 := bracket_c x [⟨1, 1376, []⟩] [84, 72, 69, 78] (by decide) (fun c h => by rw [List.mem_singleton.1 h]; decide) ox
 rw [name_then, h2] at c2
 have c3 := bracket_c v0 [] [84, 72, 69, 78] (by decide) (fun c h => by cases h) (v0_okk _ (by decide))
 rw [name_then, h3] at c3
 have c4 := Mem.ref_fetch_c y.m 1376 h5
 rw [h4] at c4
 have c5 := lit_c v0 5 (v0_okk _ (by decide))
 rw [h7] at c5
 have c6 := str_c v0 [97, 98, 99] (v0_okk _ (by decide)) (by decide)
 rw [h9] at c6
 have c7 := cnames_c
 have c8 := cright_c [⟨1, 1376, []⟩] (by decide)
 rw [pD_yes (show RightC [⟨1, 1376, []⟩] from ⟨fun c h => by rw [List.mem_singleton.1 h]; exact ⟨⟨by decide, by decide⟩, by decide, .inr rfl⟩, by decide⟩)] at c8
 have c9 := cright_zero_c
 have ca := cfsame_c [⟨1, 1376, []⟩] [⟨1, 1376, []⟩] (by decide) (fun c h => by rw [List.mem_singleton.1 h]; decide)
 rw [pD_yes rfl] at ca
 have cb := cfsame_c [⟨1, 1376, []⟩] [] (by decide) (fun c h => by rw [List.mem_singleton.1 h]; decide)
 rw [pD_no (by simp)] at cb
 clear h1 h2 h3 h4 h5 h7 h9 ox
 rw [show ([⟨1, 1376, []⟩] : List Cfr) = lA from rfl] at c1 c2 c8 ca cb
 have hp : (lA.map encCf)[(0 : Int).toNat]? = some (encCf ⟨1, 1376, []⟩) := rfl
 have e1 : ((((lA.map encCf).length : Nat) : Int) == 1) = true := beq_iff_eq.2 rfl
 have e2 : (((([] : List Cfr).map encCf).length : Nat) : Int) = 0 := rfl
 have e3 : ((((nmC.map encN).length : Nat) : Int) == 13) = true := beq_iff_eq.2 rfl
 have t1 : (y.here == 1384) = true := beq_iff_eq.2 h6
 have t2 : (z.here == 1384) = true := beq_iff_eq.2 h8
 have t3 : (s.here == 1392) = true := beq_iff_eq.2 h10
 have e4 : (0 : Int) < (lA.map encCf).length := by show (0 : Int) < 1; omega
 unfold encVLE at c1 c2 c3
 unfold encVE at c5 c6
 dsimp only at c1 c2 c3 c5 c6
 generalize v0 = v at *
 generalize nmC.map encN = nn at *
 generalize lA = la at *
 refine goF Tryz.func4 closedL_nil (fun w0 st0 => ?_)
 dsimp only [frOf]
 (repeat' (first | refine goA ?_ | refine cX c0 ?_ | refine callW (c1) rfl wkT rfl rfl ?_ | refine callW (c2) rfl wkT rfl rfl ?_ | refine callW (c3) rfl wkT rfl rfl ?_ | refine cX c4 ?_ | refine cX c5 ?_ | refine cX c6 ?_ | refine cX c7 ?_ | refine cX c8 ?_ | refine cX c9 ?_ | refine cX ca ?_ | refine cX cb ?_ | refine ARun.indexAddr rfl rfl (by omega) (by with_reducible exact hp) rfl rfl rfl rfl rfl (guardF_spec rfl) ?_ | refine goB ?_ | fail))
 exact awp_ret ⟨_, ResL.cons (ResA.tmp (.val _)) .nil, rfl⟩
end Go.Proofs.YtpkkplojpjakiaaGreat
namespace Go.Proofs.YtpkkplojpjakiaaGreat
open Go Go.RowKit
open Go.Proofs.YtpkkplojpjakiaaGreat.Dict (St Bs)
open Go.Proofs.YtpkkplojpjakiaaGreat.Mem (Mm commaD storeD writeD thereD alignD partD there_yes RightM cellAtD)
set_option maxRecDepth 100000
theorem write_right {m : Mm} (a : Int) (b : List UInt8) (h : RightM m) : RightM (writeD m a b).1 := by
 have hl := (write_ok m a b).1
 unfold writeD at hl ⊢
 split
 ·exact h
 ·rename_i h1
  split
  ·exact h
  ·rename_i h2
   rw [if_neg h1, if_neg h2] at hl
   simp only [Bool.not_eq_false] at h1
   have h3 := there_yes h1 (by
    have := List.length_pos_iff.2 h2
    omega)
   refine ⟨fun p hp => ?_, by rw [hl]; exact h.2.1, by rw [hl]; exact h.2.2⟩
   rw [hl]
   rcases List.mem_append.1 hp with hp | hp
   ·exact h.1 p hp
   ·rw [List.mem_singleton.1 hp]
    have e : (partD m.b a (b.length : Nat)).length = b.length := by
     unfold partD
     rw [List.length_take, List.length_drop]
     omega
    rw [e]
    exact h1
theorem mlay_right {m : Mm} (here : Int) (b : List UInt8) (h : RightM m) : RightM (Mem.layD m here b).1 := by
 unfold Mem.layD
 split
 ·exact h
 ·exact write_right _ _ h
theorem comma_right {m : Mm} (here n : Int) (h : RightM m) : RightM (commaD m here n).1 := by
 unfold commaD
 split
 ·exact h
 ·exact mlay_right _ _ h
structure Rng (v : V) : Prop where
 h0 : 0 ≤ v.here
 h1 : v.here ≤ v.m.b.length
structure Lays (v x : V) (k : Nat) : Prop where
 eq : x = withMH v x.m x.here
 bl : x.m.b.length = v.m.b.length
 ol : x.m.old.length ≤ v.m.old.length + k
 ri : RightM v.m → RightM x.m
 h0 : v.here ≤ x.here
 h1 : x.here ≤ v.m.b.length
theorem Lays.refl {v : V} (h : Rng v) : Lays v v 0 := ⟨(withMH_id v).symm, rfl, Nat.le_refl _, fun h => h, Int.le_refl _, h.h1⟩
theorem Lays.rng {v x : V} {k : Nat} (h : Lays v x k) (hr : Rng v) : Rng x := ⟨by have := h.h0; have := hr.h0; omega, by rw [h.bl]; exact h.h1⟩
theorem Lays.le {v x : V} {k n : Nat} (h : Lays v x k) (hk : k ≤ n) : Lays v x n := ⟨h.eq, h.bl, by have := h.ol; omega, h.ri, h.h0, h.h1⟩
theorem Lays.trans {v x y : V} {j k : Nat} (h : Lays v x j) (g : Lays x y k) : Lays v y (j + k) :=
  ⟨calc y = withMH x y.m y.here := g.eq
     _ = withMH (withMH v x.m x.here) y.m y.here := by rw [← h.eq]
     _ = withMH v y.m y.here := rfl, g.bl.trans h.bl, by have := h.ol; have := g.ol; omega, fun k => g.ri (h.ri k), Int.le_trans h.h0 g.h0, by rw [← h.bl]; exact g.h1⟩
theorem lays_vlay {v : V} (n : Int) (h : Rng v) : Lays v (vlayD v n).1 1 := by
 have c := comma_ok v.m v.here n h.h0 h.h1
 exact ⟨rfl, c.1, c.2.1, comma_right _ _, c.2.2.1, c.2.2.2⟩
theorem lays_cell {w : Kw} (n : Int) (h : Rng w.v) : Lays w.v (cellD w n).v 1 := by
 unfold cellD
 split
 ·exact lays_vlay n h
 ·exact (Lays.refl h).le (by omega)
theorem lays_cells : ∀ (l : List Int) {w : Kw}, Rng w.v → Lays w.v (l.foldl cellD w).v l.length
 | [], w, h => Lays.refl h
 | a :: l, w, h => by
  have h1 := lays_cell (w := w) a h
  have h2 := lays_cells l (w := cellD w a) (h1.rng h)
  rw [List.foldl_cons]
  exact (h1.trans h2).le (by rw [List.length_cons]; omega)
theorem lays_lit {v : V} (n : Int) (h : Rng v) : Lays v (outD (litK v n) v).1 2 := by
 unfold outD
 split
 ·exact lays_cells [xtD nLit, n] (w := wk0 v) h
 ·exact (Lays.refl h).le (by omega)
theorem lays_mlay {v : V} (b : List UInt8) (h : Rng v) : Lays v (withMH v (Mem.layD v.m v.here b).1 (Mem.layD v.m v.here b).2.1) 1 := by
 have c := mlay_ok v.m v.here b h.h0 h.h1
 exact ⟨rfl, c.1, c.2.1, mlay_right _ _, c.2.2.1, c.2.2.2⟩
theorem lays_str {v : V} (s : Bs) (h : Rng v) : Lays v (outD (strK v s) v).1 4 := by
 have h1 : Lays v (strK0 v s).v 2 := lays_cells [xtD nStr, s.length] (w := wk0 v) h
 have h2 := lays_mlay s (h1.rng h)
 have h3 := lays_mlay (List.replicate (Mem.padN (withMH (strK0 v s).v (Mem.layD (strK0 v s).v.m (strK0 v s).v.here s).1 (Mem.layD (strK0 v s).v.m (strK0 v s).v.here s).2.1).here) 0) ((h1.trans h2).rng h)
 unfold outD
 split
 ·unfold strK
  split
  ·split
   ·exact (h1.trans h2).trans h3
   ·exact h1.le (by omega)
  ·exact h1.le (by omega)
 ·exact (Lays.refl h).le (by omega)
theorem Lays.held {v x : V} {k : Nat} (h : Lays v x k) (hv : Held v) (ho : v.m.old.length + k ≤ 1000000) : Held x := by
 rw [h.eq]
 exact ⟨by show x.m.b.length ≤ _; rw [h.bl]; exact hv.mb, by show x.m.old.length ≤ _; have := h.ol; omega, hv.dl, hv.rl, hv.fl, hv.wl, hv.wi, hv.ol, hv.pl, hv.ql, hv.hl⟩
theorem Lays.right {v x : V} {k : Nat} (h : Lays v x k) (hv : RightV v) : RightV x := by
 rw [h.eq]
 obtain ⟨⟨a1, a2, a3, a4, a5⟩, b, c, d⟩ := hv
 refine ⟨⟨a1, h.ri a2, by show ((x.m.b.length : Nat) : Int) = _; rw [h.bl]; exact a3, by show 1368 ≤ x.here; have := h.h0; omega, by show x.here ≤ v.cf.mem; have := h.h1; omega⟩, b, c, d⟩
theorem RightV.rng {v : V} (hv : RightV v) : Rng v := by
 obtain ⟨⟨a1, a2, a3, a4, a5⟩, b, c, d⟩ := hv
 exact ⟨by omega, by omega⟩
theorem Lays.back {v x : V} {k : Nat} (h : Lays v x k) : withMH x v.m v.here = v := by
 rw [h.eq]
 exact withMH_id v
theorem RightC.lv {l : List Cfr} (h : RightC l) : ∀ c, c ∈ l → c.lv.length ≤ 60 := fun c hc => by have := (h.1 c hc).2.1; omega
theorem FewC.lv {l : List Cfr} (h : FewC l) : ∀ c, c ∈ l → c.lv.length ≤ 1000000 := fun c hc => by have := h.1 c hc; omega
end Go.Proofs.YtpkkplojpjakiaaGreat
namespace Go.Proofs.YtpkkplojpjakiaaGreat
open Go Go.RowKit
open Go.Proofs.YtpkkplojpjakiaaGreat.Dict (St Bs bs_eq Wd encW encWs closed_ws)
open Go.Proofs.YtpkkplojpjakiaaGreat.Mem (Mm encM encBs closed_bs encP encP_closed closed_m storeD fetchD)
open Go.Proofs.YtpkkplojpjakiaaGreat.Stk (encS closed_s encI_closed)
set_option maxRecDepth 100000
structure Rk where
 v : V
 ip : Int
 w : Int
 go : Bool
 over : Bool
 bad : Int
structure Rn where
 v : V
 ip : Int
 w : Int
 go : Bool
 fuel : Int
def encRk (k : Rk) : List AV := [.val (.int .i64 k.v.cf.mem), .val (.int .i64 k.v.cf.data), .val (.int .i64 k.v.cf.ret), .val (.int .i64 k.v.cf.words), .val (.int .i64 k.v.cf.out), encBs k.v.m.b, .sl 2 false (k.v.m.old.map encP), .val (.int .i64 k.v.here), encS k.v.d, encS k.v.r, encLFr k.v.f, encWs k.v.dict, .val (.int .i64 k.v.last), encBs k.v.out, encBs k.v.pb, .val (.bool k.v.po), encLRq k.v.req, .val (.int .i64 k.v.free), .val (.int .i64 k.v.next), .val (.int .i64 k.v.arg), .val (.int .i64 k.v.self), .val (.int .i64 k.v.now), encLHn k.v.hand, .val (.int .i64 k.ip), .val (.int .i64 k.w), .val (.bool k.go), .val (.bool k.over), .val (.int .i64 k.bad)]
theorem encRk_closed (k : Rk) : ∀ x, x ∈ encRk k → Closed x := closedL_cons (.val _) (closedL_cons (.val _) (closedL_cons (.val _) (closedL_cons (.val _) (closedL_cons (.val _) (closedL_cons (closed_bs _) (closedL_cons (closed_map encP_closed) (closedL_cons (.val _) (closedL_cons (closed_s _) (closedL_cons (closed_s _) (closedL_cons (closedFr _) (closedL_cons (closed_ws _) (closedL_cons (.val _) (closedL_cons (closed_bs _) (closedL_cons (closed_bs _) (closedL_cons (.val _) (closedL_cons (closedRq _) (closedL_cons (.val _) (closedL_cons (.val _) (closedL_cons (.val _) (closedL_cons (.val _) (closedL_cons (.val _) (closedL_cons (closedHn _) (closedL_cons (.val _) (closedL_cons (.val _) (closedL_cons (.val _) (closedL_cons (.val _) (closedL_cons (.val _) closedL_nil)))))))))))))))))))))))))))
def encRn (k : Rn) : List AV := [.val (.int .i64 k.v.cf.mem), .val (.int .i64 k.v.cf.data), .val (.int .i64 k.v.cf.ret), .val (.int .i64 k.v.cf.words), .val (.int .i64 k.v.cf.out), encBs k.v.m.b, .sl 2 false (k.v.m.old.map encP), .val (.int .i64 k.v.here), encS k.v.d, encS k.v.r, encLFr k.v.f, encWs k.v.dict, .val (.int .i64 k.v.last), encBs k.v.out, encBs k.v.pb, .val (.bool k.v.po), encLRq k.v.req, .val (.int .i64 k.v.free), .val (.int .i64 k.v.next), .val (.int .i64 k.v.arg), .val (.int .i64 k.v.self), .val (.int .i64 k.v.now), encLHn k.v.hand, .val (.int .i64 k.ip), .val (.int .i64 k.w), .val (.bool k.go), .val (.int .i64 k.fuel)]
theorem encRn_closed (k : Rn) : ∀ x, x ∈ encRn k → Closed x := closedL_cons (.val _) (closedL_cons (.val _) (closedL_cons (.val _) (closedL_cons (.val _) (closedL_cons (.val _) (closedL_cons (closed_bs _) (closedL_cons (closed_map encP_closed) (closedL_cons (.val _) (closedL_cons (closed_s _) (closedL_cons (closed_s _) (closedL_cons (closedFr _) (closedL_cons (closed_ws _) (closedL_cons (.val _) (closedL_cons (closed_bs _) (closedL_cons (closed_bs _) (closedL_cons (.val _) (closedL_cons (closedRq _) (closedL_cons (.val _) (closedL_cons (.val _) (closedL_cons (.val _) (closedL_cons (.val _) (closedL_cons (.val _) (closedL_cons (closedHn _) (closedL_cons (.val _) (closedL_cons (.val _) (closedL_cons (.val _) (closedL_cons (.val _) closedL_nil))))))))))))))))))))))))))
def encRS (r : Rn × Bool × Int) : AV := .tup [.agg (encRn r.1), .val (.bool r.2.1), .val (.int .i64 r.2.2)]
attribute [local irreducible] Decidable.decide awp ARun regK toK
theorem z0 : ((0 : Int) == 0) = true := by simp
theorem fail0_l (v : V) (ip w : Int) (go over : Bool) : FnL Tryz.prog 66 [.ptr 1000 0 0 0, .val (.int .i64 0)] [(28, [encRk ⟨v, ip, w, go, over, 0⟩])] (.tup []) [[encRk ⟨v, ip, w, go, over, 0⟩]] := by
 have d := z0
 refine FnL.of_awp (T := tt) (ok := tok) Tryz.func66 (by kernel_rfl) rfl (by kernel_rfl) (by kernel_rfl) (fun w0 st0 lent c0 => ?_)
 dsimp only [frOf, hpFrom, List.length_cons, List.length_nil]
 (repeat' (first | refine goA ?_ | refine ARun.nilCheckP rfl rfl (guardF_spec rfl) ?_ | refine goB ?_ | fail))
 (first | exact ⟨_, ResL.nil, rfl, ⟨_, rfl, RlR.closed (one_cl (encRk_closed ⟨v, ip, w, go, over, 0⟩))⟩, trivial⟩ | exact awp_ret ⟨_, ResL.nil, rfl, ⟨_, rfl, RlR.closed (one_cl (encRk_closed ⟨v, ip, w, go, over, 0⟩))⟩, trivial⟩ | (refine awp_skip ?_; exact ⟨_, ResL.nil, rfl, ⟨_, rfl, RlR.closed (one_cl (encRk_closed ⟨v, ip, w, go, over, 0⟩))⟩, trivial⟩))
theorem rget_l (v : V) (ip w : Int) (go over : Bool) (a n : Int) (hb : v.m.b.length ≤ 1000000) (h : fetchD v.m a = (n, 0)) : FnL Tryz.prog 44 [.ptr 1000 0 0 0, .val (.int .i64 a)] [(28, [encRk ⟨v, ip, w, go, over, 0⟩])] (.val (.int .i64 n)) [[encRk ⟨v, ip, w, go, over, 0⟩]] := by
 have c1 := Mem.ref_fetch_c v.m a hb
 rw [h] at c1
 have c2 := fail0_l v ip w go over
 refine FnL.of_awp (T := tt) (ok := tok) Tryz.func44 (by kernel_rfl) rfl (by kernel_rfl) (by kernel_rfl) (fun w0 st0 lent c0 => ?_)
 dsimp only [frOf, hpFrom, List.length_cons, List.length_nil]
 (repeat' (first | refine goA ?_ | refine ARun.nilCheckP rfl rfl (guardF_spec rfl) ?_ | refine cX c1 ?_ | refine callK 1000 0 28 (encRk ⟨v, ip, w, go, over, 0⟩) (encRk ⟨v, ip, w, go, over, 0⟩) (c2) (encRk_closed _) (encRk_closed _) (RelL.cons (.ptr (j := 0) 0 0 rfl) (RelL.cons (.wk (.same _) (.val _)) (RelL.nil _))) (by first | exact .same _ (.tup closedL_nil) | exact .same _ (.val _) | exact .same _ (.agg (encCf_closed _)) | exact .same _ (.tup (closedL_cons (.agg (encFo_closed _)) (closedL_cons (.val _) closedL_nil))) | exact .same _ (.tup (closedL_cons (closedV _) (closedL_cons (closedLCf _) (closedL_cons (.val _) closedL_nil))))) ?_ | refine goB ?_ | fail))
 (first | exact ⟨_, ResL.cons (ResA.tmp (.val _)) .nil, rfl, ⟨_, rfl, RlR.closed (one_cl (encRk_closed ⟨v, ip, w, go, over, 0⟩))⟩, trivial⟩ | exact awp_ret ⟨_, ResL.cons (ResA.tmp (.val _)) .nil, rfl, ⟨_, rfl, RlR.closed (one_cl (encRk_closed ⟨v, ip, w, go, over, 0⟩))⟩, trivial⟩)
theorem rpushS_l (v v' : V) (ip w : Int) (go over : Bool) (n : Int) (hd : v.d.length ≤ 1000000) (h : vpushD v n = (v', 0)) : FnL Tryz.prog 69 [.ptr 1000 0 0 0, .val (.int .i64 n)] [(28, [encRk ⟨v, ip, w, go, over, 0⟩])] (.tup []) [[encRk ⟨v', ip, w, go, over, 0⟩]] := by
 have c1 := ref_push_c v n hd
 rw [h] at c1
 unfold encVE at c1
 have c2 := fail0_l v ip w go over
 refine FnL.of_awp (T := tt) (ok := tok) Tryz.func69 (by kernel_rfl) rfl (by kernel_rfl) (by kernel_rfl) (fun w0 st0 lent c0 => ?_)
 dsimp only [frOf, hpFrom, List.length_cons, List.length_nil]
 (repeat' (first | refine goA ?_ | refine ARun.nilCheckP rfl rfl (guardF_spec rfl) ?_ | refine cX c1 ?_ | refine callK 1000 0 28 (encRk ⟨v, ip, w, go, over, 0⟩) (encRk ⟨v, ip, w, go, over, 0⟩) (c2) (encRk_closed _) (encRk_closed _) (RelL.cons (.ptr (j := 0) 0 0 rfl) (RelL.cons (.wk (.same _) (.val _)) (RelL.nil _))) (by first | exact .same _ (.tup closedL_nil) | exact .same _ (.val _) | exact .same _ (.agg (encCf_closed _)) | exact .same _ (.tup (closedL_cons (.agg (encFo_closed _)) (closedL_cons (.val _) closedL_nil))) | exact .same _ (.tup (closedL_cons (closedV _) (closedL_cons (closedLCf _) (closedL_cons (.val _) closedL_nil))))) ?_ | refine goB ?_ | fail))
 exact ⟨_, ResL.nil, rfl, ⟨_, rfl, RlR.closed (one_cl (encRk_closed ⟨v', ip, w, go, over, 0⟩))⟩, trivial⟩
theorem rrpush_l (v v' : V) (ip w : Int) (go over : Bool) (n : Int) (hd : v.r.length ≤ 1000000) (h : rpushD v n = (v', 0)) : FnL Tryz.prog 68 [.ptr 1000 0 0 0, .val (.int .i64 n)] [(28, [encRk ⟨v, ip, w, go, over, 0⟩])] (.tup []) [[encRk ⟨v', ip, w, go, over, 0⟩]] := by
 have c1 := ref_rpush_c v n hd
 rw [h] at c1
 unfold encVE at c1
 have c2 := fail0_l v ip w go over
 refine FnL.of_awp (T := tt) (ok := tok) Tryz.func68 (by kernel_rfl) rfl (by kernel_rfl) (by kernel_rfl) (fun w0 st0 lent c0 => ?_)
 dsimp only [frOf, hpFrom, List.length_cons, List.length_nil]
 (repeat' (first | refine goA ?_ | refine ARun.nilCheckP rfl rfl (guardF_spec rfl) ?_ | refine cX c1 ?_ | refine callK 1000 0 28 (encRk ⟨v, ip, w, go, over, 0⟩) (encRk ⟨v, ip, w, go, over, 0⟩) (c2) (encRk_closed _) (encRk_closed _) (RelL.cons (.ptr (j := 0) 0 0 rfl) (RelL.cons (.wk (.same _) (.val _)) (RelL.nil _))) (by first | exact .same _ (.tup closedL_nil) | exact .same _ (.val _) | exact .same _ (.agg (encCf_closed _)) | exact .same _ (.tup (closedL_cons (.agg (encFo_closed _)) (closedL_cons (.val _) closedL_nil))) | exact .same _ (.tup (closedL_cons (closedV _) (closedL_cons (closedLCf _) (closedL_cons (.val _) closedL_nil))))) ?_ | refine goB ?_ | fail))
 exact ⟨_, ResL.nil, rfl, ⟨_, rfl, RlR.closed (one_cl (encRk_closed ⟨v', ip, w, go, over, 0⟩))⟩, trivial⟩
theorem rrpop_l (v v' : V) (ip w : Int) (go over : Bool) (n : Int) (hd : v.r.length ≤ 1000000) (h : rpopD v = (n, v', 0)) : FnL Tryz.prog 91 [.ptr 1000 0 0 0] [(28, [encRk ⟨v, ip, w, go, over, 0⟩])] (.val (.int .i64 n)) [[encRk ⟨v', ip, w, go, over, 0⟩]] := by
 have c1 := ref_rpop_c v hd
 rw [h] at c1
 unfold encIVE at c1
 have c2 := fail0_l v ip w go over
 refine FnL.of_awp (T := tt) (ok := tok) Tryz.func91 (by kernel_rfl) rfl (by kernel_rfl) (by kernel_rfl) (fun w0 st0 lent c0 => ?_)
 dsimp only [frOf, hpFrom, List.length_cons, List.length_nil]
 (repeat' (first | refine goA ?_ | refine ARun.nilCheckP rfl rfl (guardF_spec rfl) ?_ | refine cX c1 ?_ | refine callK 1000 0 28 (encRk ⟨v, ip, w, go, over, 0⟩) (encRk ⟨v, ip, w, go, over, 0⟩) (c2) (encRk_closed _) (encRk_closed _) (RelL.cons (.ptr (j := 0) 0 0 rfl) (RelL.cons (.wk (.same _) (.val _)) (RelL.nil _))) (by first | exact .same _ (.tup closedL_nil) | exact .same _ (.val _) | exact .same _ (.agg (encCf_closed _)) | exact .same _ (.tup (closedL_cons (.agg (encFo_closed _)) (closedL_cons (.val _) closedL_nil))) | exact .same _ (.tup (closedL_cons (closedV _) (closedL_cons (closedLCf _) (closedL_cons (.val _) closedL_nil))))) ?_ | refine goB ?_ | fail))
 first
  | exact ⟨_, ResL.cons (ResA.tmp (.val _)) .nil, rfl, ⟨_, rfl, RlR.closed (one_cl (encRk_closed ⟨v', ip, w, go, over, 0⟩))⟩, trivial⟩
  | exact awp_ret ⟨_, ResL.cons (ResA.tmp (.val _)) .nil, rfl, ⟨_, rfl, RlR.closed (one_cl (encRk_closed ⟨v', ip, w, go, over, 0⟩))⟩, trivial⟩
end Go.Proofs.YtpkkplojpjakiaaGreat
namespace Go.Proofs.YtpkkplojpjakiaaGreat
open Go Go.RowKit
open Go.Proofs.YtpkkplojpjakiaaGreat.Dict (St Bs bs_eq Wd encW encWs closed_ws)
open Go.Proofs.YtpkkplojpjakiaaGreat.Mem (Mm encM encBs closed_bs encP encP_closed closed_m storeD fetchD)
open Go.Proofs.YtpkkplojpjakiaaGreat.Stk (encS closed_s encI_closed)
set_option maxRecDepth 100000
theorem q_ex0 : ((ByteArray.mk #[40, 101, 120, 105, 116, 41]).toList == (ByteArray.mk #[40, 101, 120, 105, 116, 41]).toList) = true := by rw [bs_eq [40, 101, 120, 105, 116, 41] [40, 101, 120, 105, 116, 41]]; exact decide_eq_true rfl
theorem q_ha0 : ((ByteArray.mk #[40, 104, 97, 108, 116, 41]).toList == (ByteArray.mk #[40, 101, 120, 105, 116, 41]).toList) = false := by rw [bs_eq [40, 104, 97, 108, 116, 41] [40, 101, 120, 105, 116, 41]]; exact decide_eq_false (by decide)
theorem q_ha1 : ((ByteArray.mk #[40, 104, 97, 108, 116, 41]).toList == (ByteArray.mk #[40, 108, 105, 116, 41]).toList) = false := by rw [bs_eq [40, 104, 97, 108, 116, 41] [40, 108, 105, 116, 41]]; exact decide_eq_false (by decide)
theorem q_ha2 : ((ByteArray.mk #[40, 104, 97, 108, 116, 41]).toList == (ByteArray.mk #[40, 98, 114, 97, 110, 99, 104, 41]).toList) = false := by rw [bs_eq [40, 104, 97, 108, 116, 41] [40, 98, 114, 97, 110, 99, 104, 41]]; exact decide_eq_false (by decide)
theorem q_ha3 : ((ByteArray.mk #[40, 104, 97, 108, 116, 41]).toList == (ByteArray.mk #[40, 48, 98, 114, 97, 110, 99, 104, 41]).toList) = false := by rw [bs_eq [40, 104, 97, 108, 116, 41] [40, 48, 98, 114, 97, 110, 99, 104, 41]]; exact decide_eq_false (by decide)
theorem q_ha4 : ((ByteArray.mk #[40, 104, 97, 108, 116, 41]).toList == (ByteArray.mk #[40, 100, 111, 41]).toList) = false := by rw [bs_eq [40, 104, 97, 108, 116, 41] [40, 100, 111, 41]]; exact decide_eq_false (by decide)
theorem q_ha5 : ((ByteArray.mk #[40, 104, 97, 108, 116, 41]).toList == (ByteArray.mk #[40, 63, 100, 111, 41]).toList) = false := by rw [bs_eq [40, 104, 97, 108, 116, 41] [40, 63, 100, 111, 41]]; exact decide_eq_false (by decide)
theorem q_ha6 : ((ByteArray.mk #[40, 104, 97, 108, 116, 41]).toList == (ByteArray.mk #[40, 108, 111, 111, 112, 41]).toList) = false := by rw [bs_eq [40, 104, 97, 108, 116, 41] [40, 108, 111, 111, 112, 41]]; exact decide_eq_false (by decide)
theorem q_ha7 : ((ByteArray.mk #[40, 104, 97, 108, 116, 41]).toList == (ByteArray.mk #[40, 43, 108, 111, 111, 112, 41]).toList) = false := by rw [bs_eq [40, 104, 97, 108, 116, 41] [40, 43, 108, 111, 111, 112, 41]]; exact decide_eq_false (by decide)
theorem q_ha8 : ((ByteArray.mk #[40, 104, 97, 108, 116, 41]).toList == (ByteArray.mk #[40, 104, 97, 108, 116, 41]).toList) = true := by rw [bs_eq [40, 104, 97, 108, 116, 41] [40, 104, 97, 108, 116, 41]]; exact decide_eq_true rfl
theorem q_li0 : ((ByteArray.mk #[40, 108, 105, 116, 41]).toList == (ByteArray.mk #[40, 101, 120, 105, 116, 41]).toList) = false := by rw [bs_eq [40, 108, 105, 116, 41] [40, 101, 120, 105, 116, 41]]; exact decide_eq_false (by decide)
theorem q_li1 : ((ByteArray.mk #[40, 108, 105, 116, 41]).toList == (ByteArray.mk #[40, 108, 105, 116, 41]).toList) = true := by rw [bs_eq [40, 108, 105, 116, 41] [40, 108, 105, 116, 41]]; exact decide_eq_true rfl
theorem q_st0 : ((ByteArray.mk #[40, 115, 116, 114, 41]).toList == (ByteArray.mk #[40, 101, 120, 105, 116, 41]).toList) = false := by rw [bs_eq [40, 115, 116, 114, 41] [40, 101, 120, 105, 116, 41]]; exact decide_eq_false (by decide)
theorem q_st1 : ((ByteArray.mk #[40, 115, 116, 114, 41]).toList == (ByteArray.mk #[40, 108, 105, 116, 41]).toList) = false := by rw [bs_eq [40, 115, 116, 114, 41] [40, 108, 105, 116, 41]]; exact decide_eq_false (by decide)
theorem q_st2 : ((ByteArray.mk #[40, 115, 116, 114, 41]).toList == (ByteArray.mk #[40, 98, 114, 97, 110, 99, 104, 41]).toList) = false := by rw [bs_eq [40, 115, 116, 114, 41] [40, 98, 114, 97, 110, 99, 104, 41]]; exact decide_eq_false (by decide)
theorem q_st3 : ((ByteArray.mk #[40, 115, 116, 114, 41]).toList == (ByteArray.mk #[40, 48, 98, 114, 97, 110, 99, 104, 41]).toList) = false := by rw [bs_eq [40, 115, 116, 114, 41] [40, 48, 98, 114, 97, 110, 99, 104, 41]]; exact decide_eq_false (by decide)
theorem q_st4 : ((ByteArray.mk #[40, 115, 116, 114, 41]).toList == (ByteArray.mk #[40, 100, 111, 41]).toList) = false := by rw [bs_eq [40, 115, 116, 114, 41] [40, 100, 111, 41]]; exact decide_eq_false (by decide)
theorem q_st5 : ((ByteArray.mk #[40, 115, 116, 114, 41]).toList == (ByteArray.mk #[40, 63, 100, 111, 41]).toList) = false := by rw [bs_eq [40, 115, 116, 114, 41] [40, 63, 100, 111, 41]]; exact decide_eq_false (by decide)
theorem q_st6 : ((ByteArray.mk #[40, 115, 116, 114, 41]).toList == (ByteArray.mk #[40, 108, 111, 111, 112, 41]).toList) = false := by rw [bs_eq [40, 115, 116, 114, 41] [40, 108, 111, 111, 112, 41]]; exact decide_eq_false (by decide)
theorem q_st7 : ((ByteArray.mk #[40, 115, 116, 114, 41]).toList == (ByteArray.mk #[40, 43, 108, 111, 111, 112, 41]).toList) = false := by rw [bs_eq [40, 115, 116, 114, 41] [40, 43, 108, 111, 111, 112, 41]]; exact decide_eq_false (by decide)
theorem q_st8 : ((ByteArray.mk #[40, 115, 116, 114, 41]).toList == (ByteArray.mk #[40, 104, 97, 108, 116, 41]).toList) = false := by rw [bs_eq [40, 115, 116, 114, 41] [40, 104, 97, 108, 116, 41]]; exact decide_eq_false (by decide)
theorem q_st9 : ((ByteArray.mk #[40, 115, 116, 114, 41]).toList == (ByteArray.mk #[40, 99, 97, 117, 103, 104, 116, 41]).toList) = false := by rw [bs_eq [40, 115, 116, 114, 41] [40, 99, 97, 117, 103, 104, 116, 41]]; exact decide_eq_false (by decide)
theorem q_st10 : ((ByteArray.mk #[40, 115, 116, 114, 41]).toList == (ByteArray.mk #[40, 100, 111, 101, 115, 41]).toList) = false := by rw [bs_eq [40, 115, 116, 114, 41] [40, 100, 111, 101, 115, 41]]; exact decide_eq_false (by decide)
theorem q_st11 : ((ByteArray.mk #[40, 115, 116, 114, 41]).toList == (ByteArray.mk #[40, 115, 116, 114, 41]).toList) = true := by rw [bs_eq [40, 115, 116, 114, 41] [40, 115, 116, 114, 41]]; exact decide_eq_true rfl
attribute [local irreducible] Decidable.decide awp ARun regK toK
set_option maxHeartbeats 4000000 in
theorem code_exit (v v' : V) (ip w : Int) (go over : Bool) (n : Int) (hd : v.r.length ≤ 1000000) (h : rpopD v = (n, v', 0)) : FnL Tryz.prog 72 [.ptr 1000 0 0 0, St [40, 101, 120, 105, 116, 41]] [(28, [encRk ⟨v, ip, w, go, over, 0⟩])] (.val (.bool true)) [[encRk ⟨v', n, w, go, over, 0⟩]] := by
 have c1 := rrpop_l v v' ip w go over n hd h
 have n0 := q_ex0
 refine FnL.of_awp (T := tt) (ok := tok) Tryz.func72 (by kernel_rfl) rfl (by kernel_rfl) (by kernel_rfl) (fun w0 st0 lent c0 => ?_)
 dsimp only [frOf, hpFrom, List.length_cons, List.length_nil]
 (repeat' (first | refine goA ?_ | refine ARun.nilCheckP rfl rfl (guardF_spec rfl) ?_ | refine callK 1000 0 28 (encRk ⟨v, ip, w, go, over, 0⟩) (encRk ⟨v', ip, w, go, over, 0⟩) (c1) (encRk_closed _) (encRk_closed _) (RelL.cons (.ptr (j := 0) 0 0 rfl) (RelL.nil _)) (by first | exact .same _ (.tup closedL_nil) | exact .same _ (.val _) | exact .same _ (.agg (encCf_closed _)) | exact .same _ (.tup (closedL_cons (.agg (encFo_closed _)) (closedL_cons (.val _) closedL_nil))) | exact .same _ (.tup (closedL_cons (closedV _) (closedL_cons (closedLCf _) (closedL_cons (.val _) closedL_nil))))) ?_ | refine goB ?_ | fail))
 first
  | exact ⟨_, ResL.cons (ResA.tmp (.val _)) .nil, rfl, ⟨_, rfl, RlR.closed (one_cl (encRk_closed ⟨v', n, w, go, over, 0⟩))⟩, trivial⟩
  | exact awp_ret ⟨_, ResL.cons (ResA.tmp (.val _)) .nil, rfl, ⟨_, rfl, RlR.closed (one_cl (encRk_closed ⟨v', n, w, go, over, 0⟩))⟩, trivial⟩
set_option maxHeartbeats 4000000 in
theorem code_halt (v : V) (ip w : Int) (go over : Bool) : FnL Tryz.prog 72 [.ptr 1000 0 0 0, St [40, 104, 97, 108, 116, 41]] [(28, [encRk ⟨v, ip, w, go, over, 0⟩])] (.val (.bool true)) [[encRk ⟨v, ip, w, go, true, 0⟩]] := by
 have n0 := q_ha0
 have n1 := q_ha1
 have n2 := q_ha2
 have n3 := q_ha3
 have n4 := q_ha4
 have n5 := q_ha5
 have n6 := q_ha6
 have n7 := q_ha7
 have n8 := q_ha8
 refine FnL.of_awp (T := tt) (ok := tok) Tryz.func72 (by kernel_rfl) rfl (by kernel_rfl) (by kernel_rfl) (fun w0 st0 lent c0 => ?_)
 dsimp only [frOf, hpFrom, List.length_cons, List.length_nil]
 (repeat' (first | refine goA ?_ | refine ARun.nilCheckP rfl rfl (guardF_spec rfl) ?_ | refine goB ?_ | fail))
 first
  | exact ⟨_, ResL.cons (ResA.tmp (.val _)) .nil, rfl, ⟨_, rfl, RlR.closed (one_cl (encRk_closed ⟨v, ip, w, go, true, 0⟩))⟩, trivial⟩
  | exact awp_ret ⟨_, ResL.cons (ResA.tmp (.val _)) .nil, rfl, ⟨_, rfl, RlR.closed (one_cl (encRk_closed ⟨v, ip, w, go, true, 0⟩))⟩, trivial⟩
set_option maxHeartbeats 4000000 in
theorem code_lit (v v' : V) (ip w : Int) (go over : Bool) (n : Int) (hi : 0 ≤ ip ∧ ip ≤ 1000000) (hb : v.m.b.length ≤ 1000000) (hd : v.d.length ≤ 1000000) (h1 : fetchD v.m ip = (n, 0)) (h : vpushD v n = (v', 0)) : FnL Tryz.prog 72 [.ptr 1000 0 0 0, St [40, 108, 105, 116, 41]] [(28, [encRk ⟨v, ip, w, go, over, 0⟩])] (.val (.bool true)) [[encRk ⟨v', ip + 8, w, go, over, 0⟩]] := by
 have c1 := rget_l v ip w go over ip n hb h1
 have c2 := rpushS_l v v' ip w go over n hd h
 have n0 := q_li0
 have n1 := q_li1
 refine FnL.of_awp (T := tt) (ok := tok) Tryz.func72 (by kernel_rfl) rfl (by kernel_rfl) (by kernel_rfl) (fun w0 st0 lent c0 => ?_)
 dsimp only [frOf, hpFrom, List.length_cons, List.length_nil]
 (repeat' (first | refine goA ?_ | refine ARun.nilCheckP rfl rfl (guardF_spec rfl) ?_ | refine callK 1000 0 28 (encRk ⟨v, ip, w, go, over, 0⟩) (encRk ⟨v, ip, w, go, over, 0⟩) (c1) (encRk_closed _) (encRk_closed _) (RelL.cons (.ptr (j := 0) 0 0 rfl) (RelL.cons (.wk (.same _) (.val _)) (RelL.nil _))) (by first | exact .same _ (.tup closedL_nil) | exact .same _ (.val _) | exact .same _ (.agg (encCf_closed _)) | exact .same _ (.tup (closedL_cons (.agg (encFo_closed _)) (closedL_cons (.val _) closedL_nil))) | exact .same _ (.tup (closedL_cons (closedV _) (closedL_cons (closedLCf _) (closedL_cons (.val _) closedL_nil))))) ?_ | refine callK 1000 0 28 (encRk ⟨v, ip, w, go, over, 0⟩) (encRk ⟨v', ip, w, go, over, 0⟩) (c2) (encRk_closed _) (encRk_closed _) (RelL.cons (.ptr (j := 0) 0 0 rfl) (RelL.cons (.wk (.same _) (.val _)) (RelL.nil _))) (by first | exact .same _ (.tup closedL_nil) | exact .same _ (.val _) | exact .same _ (.agg (encCf_closed _)) | exact .same _ (.tup (closedL_cons (.agg (encFo_closed _)) (closedL_cons (.val _) closedL_nil))) | exact .same _ (.tup (closedL_cons (closedV _) (closedL_cons (closedLCf _) (closedL_cons (.val _) closedL_nil))))) ?_ | refine goB ?_ | fail))
 first
  | exact ⟨_, ResL.cons (ResA.tmp (.val _)) .nil, rfl, ⟨_, rfl, RlR.closed (one_cl (encRk_closed ⟨v', ip + 8, w, go, over, 0⟩))⟩, trivial⟩
  | exact awp_ret ⟨_, ResL.cons (ResA.tmp (.val _)) .nil, rfl, ⟨_, rfl, RlR.closed (one_cl (encRk_closed ⟨v', ip + 8, w, go, over, 0⟩))⟩, trivial⟩
set_option maxHeartbeats 4000000 in
theorem done_col (v v' : V) (ip w : Int) (go over : Bool) (xt : Int) (hx : 0 ≤ xt ∧ xt ≤ 1000000) (hb : v.m.b.length ≤ 1000000) (hk : kindD v xt = (256, 0)) (hd : v.r.length ≤ 1000000) (h : rpushD v ip = (v', 0)) : FnL Tryz.prog 45 [.ptr 1000 0 0 0, .val (.int .i64 xt)] [(28, [encRk ⟨v, ip, w, go, over, 0⟩])] (.tup []) [[encRk ⟨v', xt + 8, w, go, over, 0⟩]] := by
 have c1 := ref_kind_c v xt hb
 rw [hk] at c1
 have z1 : ((0 : Int) != 0) = false := by simp
 have k300 : decide ((300 : Int) ≤ 256) = false := decide_eq_false (by omega)
 have k256 : ((256 : Int) == 256) = true := by simp
 have c2 := rrpush_l v v' ip w go over ip hd h
 refine FnL.of_awp (T := tt) (ok := tok) Tryz.func45 (by kernel_rfl) rfl (by kernel_rfl) (by kernel_rfl) (fun w0 st0 lent c0 => ?_)
 dsimp only [frOf, hpFrom, List.length_cons, List.length_nil]
 (repeat' (first | refine goA ?_ | refine ARun.nilCheckP rfl rfl (guardF_spec rfl) ?_ | refine cX c1 ?_ | refine callK 1000 0 28 (encRk ⟨v, ip, w, go, over, 0⟩) (encRk ⟨v', ip, w, go, over, 0⟩) (c2) (encRk_closed _) (encRk_closed _) (RelL.cons (.ptr (j := 0) 0 0 rfl) (RelL.cons (.wk (.same _) (.val _)) (RelL.nil _))) (by first | exact .same _ (.tup closedL_nil) | exact .same _ (.val _) | exact .same _ (.agg (encCf_closed _)) | exact .same _ (.tup (closedL_cons (.agg (encFo_closed _)) (closedL_cons (.val _) closedL_nil))) | exact .same _ (.tup (closedL_cons (closedV _) (closedL_cons (closedLCf _) (closedL_cons (.val _) closedL_nil))))) ?_ | refine goB ?_ | fail))
 first
  | exact ⟨_, ResL.nil, rfl, ⟨_, rfl, RlR.closed (one_cl (encRk_closed ⟨v', xt + 8, w, go, over, 0⟩))⟩, trivial⟩
  | exact awp_ret ⟨_, ResL.nil, rfl, ⟨_, rfl, RlR.closed (one_cl (encRk_closed ⟨v', xt + 8, w, go, over, 0⟩))⟩, trivial⟩
  | (refine awp_skip ?_; exact ⟨_, ResL.nil, rfl, ⟨_, rfl, RlR.closed (one_cl (encRk_closed ⟨v', xt + 8, w, go, over, 0⟩))⟩, trivial⟩)
set_option maxHeartbeats 4000000 in
theorem done_prim (v v' : V) (k : Int) (hk1 : 23 ≤ k ∧ k < 256) (ip w : Int) (go over : Bool) (xt : Int) (hb : v.m.b.length ≤ 1000000) (hk : kindD v xt = (k, 0)) (cD : FnC Tryz.prog 71 [.agg (encV v), .val (.int .i64 k)] (encVE (v', 0))) : FnL Tryz.prog 45 [.ptr 1000 0 0 0, .val (.int .i64 xt)] [(28, [encRk ⟨v, ip, w, go, over, 0⟩])] (.tup []) [[encRk ⟨v', ip, w, go, over, 0⟩]] := by
 have c1 := ref_kind_c v xt hb
 rw [hk] at c1
 have c2 := fail0_l v ip w go over
 unfold encVE at cD
 have z1 : ((0 : Int) != 0) = false := by simp
 have k300 : decide ((300 : Int) ≤ k) = false := decide_eq_false (by omega)
 have k256 : (k == 256) = false := beq_eq_false_iff_ne.2 (by omega)
 have k257 : (k == 257) = false := beq_eq_false_iff_ne.2 (by omega)
 have k258 : (k == 258) = false := beq_eq_false_iff_ne.2 (by omega)
 have k259 : (k == 259) = false := beq_eq_false_iff_ne.2 (by omega)
 have k260 : (k == 260) = false := beq_eq_false_iff_ne.2 (by omega)
 have k23 : decide ((23 : Int) ≤ k) = true := decide_eq_true (by omega)
 refine FnL.of_awp (T := tt) (ok := tok) Tryz.func45 (by kernel_rfl) rfl (by kernel_rfl) (by kernel_rfl) (fun w0 st0 lent c0 => ?_)
 dsimp only [frOf, hpFrom, List.length_cons, List.length_nil]
 (repeat' (first | refine goA ?_ | refine ARun.nilCheckP rfl rfl (guardF_spec rfl) ?_ | refine cX c1 ?_ | refine cX cD ?_ | refine callK 1000 0 28 (encRk ⟨v, ip, w, go, over, 0⟩) (encRk ⟨v, ip, w, go, over, 0⟩) (c2) (encRk_closed _) (encRk_closed _) (RelL.cons (.ptr (j := 0) 0 0 rfl) (RelL.cons (.wk (.same _) (.val _)) (RelL.nil _))) (by first | exact .same _ (.tup closedL_nil) | exact .same _ (.val _) | exact .same _ (.agg (encCf_closed _)) | exact .same _ (.tup (closedL_cons (.agg (encFo_closed _)) (closedL_cons (.val _) closedL_nil))) | exact .same _ (.tup (closedL_cons (closedV _) (closedL_cons (closedLCf _) (closedL_cons (.val _) closedL_nil))))) ?_ | refine goB ?_ | fail))
 first
  | exact ⟨_, ResL.nil, rfl, ⟨_, rfl, RlR.closed (one_cl (encRk_closed ⟨v', ip, w, go, over, 0⟩))⟩, trivial⟩
  | exact awp_ret ⟨_, ResL.nil, rfl, ⟨_, rfl, RlR.closed (one_cl (encRk_closed ⟨v', ip, w, go, over, 0⟩))⟩, trivial⟩
  | (refine awp_skip ?_; exact ⟨_, ResL.nil, rfl, ⟨_, rfl, RlR.closed (one_cl (encRk_closed ⟨v', ip, w, go, over, 0⟩))⟩, trivial⟩)
set_option maxHeartbeats 4000000 in
theorem done_code (v : V) (w' : Rk) (k : Nat) (nm : Bs) (hk1 : k < 23) (hnm : nmsV[k]? = some nm) (ip w : Int) (go over : Bool) (xt : Int) (hb : v.m.b.length ≤ 1000000) (hk : kindD v xt = ((k : Int), 0)) (cC : FnL Tryz.prog 72 [.ptr 1000 0 0 0, St nm] [(28, [encRk ⟨v, ip, w, go, over, 0⟩])] (.val (.bool true)) [[encRk w']]) : FnL Tryz.prog 45 [.ptr 1000 0 0 0, .val (.int .i64 xt)] [(28, [encRk ⟨v, ip, w, go, over, 0⟩])] (.tup []) [[encRk w']] := by
 have c1 := ref_kind_c v xt hb
 rw [hk] at c1
 have cn := ref_names_c
 have hp : (nmsV.map encN)[((k : Nat) : Int).toNat]? = some (encN nm) := get_map hnm
 have z1 : ((0 : Int) != 0) = false := by simp
 have nt : (!true) = false := rfl
 have k300 : decide ((300 : Int) ≤ (k : Nat)) = false := decide_eq_false (by omega)
 have k256 : (((k : Nat) : Int) == 256) = false := beq_eq_false_iff_ne.2 (by omega)
 have k257 : (((k : Nat) : Int) == 257) = false := beq_eq_false_iff_ne.2 (by omega)
 have k258 : (((k : Nat) : Int) == 258) = false := beq_eq_false_iff_ne.2 (by omega)
 have k259 : (((k : Nat) : Int) == 259) = false := beq_eq_false_iff_ne.2 (by omega)
 have k260 : (((k : Nat) : Int) == 260) = false := beq_eq_false_iff_ne.2 (by omega)
 have k23 : decide ((23 : Int) ≤ (k : Nat)) = false := decide_eq_false (by omega)
 generalize nmsV.map encN = nn at *
 refine FnL.of_awp (T := tt) (ok := tok) Tryz.func45 (by kernel_rfl) rfl (by kernel_rfl) (by kernel_rfl) (fun w0 st0 lent c0 => ?_)
 dsimp only [frOf, hpFrom, List.length_cons, List.length_nil]
 (repeat' (first | refine goA ?_ | refine ARun.nilCheckP rfl rfl (guardF_spec rfl) ?_ | refine cX c1 ?_ | refine cX cn ?_ | refine ARun.indexAddr rfl rfl (by omega) (by with_reducible exact hp) rfl rfl rfl rfl rfl (guardF_spec rfl) ?_ | refine callK 1000 0 28 (encRk ⟨v, ip, w, go, over, 0⟩) (encRk w') (cC) (encRk_closed _) (encRk_closed _) (RelL.cons (.ptr (j := 0) 0 0 rfl) (RelL.cons (.wk (.same _) (.val _)) (RelL.nil _))) (by first | exact .same _ (.tup closedL_nil) | exact .same _ (.val _) | exact .same _ (.agg (encCf_closed _)) | exact .same _ (.tup (closedL_cons (.agg (encFo_closed _)) (closedL_cons (.val _) closedL_nil))) | exact .same _ (.tup (closedL_cons (closedV _) (closedL_cons (closedLCf _) (closedL_cons (.val _) closedL_nil))))) ?_ | refine goB ?_ | fail))
 first
  | exact ⟨_, ResL.nil, rfl, ⟨_, rfl, RlR.closed (one_cl (encRk_closed w'))⟩, trivial⟩
  | exact awp_ret ⟨_, ResL.nil, rfl, ⟨_, rfl, RlR.closed (one_cl (encRk_closed w'))⟩, trivial⟩
  | (refine awp_skip ?_; exact ⟨_, ResL.nil, rfl, ⟨_, rfl, RlR.closed (one_cl (encRk_closed w'))⟩, trivial⟩)
end Go.Proofs.YtpkkplojpjakiaaGreat
namespace Go.Proofs.YtpkkplojpjakiaaGreat
open Go Go.RowKit
open Go.Proofs.YtpkkplojpjakiaaGreat.Dict (St Bs bs_eq Wd encW encWs closed_ws)
open Go.Proofs.YtpkkplojpjakiaaGreat.Mem (Mm encM encBs closed_bs encP encP_closed closed_m storeD fetchD)
open Go.Proofs.YtpkkplojpjakiaaGreat.Stk (encS closed_s encI_closed)
set_option maxRecDepth 100000
def clrRF (v : V) : V := ⟨v.cf, v.m, v.here, v.d, [], [], v.dict, v.last, v.out, v.pb, v.po, v.req, v.free, v.next, v.arg, v.self, v.now, v.hand⟩
attribute [local irreducible] Decidable.decide awp ARun regK toK
set_option maxHeartbeats 4000000 in
theorem step_do (r : Rn) (w' : Rk) (hg : r.go = true) (hf : 1 ≤ r.fuel ∧ r.fuel ≤ 1000000) (hD : FnL Tryz.prog 45 [.ptr 1000 0 0 0, .val (.int .i64 r.w)] [(28, [encRk ⟨r.v, r.ip, 0, false, false, 0⟩])] (.tup []) [[encRk w']]) (hb : w'.bad = 0) :
  FnC Tryz.prog 27 [.agg (encRn r)] (encRS (⟨w'.v, w'.ip, w'.w, w'.go, r.fuel - 1⟩, w'.over, 0)) := by
 have d1 : decide (r.fuel < 1) = false := decide_eq_false (by omega)
 have d2 : (!r.go) = false := by rw [hg]; rfl
 have d3 := z0
 have d4 : (w'.bad == 0) = true := by simp [hb]
 unfold encRS
 refine goF Tryz.func27 (closedL_cons (.agg (encRn_closed r)) closedL_nil) (fun w0 st0 => ?_)
 dsimp only [frOf]
 (repeat' (first | refine goA ?_ | refine callK 5 12 28 (encRk ⟨r.v, r.ip, 0, false, false, 0⟩) (encRk w') (hD) (encRk_closed _) (encRk_closed _) (RelL.cons (.ptr (j := 0) 0 0 rfl) (RelL.cons (.wk (.same _) (.val _)) (RelL.nil _))) (by first | exact .same _ (.tup closedL_nil) | exact .same _ (.val _) | exact .same _ (.agg (encCf_closed _)) | exact .same _ (.tup (closedL_cons (.agg (encFo_closed _)) (closedL_cons (.val _) closedL_nil))) | exact .same _ (.tup (closedL_cons (closedV _) (closedL_cons (closedLCf _) (closedL_cons (.val _) closedL_nil))))) ?_ | refine goB ?_ | fail))
 exact awp_ret ⟨_, ResL.cons (ResA.agg rfl rfl rfl rfl rfl rfl rfl (RL.allClosed (encRn_closed ⟨w'.v, w'.ip, w'.w, w'.go, r.fuel - 1⟩))) (ResL.cons (ResA.tmp (.val _)) (ResL.cons (ResA.tmp (.val _)) .nil)), rfl⟩
set_option maxHeartbeats 4000000 in
theorem step_next (r : Rn) (w' : Rk) (xt : Int) (hg : r.go = false) (hf : 1 ≤ r.fuel ∧ r.fuel ≤ 1000000) (hi : 0 ≤ r.ip ∧ r.ip ≤ 1000000) (hm : r.v.m.b.length ≤ 1000000) (h1 : fetchD r.v.m r.ip = (xt, 0)) (hD : FnL Tryz.prog 45 [.ptr 1000 0 0 0, .val (.int .i64 xt)] [(28, [encRk ⟨r.v, r.ip + 8, 0, false, false, 0⟩])] (.tup []) [[encRk w']]) (hb : w'.bad = 0) :
  FnC Tryz.prog 27 [.agg (encRn r)] (encRS (⟨w'.v, w'.ip, w'.w, w'.go, r.fuel - 1⟩, w'.over, 0)) := by
 have c1 := rget_l r.v r.ip 0 false false r.ip xt hm h1
 have d1 : decide (r.fuel < 1) = false := decide_eq_false (by omega)
 have d2 : (!r.go) = true := by rw [hg]; rfl
 have d3 := z0
 have d4 : (w'.bad == 0) = true := by simp [hb]
 unfold encRS
 refine goF Tryz.func27 (closedL_cons (.agg (encRn_closed r)) closedL_nil) (fun w0 st0 => ?_)
 dsimp only [frOf]
 (repeat' (first | refine goA ?_ | refine callK 5 12 28 (encRk ⟨r.v, r.ip, 0, false, false, 0⟩) (encRk ⟨r.v, r.ip, 0, false, false, 0⟩) (c1) (encRk_closed _) (encRk_closed _) (RelL.cons (.ptr (j := 0) 0 0 rfl) (RelL.cons (.wk (.same _) (.val _)) (RelL.nil _))) (by first | exact .same _ (.tup closedL_nil) | exact .same _ (.val _) | exact .same _ (.agg (encCf_closed _)) | exact .same _ (.tup (closedL_cons (.agg (encFo_closed _)) (closedL_cons (.val _) closedL_nil))) | exact .same _ (.tup (closedL_cons (closedV _) (closedL_cons (closedLCf _) (closedL_cons (.val _) closedL_nil))))) ?_ | refine callK 5 12 28 (encRk ⟨r.v, r.ip + 8, 0, false, false, 0⟩) (encRk w') (hD) (encRk_closed _) (encRk_closed _) (RelL.cons (.ptr (j := 0) 0 0 rfl) (RelL.cons (.wk (.same _) (.val _)) (RelL.nil _))) (by first | exact .same _ (.tup closedL_nil) | exact .same _ (.val _) | exact .same _ (.agg (encCf_closed _)) | exact .same _ (.tup (closedL_cons (.agg (encFo_closed _)) (closedL_cons (.val _) closedL_nil))) | exact .same _ (.tup (closedL_cons (closedV _) (closedL_cons (closedLCf _) (closedL_cons (.val _) closedL_nil))))) ?_ | refine goB ?_ | fail))
 exact awp_ret ⟨_, ResL.cons (ResA.agg rfl rfl rfl rfl rfl rfl rfl (RL.allClosed (encRn_closed ⟨w'.v, w'.ip, w'.w, w'.go, r.fuel - 1⟩))) (ResL.cons (ResA.tmp (.val _)) (ResL.cons (ResA.tmp (.val _)) .nil)), rfl⟩
theorem rbegin_c (v : V) (xt fuel : Int) : FnC Tryz.prog 26 [.agg (encV v), .val (.int .i64 xt), .val (.int .i64 fuel)] (.agg (encRn ⟨clrRF v, 16, xt, true, fuel⟩)) := by
 refine goF Tryz.func26 (closedL_cons (closedV v) (closedL_cons (.val _) (closedL_cons (.val _) closedL_nil))) (fun w0 st0 => ?_)
 dsimp only [frOf]
 (repeat' (first | refine goA ?_ | refine goB ?_ | fail))
 exact awp_ret ⟨_, ResL.cons (ResA.agg rfl rfl rfl rfl rfl rfl rfl (by repeat' (first | exact RL.nil _ | refine RL.cons (by first | exact Reif.val _ | exact Reif.nilSl | exact .closed _ (by first | exact closed_bs _ | exact closed_s _ | exact closed_ws _ | exact closedFr _ | exact closedRq _ | exact closedHn _ | exact closed_map encP_closed)) ?_))) .nil, rfl⟩
set_option maxHeartbeats 8000000 in
theorem run_c (v : V) (xt fuel : Int) (hf : 0 ≤ fuel) (n : Nat) (rs : Nat → Rn) (x : Rn) (h0 : rs 0 = ⟨clrRF v, 16, xt, true, fuel⟩) (hs : ∀ i, i < n → FnC Tryz.prog 27 [.agg (encRn (rs i))] (encRS (rs (i + 1), false, 0))) (hl : FnC Tryz.prog 27 [.agg (encRn (rs n))] (encRS (x, true, 0))) :
  FnC Tryz.prog 10 [.agg (encV v), .val (.int .i64 xt), .val (.int .i64 fuel)] (.tup [.agg (encV (clrRF x.v)), .val (.int .i64 x.fuel), .val (.int .i64 0)]) := by
 have c1 := rbegin_c v xt fuel
 rw [← h0] at c1
 have d1 : decide (fuel < 0) = false := decide_eq_false (by omega)
 have z : ((0 : Int) != 0) = false := by simp
 unfold encRS at hs hl
 dsimp only at hs hl
 clear h0
 refine goF Tryz.func10 (closedL_cons (closedV v) (closedL_cons (.val _) (closedL_cons (.val _) closedL_nil))) (fun w0 st0 => ?_)
 dsimp only [frOf]
 (repeat' (first | refine goA ?_ | refine cX c1 ?_ | refine goB ?_ | fail))
 refine awp_loopT (T := Nat × Nat) (fun t => ⟨[(9, .ptr 9 10 0 0), (6, .ptr 6 1 0 0)], [(9, some ⟨10, 27, [encRn (rs t.1)]⟩), (6, some ⟨1, 23, [[.val (.int .i64 0), .val (.int .i64 0), .val (.int .i64 0), .val (.int .i64 0), .val (.int .i64 0), .sl 0 true [], .sl 0 true [], .val (.int .i64 0), .sl 0 true [], .sl 0 true [], .sl 0 true [], .sl 0 true [], .val (.int .i64 0), .sl 0 true [], .sl 0 true [], .val (.bool false), .sl 0 true [], .val (.int .i64 0), .val (.int .i64 0), .val (.int .i64 0), .val (.int .i64 0), .val (.int .i64 0), .sl 0 true []]]⟩)], t.2⟩) (fun t => t.1 ≤ n) (fun t => n - t.1) (0, _) (Nat.zero_le _) ⟨⟨rfl, rfl, trivial⟩, ⟨rfl, rfl, trivial⟩, Nat.le_refl _⟩ (fun t ht => ?_)
 obtain ⟨i, gc⟩ := t
 dsimp only at ht ⊢
 by_cases hlt : i < n
 ·have c2 := hs i hlt
  (repeat' (first | refine goA ?_ | refine cX c2 ?_ | refine goB ?_ | fail))
  exact ⟨(i + 1, _), ⟨⟨rfl, rfl, trivial⟩, ⟨rfl, rfl, trivial⟩, Nat.le_refl _⟩, hlt, (by dsimp only; omega)⟩
 ·have hin : i = n := by omega
  subst hin
  (repeat' (first | refine goA ?_ | refine cX hl ?_ | refine goB ?_ | fail))
  exact awp_ret ⟨_, ResL.cons (ResA.agg rfl rfl rfl rfl rfl rfl rfl (by repeat' (first | exact RL.nil _ | refine RL.cons (by first | exact Reif.val _ | exact Reif.nilSl | exact .closed _ (by first | exact closed_bs _ | exact closed_s _ | exact closed_ws _ | exact closedFr _ | exact closedRq _ | exact closedHn _ | exact closed_map encP_closed)) ?_))) (ResL.cons (ResA.tmp (.val _)) (ResL.cons (ResA.tmp (.val _)) .nil)), rfl⟩
end Go.Proofs.YtpkkplojpjakiaaGreat
