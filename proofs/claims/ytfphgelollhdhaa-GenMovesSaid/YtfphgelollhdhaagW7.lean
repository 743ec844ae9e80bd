/- gJ5, gJ6, gJ7, gJ8. -/
import Derived.Test.YtfphgelollhdhaaW1
import Derived.Test.YtfphgelollhdhaaW2
import Derived.Test.YtfphgelollhdhaaW3
import Derived.Test.YtfphgelollhdhaaW4
import Derived.Test.YtfphgelollhdhaagW5
import Derived.Test.YtfphgelollhdhaagW6
set_option linter.unusedVariables false
set_option linter.unusedSimpArgs false
namespace Go.Proofs.Ytfphgelollhdhaa
open Go Go.RowKit
set_option maxRecDepth 100000
def XS : Xts := ⟨xtD [40, 108, 105, 116, 41], xtD [40, 48, 98, 114, 97, 110, 99, 104, 41], xtD [40, 98, 114, 97, 110, 99, 104, 41], xtD [40, 100, 111, 41], xtD [40, 63, 100, 111, 41], xtD [40, 108, 111, 111, 112, 41], xtD [40, 43, 108, 111, 111, 112, 41], xtD [85, 78, 76, 79, 79, 80], xtD [40, 101, 120, 105, 116, 41]⟩
theorem xt_lit : FnC Try.prog 23 [St [40, 108, 105, 116, 41]] (.val (.int .i64 XS.lit)) := xt_c _
theorem xt_zb : FnC Try.prog 23 [St [40, 48, 98, 114, 97, 110, 99, 104, 41]] (.val (.int .i64 XS.zb)) := xt_c _
theorem xt_br : FnC Try.prog 23 [St [40, 98, 114, 97, 110, 99, 104, 41]] (.val (.int .i64 XS.br)) := xt_c _
theorem xt_doo : FnC Try.prog 23 [St [40, 100, 111, 41]] (.val (.int .i64 XS.doo)) := xt_c _
theorem xt_qdo : FnC Try.prog 23 [St [40, 63, 100, 111, 41]] (.val (.int .i64 XS.qdo)) := xt_c _
theorem xt_lp : FnC Try.prog 23 [St [40, 108, 111, 111, 112, 41]] (.val (.int .i64 XS.lp)) := xt_c _
theorem xt_plp : FnC Try.prog 23 [St [40, 43, 108, 111, 111, 112, 41]] (.val (.int .i64 XS.plp)) := xt_c _
theorem xt_unl : FnC Try.prog 23 [St [85, 78, 76, 79, 79, 80]] (.val (.int .i64 XS.unl)) := xt_c _
theorem xt_ex : FnC Try.prog 23 [St [40, 101, 120, 105, 116, 41]] (.val (.int .i64 XS.ex)) := xt_c _
theorem rxt_lit : FnC Try.prog 15 [St [40, 108, 105, 116, 41]] (.val (.int .i64 XS.lit)) := ref_xt_c _
theorem rxt_zb : FnC Try.prog 15 [St [40, 48, 98, 114, 97, 110, 99, 104, 41]] (.val (.int .i64 XS.zb)) := ref_xt_c _
theorem rxt_br : FnC Try.prog 15 [St [40, 98, 114, 97, 110, 99, 104, 41]] (.val (.int .i64 XS.br)) := ref_xt_c _
theorem rxt_doo : FnC Try.prog 15 [St [40, 100, 111, 41]] (.val (.int .i64 XS.doo)) := ref_xt_c _
theorem rxt_qdo : FnC Try.prog 15 [St [40, 63, 100, 111, 41]] (.val (.int .i64 XS.qdo)) := ref_xt_c _
theorem rxt_lp : FnC Try.prog 15 [St [40, 108, 111, 111, 112, 41]] (.val (.int .i64 XS.lp)) := ref_xt_c _
theorem rxt_plp : FnC Try.prog 15 [St [40, 43, 108, 111, 111, 112, 41]] (.val (.int .i64 XS.plp)) := ref_xt_c _
theorem rxt_unl : FnC Try.prog 15 [St [85, 78, 76, 79, 79, 80]] (.val (.int .i64 XS.unl)) := ref_xt_c _
theorem rxt_ex : FnC Try.prog 15 [St [40, 101, 120, 105, 116, 41]] (.val (.int .i64 XS.ex)) := ref_xt_c _
def RowC (t : List Nod) : Prop := ∀ (at_ self en : Int) (out : List Int), out.length + 4 * cntL t ≤ 400000 → FnM Try.prog 21 [.ptr 1000 0 0 0, encTr t] (bsL at_ self en out) (.tup []) (bsE at_ self en (out ++ codL XS self t (wr (at_ + 8 * (out.length : Int))) en))
def PartC (x : Nod) : Prop := ∀ (at_ self en : Int) (out : List Int), out.length + 4 * cntN x ≤ 400000 → FnM Try.prog 26 [.ptr 1000 0 0 0, .agg (NC x)] (bsL at_ self en out) (.tup []) (bsE at_ self en (out ++ codN XS self x (wr (at_ + 8 * (out.length : Int))) en))
attribute [local irreducible] Decidable.decide awp ARun regK toK XS
set_option maxHeartbeats 8000000 in
theorem turn_m (x : Nod) (ok : okD x = true) (hk : x.k = 4 ∨ x.k = 5 ∨ x.k = 6) (ca : RowC x.a) (cb : RowC x.b) (at_ self en : Int) (out : List Int) (hs : out.length + 4 * cntN x ≤ 400000) :
  FnM Try.prog 33 [.ptr 1000 0 0 0, .agg (NC x), .val (.int .i64 (wr (wr (at_ + 8 * (out.length : Int)) + 8 * oneS x)))] (bsL at_ self en out) (.tup []) (bsE at_ self en (out ++ codN XS self x (wr (at_ + 8 * (out.length : Int))) en)) := by
 have b1 := sizS_bound x.a
 have b2 := sizS_bound x.b
 have b3 := cnt_ab x
 have b4 := oneS_bound x
 have oka := (okD_ab ok).1
 have okb := (okD_ab ok).2
 obtain ⟨pos, hpos⟩ : ∃ p, p = wr (at_ + 8 * (out.length : Int)) := ⟨_, rfl⟩
 have c1 := here_l at_ self en out (by omega)
 rw [← hpos] at c1 ⊢
 obtain ⟨E, hE⟩ : ∃ p, p = wr (pos + 8 * oneS x) := ⟨_, rfl⟩
 rw [← hE]
 rcases hk with hk | hk | hk
 ·skip
  have e4 : (x.k == 4) = true := beq_iff_eq.2 hk
  have e6 : (x.k == 6) = false := beq_eq_false_iff_ne.2 (by omega)
  have k1 := ca at_ self en out (by omega)
  rw [← hpos] at k1
  have z1 : ((codL XS self x.a pos en).length : Int) = sizS x.a := codL_len _ _ _ _ _ oka
  obtain ⟨o1, h1⟩ : ∃ o : List Int, o = out ++ codL XS self x.a pos en := ⟨_, rfl⟩
  rw [← h1] at k1
  have y1 : (o1.length : Int) = (out.length : Int) + sizS x.a := by rw [h1, List.length_append]; (try simp only [List.length_cons, List.length_nil]); omega
  have k2 := lay_m at_ self en o1 [XS.zb, pos] (by omega) (by simp)
  obtain ⟨o2, h2⟩ : ∃ o : List Int, o = o1 ++ [XS.zb, pos] := ⟨_, rfl⟩
  rw [← h2] at k2
  have y2 : (o2.length : Int) = (o1.length : Int) + 2 := by rw [h2, List.length_append]; (try simp only [List.length_cons, List.length_nil]); omega
  have hF : out ++ codN XS self x pos en = o2 := by
   rw [codN_eq, ← hE, hk, h2, h1]
   simp []
  rw [hF]
  refine FnM.of_awp (T := tt) (ok := tok) Try.func33 (by kernel_rfl) rfl (by kernel_rfl) (by kernel_rfl) rfl (fun w0 st0 lent c0 => ?_)
  dsimp only [frOf, hpFrom, List.length_cons, List.length_nil]
  (repeat' (first | refine goA ?_ | refine ARun.nilCheckP rfl rfl (guardF_spec rfl) ?_ | refine cX xt_zb ?_ | refine cX xt_br ?_ | refine callAsk 1000 1001 c1 rfl rfl rfl rfl rfl (by (repeat (refine RelL.cons (by first | exact .ptr (j := 0) 0 0 rfl | exact .wk (.same _) (by first | exact .val _ | exact closed_tr _ | exact .agg (NC_closed _)) | exact .wk (.weak _ _ _) (closed_s _)) ?_)); exact RelL.nil _) rfl rfl rfl ?_ | refine callLay 1000 1001 k1 rfl rfl rfl rfl rfl (by (repeat (refine RelL.cons (by first | exact .ptr (j := 0) 0 0 rfl | exact .wk (.same _) (by first | exact .val _ | exact closed_tr _ | exact .agg (NC_closed _)) | exact .wk (.weak _ _ _) (closed_s _)) ?_)); exact RelL.nil _) rfl rfl rfl ?_ | refine callLay 1000 1001 k2 rfl rfl rfl rfl rfl (by (repeat (refine RelL.cons (by first | exact .ptr (j := 0) 0 0 rfl | exact .wk (.same _) (by first | exact .val _ | exact closed_tr _ | exact .agg (NC_closed _)) | exact .wk (.weak _ _ _) (closed_s _)) ?_)); exact RelL.nil _) rfl rfl rfl ?_ | refine goB ?_ | fail))
  (first | exact fin_l rfl rfl rfl rfl rfl | exact awp_ret (fin_l rfl rfl rfl rfl rfl) | (refine awp_skip ?_; exact fin_l rfl rfl rfl rfl rfl) | (refine awp_exit ?_; exact fin_l rfl rfl rfl rfl rfl))
 ·skip
  have e4 : (x.k == 4) = false := beq_eq_false_iff_ne.2 (by omega)
  have e6 : (x.k == 6) = false := beq_eq_false_iff_ne.2 (by omega)
  have k1 := ca at_ self en out (by omega)
  rw [← hpos] at k1
  have z1 : ((codL XS self x.a pos en).length : Int) = sizS x.a := codL_len _ _ _ _ _ oka
  obtain ⟨o1, h1⟩ : ∃ o : List Int, o = out ++ codL XS self x.a pos en := ⟨_, rfl⟩
  rw [← h1] at k1
  have y1 : (o1.length : Int) = (out.length : Int) + sizS x.a := by rw [h1, List.length_append]; (try simp only [List.length_cons, List.length_nil]); omega
  have k2 := lay_m at_ self en o1 [XS.br, pos] (by omega) (by simp)
  obtain ⟨o2, h2⟩ : ∃ o : List Int, o = o1 ++ [XS.br, pos] := ⟨_, rfl⟩
  rw [← h2] at k2
  have y2 : (o2.length : Int) = (o1.length : Int) + 2 := by rw [h2, List.length_append]; (try simp only [List.length_cons, List.length_nil]); omega
  have hF : out ++ codN XS self x pos en = o2 := by
   rw [codN_eq, ← hE, hk, h2, h1]
   simp []
  rw [hF]
  refine FnM.of_awp (T := tt) (ok := tok) Try.func33 (by kernel_rfl) rfl (by kernel_rfl) (by kernel_rfl) rfl (fun w0 st0 lent c0 => ?_)
  dsimp only [frOf, hpFrom, List.length_cons, List.length_nil]
  (repeat' (first | refine goA ?_ | refine ARun.nilCheckP rfl rfl (guardF_spec rfl) ?_ | refine cX xt_zb ?_ | refine cX xt_br ?_ | refine callAsk 1000 1001 c1 rfl rfl rfl rfl rfl (by (repeat (refine RelL.cons (by first | exact .ptr (j := 0) 0 0 rfl | exact .wk (.same _) (by first | exact .val _ | exact closed_tr _ | exact .agg (NC_closed _)) | exact .wk (.weak _ _ _) (closed_s _)) ?_)); exact RelL.nil _) rfl rfl rfl ?_ | refine callLay 1000 1001 k1 rfl rfl rfl rfl rfl (by (repeat (refine RelL.cons (by first | exact .ptr (j := 0) 0 0 rfl | exact .wk (.same _) (by first | exact .val _ | exact closed_tr _ | exact .agg (NC_closed _)) | exact .wk (.weak _ _ _) (closed_s _)) ?_)); exact RelL.nil _) rfl rfl rfl ?_ | refine callLay 1000 1001 k2 rfl rfl rfl rfl rfl (by (repeat (refine RelL.cons (by first | exact .ptr (j := 0) 0 0 rfl | exact .wk (.same _) (by first | exact .val _ | exact closed_tr _ | exact .agg (NC_closed _)) | exact .wk (.weak _ _ _) (closed_s _)) ?_)); exact RelL.nil _) rfl rfl rfl ?_ | refine goB ?_ | fail))
  (first | exact fin_l rfl rfl rfl rfl rfl | exact awp_ret (fin_l rfl rfl rfl rfl rfl) | (refine awp_skip ?_; exact fin_l rfl rfl rfl rfl rfl) | (refine awp_exit ?_; exact fin_l rfl rfl rfl rfl rfl))
 ·skip
  have e4 : (x.k == 4) = false := beq_eq_false_iff_ne.2 (by omega)
  have e6 : (x.k == 6) = true := beq_iff_eq.2 hk
  have k1 := ca at_ self en out (by omega)
  rw [← hpos] at k1
  have z1 : ((codL XS self x.a pos en).length : Int) = sizS x.a := codL_len _ _ _ _ _ oka
  obtain ⟨o1, h1⟩ : ∃ o : List Int, o = out ++ codL XS self x.a pos en := ⟨_, rfl⟩
  rw [← h1] at k1
  have y1 : (o1.length : Int) = (out.length : Int) + sizS x.a := by rw [h1, List.length_append]; (try simp only [List.length_cons, List.length_nil]); omega
  have k2 := lay_m at_ self en o1 [XS.zb, E] (by omega) (by simp)
  obtain ⟨o2, h2⟩ : ∃ o : List Int, o = o1 ++ [XS.zb, E] := ⟨_, rfl⟩
  rw [← h2] at k2
  have y2 : (o2.length : Int) = (o1.length : Int) + 2 := by rw [h2, List.length_append]; (try simp only [List.length_cons, List.length_nil]); omega
  have hB : wr (at_ + 8 * (o2.length : Int)) = wr (pos + 8 * (sizS x.a + 2)) := by rw [hpos, wr_wr, y2, y1]; congr 1; omega
  have k3 := cb at_ self en o2 (by omega)
  rw [hB] at k3
  have z3 : ((codL XS self x.b (wr (pos + 8 * (sizS x.a + 2))) en).length : Int) = sizS x.b := codL_len _ _ _ _ _ okb
  obtain ⟨o3, h3⟩ : ∃ o : List Int, o = o2 ++ codL XS self x.b (wr (pos + 8 * (sizS x.a + 2))) en := ⟨_, rfl⟩
  rw [← h3] at k3
  have y3 : (o3.length : Int) = (o2.length : Int) + sizS x.b := by rw [h3, List.length_append]; (try simp only [List.length_cons, List.length_nil]); omega
  have k4 := lay_m at_ self en o3 [XS.br, pos] (by omega) (by simp)
  obtain ⟨o4, h4⟩ : ∃ o : List Int, o = o3 ++ [XS.br, pos] := ⟨_, rfl⟩
  rw [← h4] at k4
  have y4 : (o4.length : Int) = (o3.length : Int) + 2 := by rw [h4, List.length_append]; (try simp only [List.length_cons, List.length_nil]); omega
  have hF : out ++ codN XS self x pos en = o4 := by
   rw [codN_eq, ← hE, hk, h4, h3, h2, h1]
   simp []
  rw [hF]
  refine FnM.of_awp (T := tt) (ok := tok) Try.func33 (by kernel_rfl) rfl (by kernel_rfl) (by kernel_rfl) rfl (fun w0 st0 lent c0 => ?_)
  dsimp only [frOf, hpFrom, List.length_cons, List.length_nil]
  (repeat' (first | refine goA ?_ | refine ARun.nilCheckP rfl rfl (guardF_spec rfl) ?_ | refine cX xt_zb ?_ | refine cX xt_br ?_ | refine callAsk 1000 1001 c1 rfl rfl rfl rfl rfl (by (repeat (refine RelL.cons (by first | exact .ptr (j := 0) 0 0 rfl | exact .wk (.same _) (by first | exact .val _ | exact closed_tr _ | exact .agg (NC_closed _)) | exact .wk (.weak _ _ _) (closed_s _)) ?_)); exact RelL.nil _) rfl rfl rfl ?_ | refine callLay 1000 1001 k1 rfl rfl rfl rfl rfl (by (repeat (refine RelL.cons (by first | exact .ptr (j := 0) 0 0 rfl | exact .wk (.same _) (by first | exact .val _ | exact closed_tr _ | exact .agg (NC_closed _)) | exact .wk (.weak _ _ _) (closed_s _)) ?_)); exact RelL.nil _) rfl rfl rfl ?_ | refine callLay 1000 1001 k2 rfl rfl rfl rfl rfl (by (repeat (refine RelL.cons (by first | exact .ptr (j := 0) 0 0 rfl | exact .wk (.same _) (by first | exact .val _ | exact closed_tr _ | exact .agg (NC_closed _)) | exact .wk (.weak _ _ _) (closed_s _)) ?_)); exact RelL.nil _) rfl rfl rfl ?_ | refine callLay 1000 1001 k3 rfl rfl rfl rfl rfl (by (repeat (refine RelL.cons (by first | exact .ptr (j := 0) 0 0 rfl | exact .wk (.same _) (by first | exact .val _ | exact closed_tr _ | exact .agg (NC_closed _)) | exact .wk (.weak _ _ _) (closed_s _)) ?_)); exact RelL.nil _) rfl rfl rfl ?_ | refine callLay 1000 1001 k4 rfl rfl rfl rfl rfl (by (repeat (refine RelL.cons (by first | exact .ptr (j := 0) 0 0 rfl | exact .wk (.same _) (by first | exact .val _ | exact closed_tr _ | exact .agg (NC_closed _)) | exact .wk (.weak _ _ _) (closed_s _)) ?_)); exact RelL.nil _) rfl rfl rfl ?_ | refine goB ?_ | fail))
  (first | exact fin_l rfl rfl rfl rfl rfl | exact awp_ret (fin_l rfl rfl rfl rfl rfl) | (refine awp_skip ?_; exact fin_l rfl rfl rfl rfl rfl) | (refine awp_exit ?_; exact fin_l rfl rfl rfl rfl rfl))
set_option maxHeartbeats 8000000 in
theorem loop_m (x : Nod) (ok : okD x = true) (hk0 : x.k = 7 ∨ x.k = 8) (hn : x.n = 0 ∨ x.n = 1) (ca : RowC x.a) (at_ self en : Int) (out : List Int) (hs : out.length + 4 * cntN x ≤ 400000) :
  FnM Try.prog 32 [.ptr 1000 0 0 0, .agg (NC x), .val (.int .i64 (wr (wr (at_ + 8 * (out.length : Int)) + 8 * oneS x)))] (bsL at_ self en out) (.tup []) (bsE at_ self en (out ++ codN XS self x (wr (at_ + 8 * (out.length : Int))) en)) := by
 have b1 := sizS_bound x.a
 have b2 := sizS_bound x.b
 have b3 := cnt_ab x
 have b4 := oneS_bound x
 have oka := (okD_ab ok).1
 have okb := (okD_ab ok).2
 obtain ⟨pos, hpos⟩ : ∃ p, p = wr (at_ + 8 * (out.length : Int)) := ⟨_, rfl⟩
 have c1 := here_l at_ self en out (by omega)
 rw [← hpos] at c1 ⊢
 obtain ⟨E, hE⟩ : ∃ p, p = wr (pos + 8 * oneS x) := ⟨_, rfl⟩
 rw [← hE]
 rcases hk0 with hk | hk <;> rcases hn with hn | hn
 ·skip
  have e8 : (x.k == 8) = false := beq_eq_false_iff_ne.2 (by omega)
  have e0 : (x.n == 1) = false := beq_eq_false_iff_ne.2 (by omega)
  have k1 := lay_m at_ self E out [XS.doo] (by omega) (by simp)
  obtain ⟨o1, h1⟩ : ∃ o : List Int, o = out ++ [XS.doo] := ⟨_, rfl⟩
  rw [← h1] at k1
  have y1 : (o1.length : Int) = (out.length : Int) + 1 := by rw [h1, List.length_append]; (try simp only [List.length_cons, List.length_nil]); omega
  have hA : wr (at_ + 8 * (o1.length : Int)) = wr (pos + 8) := by rw [hpos, wr_wr, y1]; congr 1; omega
  have c2 := here_l at_ self E o1 (by omega)
  rw [hA] at c2
  have k2 := ca at_ self E o1 (by omega)
  rw [hA] at k2
  have z2 : ((codL XS self x.a (wr (pos + 8)) E).length : Int) = sizS x.a := codL_len _ _ _ _ _ oka
  obtain ⟨o2, h2⟩ : ∃ o : List Int, o = o1 ++ codL XS self x.a (wr (pos + 8)) E := ⟨_, rfl⟩
  rw [← h2] at k2
  have y2 : (o2.length : Int) = (o1.length : Int) + sizS x.a := by rw [h2, List.length_append]; (try simp only [List.length_cons, List.length_nil]); omega
  have k3 := lay_m at_ self E o2 [XS.lp, wr (pos + 8)] (by omega) (by simp)
  obtain ⟨o3, h3⟩ : ∃ o : List Int, o = o2 ++ [XS.lp, wr (pos + 8)] := ⟨_, rfl⟩
  rw [← h3] at k3
  have y3 : (o3.length : Int) = (o2.length : Int) + 2 := by rw [h3, List.length_append]; (try simp only [List.length_cons, List.length_nil]); omega
  have hF : out ++ codN XS self x pos en = o3 := by
   rw [codN_eq, ← hE, hk, h3, h2, h1]
   simp [hn]
  rw [hF]
  refine FnM.of_awp (T := tt) (ok := tok) Try.func32 (by kernel_rfl) rfl (by kernel_rfl) (by kernel_rfl) rfl (fun w0 st0 lent c0 => ?_)
  dsimp only [frOf, hpFrom, List.length_cons, List.length_nil]
  (repeat' (first | refine goA ?_ | refine ARun.nilCheckP rfl rfl (guardF_spec rfl) ?_ | refine cX xt_qdo ?_ | refine cX xt_doo ?_ | refine cX xt_lp ?_ | refine callAsk 1000 1001 c2 rfl rfl rfl rfl rfl (by (repeat (refine RelL.cons (by first | exact .ptr (j := 0) 0 0 rfl | exact .wk (.same _) (by first | exact .val _ | exact closed_tr _ | exact .agg (NC_closed _)) | exact .wk (.weak _ _ _) (closed_s _)) ?_)); exact RelL.nil _) rfl rfl rfl ?_ | refine callLay 1000 1001 k1 rfl rfl rfl rfl rfl (by (repeat (refine RelL.cons (by first | exact .ptr (j := 0) 0 0 rfl | exact .wk (.same _) (by first | exact .val _ | exact closed_tr _ | exact .agg (NC_closed _)) | exact .wk (.weak _ _ _) (closed_s _)) ?_)); exact RelL.nil _) rfl rfl rfl ?_ | refine callLay 1000 1001 k2 rfl rfl rfl rfl rfl (by (repeat (refine RelL.cons (by first | exact .ptr (j := 0) 0 0 rfl | exact .wk (.same _) (by first | exact .val _ | exact closed_tr _ | exact .agg (NC_closed _)) | exact .wk (.weak _ _ _) (closed_s _)) ?_)); exact RelL.nil _) rfl rfl rfl ?_ | refine callLay 1000 1001 k3 rfl rfl rfl rfl rfl (by (repeat (refine RelL.cons (by first | exact .ptr (j := 0) 0 0 rfl | exact .wk (.same _) (by first | exact .val _ | exact closed_tr _ | exact .agg (NC_closed _)) | exact .wk (.weak _ _ _) (closed_s _)) ?_)); exact RelL.nil _) rfl rfl rfl ?_ | refine goB ?_ | fail))
  (first | exact fin_l rfl rfl rfl rfl rfl | exact awp_ret (fin_l rfl rfl rfl rfl rfl) | (refine awp_skip ?_; exact fin_l rfl rfl rfl rfl rfl) | (refine awp_exit ?_; exact fin_l rfl rfl rfl rfl rfl))
 ·skip
  have e8 : (x.k == 8) = false := beq_eq_false_iff_ne.2 (by omega)
  have e0 : (x.n == 1) = true := beq_iff_eq.2 hn
  have k1 := lay_m at_ self E out [XS.qdo, E] (by omega) (by simp)
  obtain ⟨o1, h1⟩ : ∃ o : List Int, o = out ++ [XS.qdo, E] := ⟨_, rfl⟩
  rw [← h1] at k1
  have y1 : (o1.length : Int) = (out.length : Int) + 2 := by rw [h1, List.length_append]; (try simp only [List.length_cons, List.length_nil]); omega
  have hA : wr (at_ + 8 * (o1.length : Int)) = wr (pos + 16) := by rw [hpos, wr_wr, y1]; congr 1; omega
  have c2 := here_l at_ self E o1 (by omega)
  rw [hA] at c2
  have k2 := ca at_ self E o1 (by omega)
  rw [hA] at k2
  have z2 : ((codL XS self x.a (wr (pos + 16)) E).length : Int) = sizS x.a := codL_len _ _ _ _ _ oka
  obtain ⟨o2, h2⟩ : ∃ o : List Int, o = o1 ++ codL XS self x.a (wr (pos + 16)) E := ⟨_, rfl⟩
  rw [← h2] at k2
  have y2 : (o2.length : Int) = (o1.length : Int) + sizS x.a := by rw [h2, List.length_append]; (try simp only [List.length_cons, List.length_nil]); omega
  have k3 := lay_m at_ self E o2 [XS.lp, wr (pos + 16)] (by omega) (by simp)
  obtain ⟨o3, h3⟩ : ∃ o : List Int, o = o2 ++ [XS.lp, wr (pos + 16)] := ⟨_, rfl⟩
  rw [← h3] at k3
  have y3 : (o3.length : Int) = (o2.length : Int) + 2 := by rw [h3, List.length_append]; (try simp only [List.length_cons, List.length_nil]); omega
  have hF : out ++ codN XS self x pos en = o3 := by
   rw [codN_eq, ← hE, hk, h3, h2, h1]
   simp [hn]
  rw [hF]
  refine FnM.of_awp (T := tt) (ok := tok) Try.func32 (by kernel_rfl) rfl (by kernel_rfl) (by kernel_rfl) rfl (fun w0 st0 lent c0 => ?_)
  dsimp only [frOf, hpFrom, List.length_cons, List.length_nil]
  (repeat' (first | refine goA ?_ | refine ARun.nilCheckP rfl rfl (guardF_spec rfl) ?_ | refine cX xt_qdo ?_ | refine cX xt_doo ?_ | refine cX xt_lp ?_ | refine callAsk 1000 1001 c2 rfl rfl rfl rfl rfl (by (repeat (refine RelL.cons (by first | exact .ptr (j := 0) 0 0 rfl | exact .wk (.same _) (by first | exact .val _ | exact closed_tr _ | exact .agg (NC_closed _)) | exact .wk (.weak _ _ _) (closed_s _)) ?_)); exact RelL.nil _) rfl rfl rfl ?_ | refine callLay 1000 1001 k1 rfl rfl rfl rfl rfl (by (repeat (refine RelL.cons (by first | exact .ptr (j := 0) 0 0 rfl | exact .wk (.same _) (by first | exact .val _ | exact closed_tr _ | exact .agg (NC_closed _)) | exact .wk (.weak _ _ _) (closed_s _)) ?_)); exact RelL.nil _) rfl rfl rfl ?_ | refine callLay 1000 1001 k2 rfl rfl rfl rfl rfl (by (repeat (refine RelL.cons (by first | exact .ptr (j := 0) 0 0 rfl | exact .wk (.same _) (by first | exact .val _ | exact closed_tr _ | exact .agg (NC_closed _)) | exact .wk (.weak _ _ _) (closed_s _)) ?_)); exact RelL.nil _) rfl rfl rfl ?_ | refine callLay 1000 1001 k3 rfl rfl rfl rfl rfl (by (repeat (refine RelL.cons (by first | exact .ptr (j := 0) 0 0 rfl | exact .wk (.same _) (by first | exact .val _ | exact closed_tr _ | exact .agg (NC_closed _)) | exact .wk (.weak _ _ _) (closed_s _)) ?_)); exact RelL.nil _) rfl rfl rfl ?_ | refine goB ?_ | fail))
  (first | exact fin_l rfl rfl rfl rfl rfl | exact awp_ret (fin_l rfl rfl rfl rfl rfl) | (refine awp_skip ?_; exact fin_l rfl rfl rfl rfl rfl) | (refine awp_exit ?_; exact fin_l rfl rfl rfl rfl rfl))
 ·skip
  have e8 : (x.k == 8) = true := beq_iff_eq.2 hk
  have e0 : (x.n == 1) = false := beq_eq_false_iff_ne.2 (by omega)
  have k1 := lay_m at_ self E out [XS.doo] (by omega) (by simp)
  obtain ⟨o1, h1⟩ : ∃ o : List Int, o = out ++ [XS.doo] := ⟨_, rfl⟩
  rw [← h1] at k1
  have y1 : (o1.length : Int) = (out.length : Int) + 1 := by rw [h1, List.length_append]; (try simp only [List.length_cons, List.length_nil]); omega
  have hA : wr (at_ + 8 * (o1.length : Int)) = wr (pos + 8) := by rw [hpos, wr_wr, y1]; congr 1; omega
  have c2 := here_l at_ self E o1 (by omega)
  rw [hA] at c2
  have k2 := ca at_ self E o1 (by omega)
  rw [hA] at k2
  have z2 : ((codL XS self x.a (wr (pos + 8)) E).length : Int) = sizS x.a := codL_len _ _ _ _ _ oka
  obtain ⟨o2, h2⟩ : ∃ o : List Int, o = o1 ++ codL XS self x.a (wr (pos + 8)) E := ⟨_, rfl⟩
  rw [← h2] at k2
  have y2 : (o2.length : Int) = (o1.length : Int) + sizS x.a := by rw [h2, List.length_append]; (try simp only [List.length_cons, List.length_nil]); omega
  have k3 := lay_m at_ self E o2 [XS.plp, wr (pos + 8)] (by omega) (by simp)
  obtain ⟨o3, h3⟩ : ∃ o : List Int, o = o2 ++ [XS.plp, wr (pos + 8)] := ⟨_, rfl⟩
  rw [← h3] at k3
  have y3 : (o3.length : Int) = (o2.length : Int) + 2 := by rw [h3, List.length_append]; (try simp only [List.length_cons, List.length_nil]); omega
  have hF : out ++ codN XS self x pos en = o3 := by
   rw [codN_eq, ← hE, hk, h3, h2, h1]
   simp [hn]
  rw [hF]
  refine FnM.of_awp (T := tt) (ok := tok) Try.func32 (by kernel_rfl) rfl (by kernel_rfl) (by kernel_rfl) rfl (fun w0 st0 lent c0 => ?_)
  dsimp only [frOf, hpFrom, List.length_cons, List.length_nil]
  (repeat' (first | refine goA ?_ | refine ARun.nilCheckP rfl rfl (guardF_spec rfl) ?_ | refine cX xt_qdo ?_ | refine cX xt_doo ?_ | refine cX xt_plp ?_ | refine callAsk 1000 1001 c2 rfl rfl rfl rfl rfl (by (repeat (refine RelL.cons (by first | exact .ptr (j := 0) 0 0 rfl | exact .wk (.same _) (by first | exact .val _ | exact closed_tr _ | exact .agg (NC_closed _)) | exact .wk (.weak _ _ _) (closed_s _)) ?_)); exact RelL.nil _) rfl rfl rfl ?_ | refine callLay 1000 1001 k1 rfl rfl rfl rfl rfl (by (repeat (refine RelL.cons (by first | exact .ptr (j := 0) 0 0 rfl | exact .wk (.same _) (by first | exact .val _ | exact closed_tr _ | exact .agg (NC_closed _)) | exact .wk (.weak _ _ _) (closed_s _)) ?_)); exact RelL.nil _) rfl rfl rfl ?_ | refine callLay 1000 1001 k2 rfl rfl rfl rfl rfl (by (repeat (refine RelL.cons (by first | exact .ptr (j := 0) 0 0 rfl | exact .wk (.same _) (by first | exact .val _ | exact closed_tr _ | exact .agg (NC_closed _)) | exact .wk (.weak _ _ _) (closed_s _)) ?_)); exact RelL.nil _) rfl rfl rfl ?_ | refine callLay 1000 1001 k3 rfl rfl rfl rfl rfl (by (repeat (refine RelL.cons (by first | exact .ptr (j := 0) 0 0 rfl | exact .wk (.same _) (by first | exact .val _ | exact closed_tr _ | exact .agg (NC_closed _)) | exact .wk (.weak _ _ _) (closed_s _)) ?_)); exact RelL.nil _) rfl rfl rfl ?_ | refine goB ?_ | fail))
  (first | exact fin_l rfl rfl rfl rfl rfl | exact awp_ret (fin_l rfl rfl rfl rfl rfl) | (refine awp_skip ?_; exact fin_l rfl rfl rfl rfl rfl) | (refine awp_exit ?_; exact fin_l rfl rfl rfl rfl rfl))
 ·skip
  have e8 : (x.k == 8) = true := beq_iff_eq.2 hk
  have e0 : (x.n == 1) = true := beq_iff_eq.2 hn
  have k1 := lay_m at_ self E out [XS.qdo, E] (by omega) (by simp)
  obtain ⟨o1, h1⟩ : ∃ o : List Int, o = out ++ [XS.qdo, E] := ⟨_, rfl⟩
  rw [← h1] at k1
  have y1 : (o1.length : Int) = (out.length : Int) + 2 := by rw [h1, List.length_append]; (try simp only [List.length_cons, List.length_nil]); omega
  have hA : wr (at_ + 8 * (o1.length : Int)) = wr (pos + 16) := by rw [hpos, wr_wr, y1]; congr 1; omega
  have c2 := here_l at_ self E o1 (by omega)
  rw [hA] at c2
  have k2 := ca at_ self E o1 (by omega)
  rw [hA] at k2
  have z2 : ((codL XS self x.a (wr (pos + 16)) E).length : Int) = sizS x.a := codL_len _ _ _ _ _ oka
  obtain ⟨o2, h2⟩ : ∃ o : List Int, o = o1 ++ codL XS self x.a (wr (pos + 16)) E := ⟨_, rfl⟩
  rw [← h2] at k2
  have y2 : (o2.length : Int) = (o1.length : Int) + sizS x.a := by rw [h2, List.length_append]; (try simp only [List.length_cons, List.length_nil]); omega
  have k3 := lay_m at_ self E o2 [XS.plp, wr (pos + 16)] (by omega) (by simp)
  obtain ⟨o3, h3⟩ : ∃ o : List Int, o = o2 ++ [XS.plp, wr (pos + 16)] := ⟨_, rfl⟩
  rw [← h3] at k3
  have y3 : (o3.length : Int) = (o2.length : Int) + 2 := by rw [h3, List.length_append]; (try simp only [List.length_cons, List.length_nil]); omega
  have hF : out ++ codN XS self x pos en = o3 := by
   rw [codN_eq, ← hE, hk, h3, h2, h1]
   simp [hn]
  rw [hF]
  refine FnM.of_awp (T := tt) (ok := tok) Try.func32 (by kernel_rfl) rfl (by kernel_rfl) (by kernel_rfl) rfl (fun w0 st0 lent c0 => ?_)
  dsimp only [frOf, hpFrom, List.length_cons, List.length_nil]
  (repeat' (first | refine goA ?_ | refine ARun.nilCheckP rfl rfl (guardF_spec rfl) ?_ | refine cX xt_qdo ?_ | refine cX xt_doo ?_ | refine cX xt_plp ?_ | refine callAsk 1000 1001 c2 rfl rfl rfl rfl rfl (by (repeat (refine RelL.cons (by first | exact .ptr (j := 0) 0 0 rfl | exact .wk (.same _) (by first | exact .val _ | exact closed_tr _ | exact .agg (NC_closed _)) | exact .wk (.weak _ _ _) (closed_s _)) ?_)); exact RelL.nil _) rfl rfl rfl ?_ | refine callLay 1000 1001 k1 rfl rfl rfl rfl rfl (by (repeat (refine RelL.cons (by first | exact .ptr (j := 0) 0 0 rfl | exact .wk (.same _) (by first | exact .val _ | exact closed_tr _ | exact .agg (NC_closed _)) | exact .wk (.weak _ _ _) (closed_s _)) ?_)); exact RelL.nil _) rfl rfl rfl ?_ | refine callLay 1000 1001 k2 rfl rfl rfl rfl rfl (by (repeat (refine RelL.cons (by first | exact .ptr (j := 0) 0 0 rfl | exact .wk (.same _) (by first | exact .val _ | exact closed_tr _ | exact .agg (NC_closed _)) | exact .wk (.weak _ _ _) (closed_s _)) ?_)); exact RelL.nil _) rfl rfl rfl ?_ | refine callLay 1000 1001 k3 rfl rfl rfl rfl rfl (by (repeat (refine RelL.cons (by first | exact .ptr (j := 0) 0 0 rfl | exact .wk (.same _) (by first | exact .val _ | exact closed_tr _ | exact .agg (NC_closed _)) | exact .wk (.weak _ _ _) (closed_s _)) ?_)); exact RelL.nil _) rfl rfl rfl ?_ | refine goB ?_ | fail))
  (first | exact fin_l rfl rfl rfl rfl rfl | exact awp_ret (fin_l rfl rfl rfl rfl rfl) | (refine awp_skip ?_; exact fin_l rfl rfl rfl rfl rfl) | (refine awp_exit ?_; exact fin_l rfl rfl rfl rfl rfl))
end Go.Proofs.Ytfphgelollhdhaa
namespace Go.Proofs.Ytfphgelollhdhaa
open Go Go.RowKit
set_option maxRecDepth 100000
attribute [local irreducible] Decidable.decide awp ARun regK toK XS
set_option maxHeartbeats 8000000 in
theorem part_1 (x : Nod) (ok : okD x = true) (hk : x.k = 1) (ca : RowC x.a) (cb : RowC x.b) : PartC x := by
 intro at_ self en out hs
 have ksz := siz_c x.a (okD_ab ok).1 (by have := cnt_ab x; omega)
 have kone := one_c x ok (by omega) (siz_c x.a (okD_ab ok).1 (by have := cnt_ab x; omega)) (siz_c x.b (okD_ab ok).2 (by have := cnt_ab x; omega))
 unfold SizC at ksz
 have ct := fun h => turn_m x ok h ca cb at_ self en out hs
 have cl := fun h h' => loop_m x ok h h' ca at_ self en out hs
 have kb := behind_l at_ self en (oneS x) out (by omega) (by have := oneS_bound x; omega)
 have kb2 := behind_l at_ self en (4 + sizS x.a) out (by omega) (by have := sizS_bound x.a; have := cnt_ab x; omega)
 have b1 := sizS_bound x.a
 have b2 := sizS_bound x.b
 have b3 := cnt_ab x
 have b4 := oneS_bound x
 have oka := (okD_ab ok).1
 have okb := (okD_ab ok).2
 obtain ⟨pos, hpos⟩ : ∃ p, p = wr (at_ + 8 * (out.length : Int)) := ⟨_, rfl⟩
 have c1 := here_l at_ self en out (by omega)
 rw [← hpos] at c1 kb kb2 ct cl ⊢
 obtain ⟨E, hE⟩ : ∃ p, p = wr (pos + 8 * oneS x) := ⟨_, rfl⟩
 rw [← hE] at kb ct cl
 have e1 : (x.k == 1) = true := beq_iff_eq.2 hk
 have e2 : (x.k == 2) = false := beq_eq_false_iff_ne.2 (by omega)
 have e11 : (x.k == 11) = false := beq_eq_false_iff_ne.2 (by omega)
 have e10 : (x.k == 10) = false := beq_eq_false_iff_ne.2 (by omega)
 have e9 : (x.k == 9) = false := beq_eq_false_iff_ne.2 (by omega)
 have e3 : (x.k == 3) = false := beq_eq_false_iff_ne.2 (by omega)
 have e7 : (x.k == 7) = false := beq_eq_false_iff_ne.2 (by omega)
 have e8 : (x.k == 8) = false := beq_eq_false_iff_ne.2 (by omega)
 have k1 := lay_m at_ self en out [XS.lit] (by omega) (by simp)
 obtain ⟨o1, h1⟩ : ∃ o : List Int, o = out ++ [XS.lit] := ⟨_, rfl⟩
 rw [← h1] at k1
 have y1 : (o1.length : Int) = (out.length : Int) + 1 := by rw [h1, List.length_append]; (try simp only [List.length_cons, List.length_nil]); omega
 have k2 := lay_m at_ self en o1 [x.n] (by omega) (by simp)
 obtain ⟨o2, h2⟩ : ∃ o : List Int, o = o1 ++ [x.n] := ⟨_, rfl⟩
 rw [← h2] at k2
 have y2 : (o2.length : Int) = (o1.length : Int) + 1 := by rw [h2, List.length_append]; (try simp only [List.length_cons, List.length_nil]); omega
 have hF : out ++ codN XS self x pos en = o2 := by
  rw [codN_eq, ← hE, hk, h2, h1]
  simp []
 rw [hF]
 refine FnM.of_awp (T := tt) (ok := tok) Try.func26 (by kernel_rfl) rfl (by kernel_rfl) (by kernel_rfl) rfl (fun w0 st0 lent c0 => ?_)
 dsimp only [frOf, hpFrom, List.length_cons, List.length_nil]
 (repeat' (first | refine goA ?_ | refine ARun.nilCheckP rfl rfl (guardF_spec rfl) ?_ | refine cX kone ?_ | refine callAsk 1000 1001 kb rfl rfl rfl rfl rfl (by (repeat (refine RelL.cons (by first | exact .ptr (j := 0) 0 0 rfl | exact .wk (.same _) (by first | exact .val _ | exact closed_tr _ | exact .agg (NC_closed _)) | exact .wk (.weak _ _ _) (closed_s _)) ?_)); exact RelL.nil _) rfl rfl rfl ?_ | refine cX xt_lit ?_ | refine callLay 1000 1001 k1 rfl rfl rfl rfl rfl (by (repeat (refine RelL.cons (by first | exact .ptr (j := 0) 0 0 rfl | exact .wk (.same _) (by first | exact .val _ | exact closed_tr _ | exact .agg (NC_closed _)) | exact .wk (.weak _ _ _) (closed_s _)) ?_)); exact RelL.nil _) rfl rfl rfl ?_ | refine callLay 1000 1001 k2 rfl rfl rfl rfl rfl (by (repeat (refine RelL.cons (by first | exact .ptr (j := 0) 0 0 rfl | exact .wk (.same _) (by first | exact .val _ | exact closed_tr _ | exact .agg (NC_closed _)) | exact .wk (.weak _ _ _) (closed_s _)) ?_)); exact RelL.nil _) rfl rfl rfl ?_ | refine goB ?_ | fail))
 (first | exact fin_l rfl rfl rfl rfl rfl | exact awp_ret (fin_l rfl rfl rfl rfl rfl) | (refine awp_skip ?_; exact fin_l rfl rfl rfl rfl rfl) | (refine awp_exit ?_; exact fin_l rfl rfl rfl rfl rfl))
set_option maxHeartbeats 8000000 in
theorem part_2 (x : Nod) (ok : okD x = true) (hk : x.k = 2) (ca : RowC x.a) (cb : RowC x.b) : PartC x := by
 intro at_ self en out hs
 have ksz := siz_c x.a (okD_ab ok).1 (by have := cnt_ab x; omega)
 have kone := one_c x ok (by omega) (siz_c x.a (okD_ab ok).1 (by have := cnt_ab x; omega)) (siz_c x.b (okD_ab ok).2 (by have := cnt_ab x; omega))
 unfold SizC at ksz
 have ct := fun h => turn_m x ok h ca cb at_ self en out hs
 have cl := fun h h' => loop_m x ok h h' ca at_ self en out hs
 have kb := behind_l at_ self en (oneS x) out (by omega) (by have := oneS_bound x; omega)
 have kb2 := behind_l at_ self en (4 + sizS x.a) out (by omega) (by have := sizS_bound x.a; have := cnt_ab x; omega)
 have b1 := sizS_bound x.a
 have b2 := sizS_bound x.b
 have b3 := cnt_ab x
 have b4 := oneS_bound x
 have oka := (okD_ab ok).1
 have okb := (okD_ab ok).2
 obtain ⟨pos, hpos⟩ : ∃ p, p = wr (at_ + 8 * (out.length : Int)) := ⟨_, rfl⟩
 have c1 := here_l at_ self en out (by omega)
 rw [← hpos] at c1 kb kb2 ct cl ⊢
 obtain ⟨E, hE⟩ : ∃ p, p = wr (pos + 8 * oneS x) := ⟨_, rfl⟩
 rw [← hE] at kb ct cl
 have e1 : (x.k == 1) = false := beq_eq_false_iff_ne.2 (by omega)
 have e2 : (x.k == 2) = true := beq_iff_eq.2 hk
 have e11 : (x.k == 11) = false := beq_eq_false_iff_ne.2 (by omega)
 have e10 : (x.k == 10) = false := beq_eq_false_iff_ne.2 (by omega)
 have e9 : (x.k == 9) = false := beq_eq_false_iff_ne.2 (by omega)
 have e3 : (x.k == 3) = false := beq_eq_false_iff_ne.2 (by omega)
 have e7 : (x.k == 7) = false := beq_eq_false_iff_ne.2 (by omega)
 have e8 : (x.k == 8) = false := beq_eq_false_iff_ne.2 (by omega)
 have k1 := lay_m at_ self en out [x.n] (by omega) (by simp)
 obtain ⟨o1, h1⟩ : ∃ o : List Int, o = out ++ [x.n] := ⟨_, rfl⟩
 rw [← h1] at k1
 have y1 : (o1.length : Int) = (out.length : Int) + 1 := by rw [h1, List.length_append]; (try simp only [List.length_cons, List.length_nil]); omega
 have hF : out ++ codN XS self x pos en = o1 := by
  rw [codN_eq, ← hE, hk, h1]
  simp []
 rw [hF]
 refine FnM.of_awp (T := tt) (ok := tok) Try.func26 (by kernel_rfl) rfl (by kernel_rfl) (by kernel_rfl) rfl (fun w0 st0 lent c0 => ?_)
 dsimp only [frOf, hpFrom, List.length_cons, List.length_nil]
 (repeat' (first | refine goA ?_ | refine ARun.nilCheckP rfl rfl (guardF_spec rfl) ?_ | refine cX kone ?_ | refine callAsk 1000 1001 kb rfl rfl rfl rfl rfl (by (repeat (refine RelL.cons (by first | exact .ptr (j := 0) 0 0 rfl | exact .wk (.same _) (by first | exact .val _ | exact closed_tr _ | exact .agg (NC_closed _)) | exact .wk (.weak _ _ _) (closed_s _)) ?_)); exact RelL.nil _) rfl rfl rfl ?_ | refine callLay 1000 1001 k1 rfl rfl rfl rfl rfl (by (repeat (refine RelL.cons (by first | exact .ptr (j := 0) 0 0 rfl | exact .wk (.same _) (by first | exact .val _ | exact closed_tr _ | exact .agg (NC_closed _)) | exact .wk (.weak _ _ _) (closed_s _)) ?_)); exact RelL.nil _) rfl rfl rfl ?_ | refine goB ?_ | fail))
 (first | exact fin_l rfl rfl rfl rfl rfl | exact awp_ret (fin_l rfl rfl rfl rfl rfl) | (refine awp_skip ?_; exact fin_l rfl rfl rfl rfl rfl) | (refine awp_exit ?_; exact fin_l rfl rfl rfl rfl rfl))
set_option maxHeartbeats 8000000 in
theorem part_9 (x : Nod) (ok : okD x = true) (hk : x.k = 9) (ca : RowC x.a) (cb : RowC x.b) : PartC x := by
 intro at_ self en out hs
 have ksz := siz_c x.a (okD_ab ok).1 (by have := cnt_ab x; omega)
 have kone := one_c x ok (by omega) (siz_c x.a (okD_ab ok).1 (by have := cnt_ab x; omega)) (siz_c x.b (okD_ab ok).2 (by have := cnt_ab x; omega))
 unfold SizC at ksz
 have ct := fun h => turn_m x ok h ca cb at_ self en out hs
 have cl := fun h h' => loop_m x ok h h' ca at_ self en out hs
 have kb := behind_l at_ self en (oneS x) out (by omega) (by have := oneS_bound x; omega)
 have kb2 := behind_l at_ self en (4 + sizS x.a) out (by omega) (by have := sizS_bound x.a; have := cnt_ab x; omega)
 have b1 := sizS_bound x.a
 have b2 := sizS_bound x.b
 have b3 := cnt_ab x
 have b4 := oneS_bound x
 have oka := (okD_ab ok).1
 have okb := (okD_ab ok).2
 obtain ⟨pos, hpos⟩ : ∃ p, p = wr (at_ + 8 * (out.length : Int)) := ⟨_, rfl⟩
 have c1 := here_l at_ self en out (by omega)
 rw [← hpos] at c1 kb kb2 ct cl ⊢
 obtain ⟨E, hE⟩ : ∃ p, p = wr (pos + 8 * oneS x) := ⟨_, rfl⟩
 rw [← hE] at kb ct cl
 have e1 : (x.k == 1) = false := beq_eq_false_iff_ne.2 (by omega)
 have e2 : (x.k == 2) = false := beq_eq_false_iff_ne.2 (by omega)
 have e11 : (x.k == 11) = false := beq_eq_false_iff_ne.2 (by omega)
 have e10 : (x.k == 10) = false := beq_eq_false_iff_ne.2 (by omega)
 have e9 : (x.k == 9) = true := beq_iff_eq.2 hk
 have e3 : (x.k == 3) = false := beq_eq_false_iff_ne.2 (by omega)
 have e7 : (x.k == 7) = false := beq_eq_false_iff_ne.2 (by omega)
 have e8 : (x.k == 8) = false := beq_eq_false_iff_ne.2 (by omega)
 have k1 := lay_m at_ self en out [XS.unl, XS.br, en] (by omega) (by simp)
 obtain ⟨o1, h1⟩ : ∃ o : List Int, o = out ++ [XS.unl, XS.br, en] := ⟨_, rfl⟩
 rw [← h1] at k1
 have y1 : (o1.length : Int) = (out.length : Int) + 3 := by rw [h1, List.length_append]; (try simp only [List.length_cons, List.length_nil]); omega
 have hF : out ++ codN XS self x pos en = o1 := by
  rw [codN_eq, ← hE, hk, h1]
  simp []
 rw [hF]
 refine FnM.of_awp (T := tt) (ok := tok) Try.func26 (by kernel_rfl) rfl (by kernel_rfl) (by kernel_rfl) rfl (fun w0 st0 lent c0 => ?_)
 dsimp only [frOf, hpFrom, List.length_cons, List.length_nil]
 (repeat' (first | refine goA ?_ | refine ARun.nilCheckP rfl rfl (guardF_spec rfl) ?_ | refine cX kone ?_ | refine callAsk 1000 1001 kb rfl rfl rfl rfl rfl (by (repeat (refine RelL.cons (by first | exact .ptr (j := 0) 0 0 rfl | exact .wk (.same _) (by first | exact .val _ | exact closed_tr _ | exact .agg (NC_closed _)) | exact .wk (.weak _ _ _) (closed_s _)) ?_)); exact RelL.nil _) rfl rfl rfl ?_ | refine cX xt_unl ?_ | refine cX xt_br ?_ | refine callLay 1000 1001 k1 rfl rfl rfl rfl rfl (by (repeat (refine RelL.cons (by first | exact .ptr (j := 0) 0 0 rfl | exact .wk (.same _) (by first | exact .val _ | exact closed_tr _ | exact .agg (NC_closed _)) | exact .wk (.weak _ _ _) (closed_s _)) ?_)); exact RelL.nil _) rfl rfl rfl ?_ | refine goB ?_ | fail))
 (first | exact fin_l rfl rfl rfl rfl rfl | exact awp_ret (fin_l rfl rfl rfl rfl rfl) | (refine awp_skip ?_; exact fin_l rfl rfl rfl rfl rfl) | (refine awp_exit ?_; exact fin_l rfl rfl rfl rfl rfl))
set_option maxHeartbeats 8000000 in
theorem part_10 (x : Nod) (ok : okD x = true) (hk : x.k = 10) (ca : RowC x.a) (cb : RowC x.b) : PartC x := by
 intro at_ self en out hs
 have ksz := siz_c x.a (okD_ab ok).1 (by have := cnt_ab x; omega)
 have kone := one_c x ok (by omega) (siz_c x.a (okD_ab ok).1 (by have := cnt_ab x; omega)) (siz_c x.b (okD_ab ok).2 (by have := cnt_ab x; omega))
 unfold SizC at ksz
 have ct := fun h => turn_m x ok h ca cb at_ self en out hs
 have cl := fun h h' => loop_m x ok h h' ca at_ self en out hs
 have kb := behind_l at_ self en (oneS x) out (by omega) (by have := oneS_bound x; omega)
 have kb2 := behind_l at_ self en (4 + sizS x.a) out (by omega) (by have := sizS_bound x.a; have := cnt_ab x; omega)
 have b1 := sizS_bound x.a
 have b2 := sizS_bound x.b
 have b3 := cnt_ab x
 have b4 := oneS_bound x
 have oka := (okD_ab ok).1
 have okb := (okD_ab ok).2
 obtain ⟨pos, hpos⟩ : ∃ p, p = wr (at_ + 8 * (out.length : Int)) := ⟨_, rfl⟩
 have c1 := here_l at_ self en out (by omega)
 rw [← hpos] at c1 kb kb2 ct cl ⊢
 obtain ⟨E, hE⟩ : ∃ p, p = wr (pos + 8 * oneS x) := ⟨_, rfl⟩
 rw [← hE] at kb ct cl
 have e1 : (x.k == 1) = false := beq_eq_false_iff_ne.2 (by omega)
 have e2 : (x.k == 2) = false := beq_eq_false_iff_ne.2 (by omega)
 have e11 : (x.k == 11) = false := beq_eq_false_iff_ne.2 (by omega)
 have e10 : (x.k == 10) = true := beq_iff_eq.2 hk
 have e9 : (x.k == 9) = false := beq_eq_false_iff_ne.2 (by omega)
 have e3 : (x.k == 3) = false := beq_eq_false_iff_ne.2 (by omega)
 have e7 : (x.k == 7) = false := beq_eq_false_iff_ne.2 (by omega)
 have e8 : (x.k == 8) = false := beq_eq_false_iff_ne.2 (by omega)
 have k1 := lay_m at_ self en out [XS.ex] (by omega) (by simp)
 obtain ⟨o1, h1⟩ : ∃ o : List Int, o = out ++ [XS.ex] := ⟨_, rfl⟩
 rw [← h1] at k1
 have y1 : (o1.length : Int) = (out.length : Int) + 1 := by rw [h1, List.length_append]; (try simp only [List.length_cons, List.length_nil]); omega
 have hF : out ++ codN XS self x pos en = o1 := by
  rw [codN_eq, ← hE, hk, h1]
  simp []
 rw [hF]
 refine FnM.of_awp (T := tt) (ok := tok) Try.func26 (by kernel_rfl) rfl (by kernel_rfl) (by kernel_rfl) rfl (fun w0 st0 lent c0 => ?_)
 dsimp only [frOf, hpFrom, List.length_cons, List.length_nil]
 (repeat' (first | refine goA ?_ | refine ARun.nilCheckP rfl rfl (guardF_spec rfl) ?_ | refine cX kone ?_ | refine callAsk 1000 1001 kb rfl rfl rfl rfl rfl (by (repeat (refine RelL.cons (by first | exact .ptr (j := 0) 0 0 rfl | exact .wk (.same _) (by first | exact .val _ | exact closed_tr _ | exact .agg (NC_closed _)) | exact .wk (.weak _ _ _) (closed_s _)) ?_)); exact RelL.nil _) rfl rfl rfl ?_ | refine cX xt_ex ?_ | refine callLay 1000 1001 k1 rfl rfl rfl rfl rfl (by (repeat (refine RelL.cons (by first | exact .ptr (j := 0) 0 0 rfl | exact .wk (.same _) (by first | exact .val _ | exact closed_tr _ | exact .agg (NC_closed _)) | exact .wk (.weak _ _ _) (closed_s _)) ?_)); exact RelL.nil _) rfl rfl rfl ?_ | refine goB ?_ | fail))
 (first | exact fin_l rfl rfl rfl rfl rfl | exact awp_ret (fin_l rfl rfl rfl rfl rfl) | (refine awp_skip ?_; exact fin_l rfl rfl rfl rfl rfl) | (refine awp_exit ?_; exact fin_l rfl rfl rfl rfl rfl))
set_option maxHeartbeats 8000000 in
theorem part_11 (x : Nod) (ok : okD x = true) (hk : x.k = 11) (ca : RowC x.a) (cb : RowC x.b) : PartC x := by
 intro at_ self en out hs
 have ksz := siz_c x.a (okD_ab ok).1 (by have := cnt_ab x; omega)
 have kone := one_c x ok (by omega) (siz_c x.a (okD_ab ok).1 (by have := cnt_ab x; omega)) (siz_c x.b (okD_ab ok).2 (by have := cnt_ab x; omega))
 unfold SizC at ksz
 have ct := fun h => turn_m x ok h ca cb at_ self en out hs
 have cl := fun h h' => loop_m x ok h h' ca at_ self en out hs
 have kb := behind_l at_ self en (oneS x) out (by omega) (by have := oneS_bound x; omega)
 have kb2 := behind_l at_ self en (4 + sizS x.a) out (by omega) (by have := sizS_bound x.a; have := cnt_ab x; omega)
 have b1 := sizS_bound x.a
 have b2 := sizS_bound x.b
 have b3 := cnt_ab x
 have b4 := oneS_bound x
 have oka := (okD_ab ok).1
 have okb := (okD_ab ok).2
 obtain ⟨pos, hpos⟩ : ∃ p, p = wr (at_ + 8 * (out.length : Int)) := ⟨_, rfl⟩
 have c1 := here_l at_ self en out (by omega)
 rw [← hpos] at c1 kb kb2 ct cl ⊢
 obtain ⟨E, hE⟩ : ∃ p, p = wr (pos + 8 * oneS x) := ⟨_, rfl⟩
 rw [← hE] at kb ct cl
 have e1 : (x.k == 1) = false := beq_eq_false_iff_ne.2 (by omega)
 have e2 : (x.k == 2) = false := beq_eq_false_iff_ne.2 (by omega)
 have e11 : (x.k == 11) = true := beq_iff_eq.2 hk
 have e10 : (x.k == 10) = false := beq_eq_false_iff_ne.2 (by omega)
 have e9 : (x.k == 9) = false := beq_eq_false_iff_ne.2 (by omega)
 have e3 : (x.k == 3) = false := beq_eq_false_iff_ne.2 (by omega)
 have e7 : (x.k == 7) = false := beq_eq_false_iff_ne.2 (by omega)
 have e8 : (x.k == 8) = false := beq_eq_false_iff_ne.2 (by omega)
 have k1 := lay_m at_ self en out [self] (by omega) (by simp)
 obtain ⟨o1, h1⟩ : ∃ o : List Int, o = out ++ [self] := ⟨_, rfl⟩
 rw [← h1] at k1
 have y1 : (o1.length : Int) = (out.length : Int) + 1 := by rw [h1, List.length_append]; (try simp only [List.length_cons, List.length_nil]); omega
 have hF : out ++ codN XS self x pos en = o1 := by
  rw [codN_eq, ← hE, hk, h1]
  simp []
 rw [hF]
 refine FnM.of_awp (T := tt) (ok := tok) Try.func26 (by kernel_rfl) rfl (by kernel_rfl) (by kernel_rfl) rfl (fun w0 st0 lent c0 => ?_)
 dsimp only [frOf, hpFrom, List.length_cons, List.length_nil]
 (repeat' (first | refine goA ?_ | refine ARun.nilCheckP rfl rfl (guardF_spec rfl) ?_ | refine cX kone ?_ | refine callAsk 1000 1001 kb rfl rfl rfl rfl rfl (by (repeat (refine RelL.cons (by first | exact .ptr (j := 0) 0 0 rfl | exact .wk (.same _) (by first | exact .val _ | exact closed_tr _ | exact .agg (NC_closed _)) | exact .wk (.weak _ _ _) (closed_s _)) ?_)); exact RelL.nil _) rfl rfl rfl ?_ | refine callLay 1000 1001 k1 rfl rfl rfl rfl rfl (by (repeat (refine RelL.cons (by first | exact .ptr (j := 0) 0 0 rfl | exact .wk (.same _) (by first | exact .val _ | exact closed_tr _ | exact .agg (NC_closed _)) | exact .wk (.weak _ _ _) (closed_s _)) ?_)); exact RelL.nil _) rfl rfl rfl ?_ | refine goB ?_ | fail))
 (first | exact fin_l rfl rfl rfl rfl rfl | exact awp_ret (fin_l rfl rfl rfl rfl rfl) | (refine awp_skip ?_; exact fin_l rfl rfl rfl rfl rfl) | (refine awp_exit ?_; exact fin_l rfl rfl rfl rfl rfl))
set_option maxHeartbeats 8000000 in
theorem part_31 (x : Nod) (ok : okD x = true) (hk : x.k = 3) (hn : x.n = 1) (ca : RowC x.a) (cb : RowC x.b) : PartC x := by
 intro at_ self en out hs
 have ksz := siz_c x.a (okD_ab ok).1 (by have := cnt_ab x; omega)
 have kone := one_c x ok (by omega) (siz_c x.a (okD_ab ok).1 (by have := cnt_ab x; omega)) (siz_c x.b (okD_ab ok).2 (by have := cnt_ab x; omega))
 unfold SizC at ksz
 have ct := fun h => turn_m x ok h ca cb at_ self en out hs
 have cl := fun h h' => loop_m x ok h h' ca at_ self en out hs
 have kb := behind_l at_ self en (oneS x) out (by omega) (by have := oneS_bound x; omega)
 have kb2 := behind_l at_ self en (4 + sizS x.a) out (by omega) (by have := sizS_bound x.a; have := cnt_ab x; omega)
 have b1 := sizS_bound x.a
 have b2 := sizS_bound x.b
 have b3 := cnt_ab x
 have b4 := oneS_bound x
 have oka := (okD_ab ok).1
 have okb := (okD_ab ok).2
 obtain ⟨pos, hpos⟩ : ∃ p, p = wr (at_ + 8 * (out.length : Int)) := ⟨_, rfl⟩
 have c1 := here_l at_ self en out (by omega)
 rw [← hpos] at c1 kb kb2 ct cl ⊢
 obtain ⟨E, hE⟩ : ∃ p, p = wr (pos + 8 * oneS x) := ⟨_, rfl⟩
 rw [← hE] at kb ct cl
 have e1 : (x.k == 1) = false := beq_eq_false_iff_ne.2 (by omega)
 have e2 : (x.k == 2) = false := beq_eq_false_iff_ne.2 (by omega)
 have e11 : (x.k == 11) = false := beq_eq_false_iff_ne.2 (by omega)
 have e10 : (x.k == 10) = false := beq_eq_false_iff_ne.2 (by omega)
 have e9 : (x.k == 9) = false := beq_eq_false_iff_ne.2 (by omega)
 have e3 : (x.k == 3) = true := beq_iff_eq.2 hk
 have e7 : (x.k == 7) = false := beq_eq_false_iff_ne.2 (by omega)
 have e8 : (x.k == 8) = false := beq_eq_false_iff_ne.2 (by omega)
 have e0 : (x.n == 0) = false := beq_eq_false_iff_ne.2 (by omega)
 obtain ⟨S, hS⟩ : ∃ p, p = wr (pos + 8 * (4 + sizS x.a)) := ⟨_, rfl⟩
 rw [← hS] at kb2
 have k1 := lay_m at_ self en out [XS.zb, S] (by omega) (by simp)
 obtain ⟨o1, h1⟩ : ∃ o : List Int, o = out ++ [XS.zb, S] := ⟨_, rfl⟩
 rw [← h1] at k1
 have y1 : (o1.length : Int) = (out.length : Int) + 2 := by rw [h1, List.length_append]; (try simp only [List.length_cons, List.length_nil]); omega
 have hA : wr (at_ + 8 * (o1.length : Int)) = wr (pos + 16) := by rw [hpos, wr_wr, y1]; congr 1; omega
 have k2 := ca at_ self en o1 (by omega)
 rw [hA] at k2
 have z2 : ((codL XS self x.a (wr (pos + 16)) en).length : Int) = sizS x.a := codL_len _ _ _ _ _ oka
 obtain ⟨o2, h2⟩ : ∃ o : List Int, o = o1 ++ codL XS self x.a (wr (pos + 16)) en := ⟨_, rfl⟩
 rw [← h2] at k2
 have y2 : (o2.length : Int) = (o1.length : Int) + sizS x.a := by rw [h2, List.length_append]; (try simp only [List.length_cons, List.length_nil]); omega
 have k3 := lay_m at_ self en o2 [XS.br, E] (by omega) (by simp)
 obtain ⟨o3, h3⟩ : ∃ o : List Int, o = o2 ++ [XS.br, E] := ⟨_, rfl⟩
 rw [← h3] at k3
 have y3 : (o3.length : Int) = (o2.length : Int) + 2 := by rw [h3, List.length_append]; (try simp only [List.length_cons, List.length_nil]); omega
 have hB : wr (at_ + 8 * (o3.length : Int)) = S := by rw [hS, hpos, wr_wr, y3, y2, y1]; congr 1; omega
 have k4 := cb at_ self en o3 (by omega)
 rw [hB] at k4
 have z4 : ((codL XS self x.b S en).length : Int) = sizS x.b := codL_len _ _ _ _ _ okb
 obtain ⟨o4, h4⟩ : ∃ o : List Int, o = o3 ++ codL XS self x.b S en := ⟨_, rfl⟩
 rw [← h4] at k4
 have y4 : (o4.length : Int) = (o3.length : Int) + sizS x.b := by rw [h4, List.length_append]; (try simp only [List.length_cons, List.length_nil]); omega
 have hF : out ++ codN XS self x pos en = o4 := by
  rw [codN_eq, ← hE, hk, h4, h3, h2, h1]
  simp [hn, ← hS]
 rw [hF]
 refine FnM.of_awp (T := tt) (ok := tok) Try.func26 (by kernel_rfl) rfl (by kernel_rfl) (by kernel_rfl) rfl (fun w0 st0 lent c0 => ?_)
 dsimp only [frOf, hpFrom, List.length_cons, List.length_nil]
 (repeat' (first | refine goA ?_ | refine ARun.nilCheckP rfl rfl (guardF_spec rfl) ?_ | refine cX kone ?_ | refine callAsk 1000 1001 kb rfl rfl rfl rfl rfl (by (repeat (refine RelL.cons (by first | exact .ptr (j := 0) 0 0 rfl | exact .wk (.same _) (by first | exact .val _ | exact closed_tr _ | exact .agg (NC_closed _)) | exact .wk (.weak _ _ _) (closed_s _)) ?_)); exact RelL.nil _) rfl rfl rfl ?_ | refine cX ksz ?_ | refine cX xt_zb ?_ | refine cX xt_br ?_ | refine callAsk 1000 1001 kb2 rfl rfl rfl rfl rfl (by (repeat (refine RelL.cons (by first | exact .ptr (j := 0) 0 0 rfl | exact .wk (.same _) (by first | exact .val _ | exact closed_tr _ | exact .agg (NC_closed _)) | exact .wk (.weak _ _ _) (closed_s _)) ?_)); exact RelL.nil _) rfl rfl rfl ?_ | refine callLay 1000 1001 k1 rfl rfl rfl rfl rfl (by (repeat (refine RelL.cons (by first | exact .ptr (j := 0) 0 0 rfl | exact .wk (.same _) (by first | exact .val _ | exact closed_tr _ | exact .agg (NC_closed _)) | exact .wk (.weak _ _ _) (closed_s _)) ?_)); exact RelL.nil _) rfl rfl rfl ?_ | refine callLay 1000 1001 k2 rfl rfl rfl rfl rfl (by (repeat (refine RelL.cons (by first | exact .ptr (j := 0) 0 0 rfl | exact .wk (.same _) (by first | exact .val _ | exact closed_tr _ | exact .agg (NC_closed _)) | exact .wk (.weak _ _ _) (closed_s _)) ?_)); exact RelL.nil _) rfl rfl rfl ?_ | refine callLay 1000 1001 k3 rfl rfl rfl rfl rfl (by (repeat (refine RelL.cons (by first | exact .ptr (j := 0) 0 0 rfl | exact .wk (.same _) (by first | exact .val _ | exact closed_tr _ | exact .agg (NC_closed _)) | exact .wk (.weak _ _ _) (closed_s _)) ?_)); exact RelL.nil _) rfl rfl rfl ?_ | refine callLay 1000 1001 k4 rfl rfl rfl rfl rfl (by (repeat (refine RelL.cons (by first | exact .ptr (j := 0) 0 0 rfl | exact .wk (.same _) (by first | exact .val _ | exact closed_tr _ | exact .agg (NC_closed _)) | exact .wk (.weak _ _ _) (closed_s _)) ?_)); exact RelL.nil _) rfl rfl rfl ?_ | refine goB ?_ | fail))
 (first | exact fin_l rfl rfl rfl rfl rfl | exact awp_ret (fin_l rfl rfl rfl rfl rfl) | (refine awp_skip ?_; exact fin_l rfl rfl rfl rfl rfl) | (refine awp_exit ?_; exact fin_l rfl rfl rfl rfl rfl))
set_option maxHeartbeats 8000000 in
theorem part_30 (x : Nod) (ok : okD x = true) (hk : x.k = 3) (hn : x.n = 0) (ca : RowC x.a) (cb : RowC x.b) : PartC x := by
 intro at_ self en out hs
 have ksz := siz_c x.a (okD_ab ok).1 (by have := cnt_ab x; omega)
 have kone := one_c x ok (by omega) (siz_c x.a (okD_ab ok).1 (by have := cnt_ab x; omega)) (siz_c x.b (okD_ab ok).2 (by have := cnt_ab x; omega))
 unfold SizC at ksz
 have ct := fun h => turn_m x ok h ca cb at_ self en out hs
 have cl := fun h h' => loop_m x ok h h' ca at_ self en out hs
 have kb := behind_l at_ self en (oneS x) out (by omega) (by have := oneS_bound x; omega)
 have kb2 := behind_l at_ self en (4 + sizS x.a) out (by omega) (by have := sizS_bound x.a; have := cnt_ab x; omega)
 have b1 := sizS_bound x.a
 have b2 := sizS_bound x.b
 have b3 := cnt_ab x
 have b4 := oneS_bound x
 have oka := (okD_ab ok).1
 have okb := (okD_ab ok).2
 obtain ⟨pos, hpos⟩ : ∃ p, p = wr (at_ + 8 * (out.length : Int)) := ⟨_, rfl⟩
 have c1 := here_l at_ self en out (by omega)
 rw [← hpos] at c1 kb kb2 ct cl ⊢
 obtain ⟨E, hE⟩ : ∃ p, p = wr (pos + 8 * oneS x) := ⟨_, rfl⟩
 rw [← hE] at kb ct cl
 have e1 : (x.k == 1) = false := beq_eq_false_iff_ne.2 (by omega)
 have e2 : (x.k == 2) = false := beq_eq_false_iff_ne.2 (by omega)
 have e11 : (x.k == 11) = false := beq_eq_false_iff_ne.2 (by omega)
 have e10 : (x.k == 10) = false := beq_eq_false_iff_ne.2 (by omega)
 have e9 : (x.k == 9) = false := beq_eq_false_iff_ne.2 (by omega)
 have e3 : (x.k == 3) = true := beq_iff_eq.2 hk
 have e7 : (x.k == 7) = false := beq_eq_false_iff_ne.2 (by omega)
 have e8 : (x.k == 8) = false := beq_eq_false_iff_ne.2 (by omega)
 have e0 : (x.n == 0) = true := beq_iff_eq.2 hn
 have k1 := lay_m at_ self en out [XS.zb, E] (by omega) (by simp)
 obtain ⟨o1, h1⟩ : ∃ o : List Int, o = out ++ [XS.zb, E] := ⟨_, rfl⟩
 rw [← h1] at k1
 have y1 : (o1.length : Int) = (out.length : Int) + 2 := by rw [h1, List.length_append]; (try simp only [List.length_cons, List.length_nil]); omega
 have hA : wr (at_ + 8 * (o1.length : Int)) = wr (pos + 16) := by rw [hpos, wr_wr, y1]; congr 1; omega
 have k2 := ca at_ self en o1 (by omega)
 rw [hA] at k2
 have z2 : ((codL XS self x.a (wr (pos + 16)) en).length : Int) = sizS x.a := codL_len _ _ _ _ _ oka
 obtain ⟨o2, h2⟩ : ∃ o : List Int, o = o1 ++ codL XS self x.a (wr (pos + 16)) en := ⟨_, rfl⟩
 rw [← h2] at k2
 have y2 : (o2.length : Int) = (o1.length : Int) + sizS x.a := by rw [h2, List.length_append]; (try simp only [List.length_cons, List.length_nil]); omega
 have hF : out ++ codN XS self x pos en = o2 := by
  rw [codN_eq, ← hE, hk, h2, h1]
  simp [hn]
 rw [hF]
 refine FnM.of_awp (T := tt) (ok := tok) Try.func26 (by kernel_rfl) rfl (by kernel_rfl) (by kernel_rfl) rfl (fun w0 st0 lent c0 => ?_)
 dsimp only [frOf, hpFrom, List.length_cons, List.length_nil]
 (repeat' (first | refine goA ?_ | refine ARun.nilCheckP rfl rfl (guardF_spec rfl) ?_ | refine cX kone ?_ | refine callAsk 1000 1001 kb rfl rfl rfl rfl rfl (by (repeat (refine RelL.cons (by first | exact .ptr (j := 0) 0 0 rfl | exact .wk (.same _) (by first | exact .val _ | exact closed_tr _ | exact .agg (NC_closed _)) | exact .wk (.weak _ _ _) (closed_s _)) ?_)); exact RelL.nil _) rfl rfl rfl ?_ | refine cX ksz ?_ | refine cX xt_zb ?_ | refine cX xt_br ?_ | refine callLay 1000 1001 k1 rfl rfl rfl rfl rfl (by (repeat (refine RelL.cons (by first | exact .ptr (j := 0) 0 0 rfl | exact .wk (.same _) (by first | exact .val _ | exact closed_tr _ | exact .agg (NC_closed _)) | exact .wk (.weak _ _ _) (closed_s _)) ?_)); exact RelL.nil _) rfl rfl rfl ?_ | refine callLay 1000 1001 k2 rfl rfl rfl rfl rfl (by (repeat (refine RelL.cons (by first | exact .ptr (j := 0) 0 0 rfl | exact .wk (.same _) (by first | exact .val _ | exact closed_tr _ | exact .agg (NC_closed _)) | exact .wk (.weak _ _ _) (closed_s _)) ?_)); exact RelL.nil _) rfl rfl rfl ?_ | refine goB ?_ | fail))
 (first | exact fin_l rfl rfl rfl rfl rfl | exact awp_ret (fin_l rfl rfl rfl rfl rfl) | (refine awp_skip ?_; exact fin_l rfl rfl rfl rfl rfl) | (refine awp_exit ?_; exact fin_l rfl rfl rfl rfl rfl))
set_option maxHeartbeats 8000000 in
theorem part_4 (x : Nod) (ok : okD x = true) (hk : x.k = 4) (ca : RowC x.a) (cb : RowC x.b) : PartC x := by
 intro at_ self en out hs
 have ksz := siz_c x.a (okD_ab ok).1 (by have := cnt_ab x; omega)
 have kone := one_c x ok (by omega) (siz_c x.a (okD_ab ok).1 (by have := cnt_ab x; omega)) (siz_c x.b (okD_ab ok).2 (by have := cnt_ab x; omega))
 unfold SizC at ksz
 have ct := fun h => turn_m x ok h ca cb at_ self en out hs
 have cl := fun h h' => loop_m x ok h h' ca at_ self en out hs
 have kb := behind_l at_ self en (oneS x) out (by omega) (by have := oneS_bound x; omega)
 have kb2 := behind_l at_ self en (4 + sizS x.a) out (by omega) (by have := sizS_bound x.a; have := cnt_ab x; omega)
 have b1 := sizS_bound x.a
 have b2 := sizS_bound x.b
 have b3 := cnt_ab x
 have b4 := oneS_bound x
 have oka := (okD_ab ok).1
 have okb := (okD_ab ok).2
 obtain ⟨pos, hpos⟩ : ∃ p, p = wr (at_ + 8 * (out.length : Int)) := ⟨_, rfl⟩
 have c1 := here_l at_ self en out (by omega)
 rw [← hpos] at c1 kb kb2 ct cl ⊢
 obtain ⟨E, hE⟩ : ∃ p, p = wr (pos + 8 * oneS x) := ⟨_, rfl⟩
 rw [← hE] at kb ct cl
 have e1 : (x.k == 1) = false := beq_eq_false_iff_ne.2 (by omega)
 have e2 : (x.k == 2) = false := beq_eq_false_iff_ne.2 (by omega)
 have e11 : (x.k == 11) = false := beq_eq_false_iff_ne.2 (by omega)
 have e10 : (x.k == 10) = false := beq_eq_false_iff_ne.2 (by omega)
 have e9 : (x.k == 9) = false := beq_eq_false_iff_ne.2 (by omega)
 have e3 : (x.k == 3) = false := beq_eq_false_iff_ne.2 (by omega)
 have e7 : (x.k == 7) = false := beq_eq_false_iff_ne.2 (by omega)
 have e8 : (x.k == 8) = false := beq_eq_false_iff_ne.2 (by omega)
 have k1 := ct (by omega)
 refine FnM.of_awp (T := tt) (ok := tok) Try.func26 (by kernel_rfl) rfl (by kernel_rfl) (by kernel_rfl) rfl (fun w0 st0 lent c0 => ?_)
 dsimp only [frOf, hpFrom, List.length_cons, List.length_nil]
 generalize out ++ codN XS self x pos en = o1 at *
 (repeat' (first | refine goA ?_ | refine ARun.nilCheckP rfl rfl (guardF_spec rfl) ?_ | refine cX kone ?_ | refine callAsk 1000 1001 kb rfl rfl rfl rfl rfl (by (repeat (refine RelL.cons (by first | exact .ptr (j := 0) 0 0 rfl | exact .wk (.same _) (by first | exact .val _ | exact closed_tr _ | exact .agg (NC_closed _)) | exact .wk (.weak _ _ _) (closed_s _)) ?_)); exact RelL.nil _) rfl rfl rfl ?_ | refine callLay 1000 1001 k1 rfl rfl rfl rfl rfl (by (repeat (refine RelL.cons (by first | exact .ptr (j := 0) 0 0 rfl | exact .wk (.same _) (by first | exact .val _ | exact closed_tr _ | exact .agg (NC_closed _)) | exact .wk (.weak _ _ _) (closed_s _)) ?_)); exact RelL.nil _) rfl rfl rfl ?_ | refine goB ?_ | fail))
 (first | exact fin_l rfl rfl rfl rfl rfl | exact awp_ret (fin_l rfl rfl rfl rfl rfl) | (refine awp_skip ?_; exact fin_l rfl rfl rfl rfl rfl) | (refine awp_exit ?_; exact fin_l rfl rfl rfl rfl rfl))
set_option maxHeartbeats 8000000 in
theorem part_5 (x : Nod) (ok : okD x = true) (hk : x.k = 5) (ca : RowC x.a) (cb : RowC x.b) : PartC x := by
 intro at_ self en out hs
 have ksz := siz_c x.a (okD_ab ok).1 (by have := cnt_ab x; omega)
 have kone := one_c x ok (by omega) (siz_c x.a (okD_ab ok).1 (by have := cnt_ab x; omega)) (siz_c x.b (okD_ab ok).2 (by have := cnt_ab x; omega))
 unfold SizC at ksz
 have ct := fun h => turn_m x ok h ca cb at_ self en out hs
 have cl := fun h h' => loop_m x ok h h' ca at_ self en out hs
 have kb := behind_l at_ self en (oneS x) out (by omega) (by have := oneS_bound x; omega)
 have kb2 := behind_l at_ self en (4 + sizS x.a) out (by omega) (by have := sizS_bound x.a; have := cnt_ab x; omega)
 have b1 := sizS_bound x.a
 have b2 := sizS_bound x.b
 have b3 := cnt_ab x
 have b4 := oneS_bound x
 have oka := (okD_ab ok).1
 have okb := (okD_ab ok).2
 obtain ⟨pos, hpos⟩ : ∃ p, p = wr (at_ + 8 * (out.length : Int)) := ⟨_, rfl⟩
 have c1 := here_l at_ self en out (by omega)
 rw [← hpos] at c1 kb kb2 ct cl ⊢
 obtain ⟨E, hE⟩ : ∃ p, p = wr (pos + 8 * oneS x) := ⟨_, rfl⟩
 rw [← hE] at kb ct cl
 have e1 : (x.k == 1) = false := beq_eq_false_iff_ne.2 (by omega)
 have e2 : (x.k == 2) = false := beq_eq_false_iff_ne.2 (by omega)
 have e11 : (x.k == 11) = false := beq_eq_false_iff_ne.2 (by omega)
 have e10 : (x.k == 10) = false := beq_eq_false_iff_ne.2 (by omega)
 have e9 : (x.k == 9) = false := beq_eq_false_iff_ne.2 (by omega)
 have e3 : (x.k == 3) = false := beq_eq_false_iff_ne.2 (by omega)
 have e7 : (x.k == 7) = false := beq_eq_false_iff_ne.2 (by omega)
 have e8 : (x.k == 8) = false := beq_eq_false_iff_ne.2 (by omega)
 have k1 := ct (by omega)
 refine FnM.of_awp (T := tt) (ok := tok) Try.func26 (by kernel_rfl) rfl (by kernel_rfl) (by kernel_rfl) rfl (fun w0 st0 lent c0 => ?_)
 dsimp only [frOf, hpFrom, List.length_cons, List.length_nil]
 generalize out ++ codN XS self x pos en = o1 at *
 (repeat' (first | refine goA ?_ | refine ARun.nilCheckP rfl rfl (guardF_spec rfl) ?_ | refine cX kone ?_ | refine callAsk 1000 1001 kb rfl rfl rfl rfl rfl (by (repeat (refine RelL.cons (by first | exact .ptr (j := 0) 0 0 rfl | exact .wk (.same _) (by first | exact .val _ | exact closed_tr _ | exact .agg (NC_closed _)) | exact .wk (.weak _ _ _) (closed_s _)) ?_)); exact RelL.nil _) rfl rfl rfl ?_ | refine callLay 1000 1001 k1 rfl rfl rfl rfl rfl (by (repeat (refine RelL.cons (by first | exact .ptr (j := 0) 0 0 rfl | exact .wk (.same _) (by first | exact .val _ | exact closed_tr _ | exact .agg (NC_closed _)) | exact .wk (.weak _ _ _) (closed_s _)) ?_)); exact RelL.nil _) rfl rfl rfl ?_ | refine goB ?_ | fail))
 (first | exact fin_l rfl rfl rfl rfl rfl | exact awp_ret (fin_l rfl rfl rfl rfl rfl) | (refine awp_skip ?_; exact fin_l rfl rfl rfl rfl rfl) | (refine awp_exit ?_; exact fin_l rfl rfl rfl rfl rfl))
set_option maxHeartbeats 8000000 in
theorem part_6 (x : Nod) (ok : okD x = true) (hk : x.k = 6) (ca : RowC x.a) (cb : RowC x.b) : PartC x := by
 intro at_ self en out hs
 have ksz := siz_c x.a (okD_ab ok).1 (by have := cnt_ab x; omega)
 have kone := one_c x ok (by omega) (siz_c x.a (okD_ab ok).1 (by have := cnt_ab x; omega)) (siz_c x.b (okD_ab ok).2 (by have := cnt_ab x; omega))
 unfold SizC at ksz
 have ct := fun h => turn_m x ok h ca cb at_ self en out hs
 have cl := fun h h' => loop_m x ok h h' ca at_ self en out hs
 have kb := behind_l at_ self en (oneS x) out (by omega) (by have := oneS_bound x; omega)
 have kb2 := behind_l at_ self en (4 + sizS x.a) out (by omega) (by have := sizS_bound x.a; have := cnt_ab x; omega)
 have b1 := sizS_bound x.a
 have b2 := sizS_bound x.b
 have b3 := cnt_ab x
 have b4 := oneS_bound x
 have oka := (okD_ab ok).1
 have okb := (okD_ab ok).2
 obtain ⟨pos, hpos⟩ : ∃ p, p = wr (at_ + 8 * (out.length : Int)) := ⟨_, rfl⟩
 have c1 := here_l at_ self en out (by omega)
 rw [← hpos] at c1 kb kb2 ct cl ⊢
 obtain ⟨E, hE⟩ : ∃ p, p = wr (pos + 8 * oneS x) := ⟨_, rfl⟩
 rw [← hE] at kb ct cl
 have e1 : (x.k == 1) = false := beq_eq_false_iff_ne.2 (by omega)
 have e2 : (x.k == 2) = false := beq_eq_false_iff_ne.2 (by omega)
 have e11 : (x.k == 11) = false := beq_eq_false_iff_ne.2 (by omega)
 have e10 : (x.k == 10) = false := beq_eq_false_iff_ne.2 (by omega)
 have e9 : (x.k == 9) = false := beq_eq_false_iff_ne.2 (by omega)
 have e3 : (x.k == 3) = false := beq_eq_false_iff_ne.2 (by omega)
 have e7 : (x.k == 7) = false := beq_eq_false_iff_ne.2 (by omega)
 have e8 : (x.k == 8) = false := beq_eq_false_iff_ne.2 (by omega)
 have k1 := ct (by omega)
 refine FnM.of_awp (T := tt) (ok := tok) Try.func26 (by kernel_rfl) rfl (by kernel_rfl) (by kernel_rfl) rfl (fun w0 st0 lent c0 => ?_)
 dsimp only [frOf, hpFrom, List.length_cons, List.length_nil]
 generalize out ++ codN XS self x pos en = o1 at *
 (repeat' (first | refine goA ?_ | refine ARun.nilCheckP rfl rfl (guardF_spec rfl) ?_ | refine cX kone ?_ | refine callAsk 1000 1001 kb rfl rfl rfl rfl rfl (by (repeat (refine RelL.cons (by first | exact .ptr (j := 0) 0 0 rfl | exact .wk (.same _) (by first | exact .val _ | exact closed_tr _ | exact .agg (NC_closed _)) | exact .wk (.weak _ _ _) (closed_s _)) ?_)); exact RelL.nil _) rfl rfl rfl ?_ | refine callLay 1000 1001 k1 rfl rfl rfl rfl rfl (by (repeat (refine RelL.cons (by first | exact .ptr (j := 0) 0 0 rfl | exact .wk (.same _) (by first | exact .val _ | exact closed_tr _ | exact .agg (NC_closed _)) | exact .wk (.weak _ _ _) (closed_s _)) ?_)); exact RelL.nil _) rfl rfl rfl ?_ | refine goB ?_ | fail))
 (first | exact fin_l rfl rfl rfl rfl rfl | exact awp_ret (fin_l rfl rfl rfl rfl rfl) | (refine awp_skip ?_; exact fin_l rfl rfl rfl rfl rfl) | (refine awp_exit ?_; exact fin_l rfl rfl rfl rfl rfl))
set_option maxHeartbeats 8000000 in
theorem part_7 (x : Nod) (ok : okD x = true) (hk : x.k = 7) (hn : x.n = 0 ∨ x.n = 1) (ca : RowC x.a) (cb : RowC x.b) : PartC x := by
 intro at_ self en out hs
 have ksz := siz_c x.a (okD_ab ok).1 (by have := cnt_ab x; omega)
 have kone := one_c x ok (by omega) (siz_c x.a (okD_ab ok).1 (by have := cnt_ab x; omega)) (siz_c x.b (okD_ab ok).2 (by have := cnt_ab x; omega))
 unfold SizC at ksz
 have ct := fun h => turn_m x ok h ca cb at_ self en out hs
 have cl := fun h h' => loop_m x ok h h' ca at_ self en out hs
 have kb := behind_l at_ self en (oneS x) out (by omega) (by have := oneS_bound x; omega)
 have kb2 := behind_l at_ self en (4 + sizS x.a) out (by omega) (by have := sizS_bound x.a; have := cnt_ab x; omega)
 have b1 := sizS_bound x.a
 have b2 := sizS_bound x.b
 have b3 := cnt_ab x
 have b4 := oneS_bound x
 have oka := (okD_ab ok).1
 have okb := (okD_ab ok).2
 obtain ⟨pos, hpos⟩ : ∃ p, p = wr (at_ + 8 * (out.length : Int)) := ⟨_, rfl⟩
 have c1 := here_l at_ self en out (by omega)
 rw [← hpos] at c1 kb kb2 ct cl ⊢
 obtain ⟨E, hE⟩ : ∃ p, p = wr (pos + 8 * oneS x) := ⟨_, rfl⟩
 rw [← hE] at kb ct cl
 have k1 := cl (by omega) hn
 have e1 : (x.k == 1) = false := beq_eq_false_iff_ne.2 (by omega)
 have e2 : (x.k == 2) = false := beq_eq_false_iff_ne.2 (by omega)
 have e11 : (x.k == 11) = false := beq_eq_false_iff_ne.2 (by omega)
 have e10 : (x.k == 10) = false := beq_eq_false_iff_ne.2 (by omega)
 have e9 : (x.k == 9) = false := beq_eq_false_iff_ne.2 (by omega)
 have e3 : (x.k == 3) = false := beq_eq_false_iff_ne.2 (by omega)
 have e7 : (x.k == 7) = true := beq_iff_eq.2 hk
 have e8 : (x.k == 8) = false := beq_eq_false_iff_ne.2 (by omega)
 refine FnM.of_awp (T := tt) (ok := tok) Try.func26 (by kernel_rfl) rfl (by kernel_rfl) (by kernel_rfl) rfl (fun w0 st0 lent c0 => ?_)
 dsimp only [frOf, hpFrom, List.length_cons, List.length_nil]
 generalize out ++ codN XS self x pos en = o1 at *
 (repeat' (first | refine goA ?_ | refine ARun.nilCheckP rfl rfl (guardF_spec rfl) ?_ | refine cX kone ?_ | refine callAsk 1000 1001 kb rfl rfl rfl rfl rfl (by (repeat (refine RelL.cons (by first | exact .ptr (j := 0) 0 0 rfl | exact .wk (.same _) (by first | exact .val _ | exact closed_tr _ | exact .agg (NC_closed _)) | exact .wk (.weak _ _ _) (closed_s _)) ?_)); exact RelL.nil _) rfl rfl rfl ?_ | refine callLay 1000 1001 k1 rfl rfl rfl rfl rfl (by (repeat (refine RelL.cons (by first | exact .ptr (j := 0) 0 0 rfl | exact .wk (.same _) (by first | exact .val _ | exact closed_tr _ | exact .agg (NC_closed _)) | exact .wk (.weak _ _ _) (closed_s _)) ?_)); exact RelL.nil _) rfl rfl rfl ?_ | refine goB ?_ | fail))
 (first | exact fin_l rfl rfl rfl rfl rfl | exact awp_ret (fin_l rfl rfl rfl rfl rfl) | (refine awp_skip ?_; exact fin_l rfl rfl rfl rfl rfl) | (refine awp_exit ?_; exact fin_l rfl rfl rfl rfl rfl))
set_option maxHeartbeats 8000000 in
theorem part_8 (x : Nod) (ok : okD x = true) (hk : x.k = 8) (hn : x.n = 0 ∨ x.n = 1) (ca : RowC x.a) (cb : RowC x.b) : PartC x := by
 intro at_ self en out hs
 have ksz := siz_c x.a (okD_ab ok).1 (by have := cnt_ab x; omega)
 have kone := one_c x ok (by omega) (siz_c x.a (okD_ab ok).1 (by have := cnt_ab x; omega)) (siz_c x.b (okD_ab ok).2 (by have := cnt_ab x; omega))
 unfold SizC at ksz
 have ct := fun h => turn_m x ok h ca cb at_ self en out hs
 have cl := fun h h' => loop_m x ok h h' ca at_ self en out hs
 have kb := behind_l at_ self en (oneS x) out (by omega) (by have := oneS_bound x; omega)
 have kb2 := behind_l at_ self en (4 + sizS x.a) out (by omega) (by have := sizS_bound x.a; have := cnt_ab x; omega)
 have b1 := sizS_bound x.a
 have b2 := sizS_bound x.b
 have b3 := cnt_ab x
 have b4 := oneS_bound x
 have oka := (okD_ab ok).1
 have okb := (okD_ab ok).2
 obtain ⟨pos, hpos⟩ : ∃ p, p = wr (at_ + 8 * (out.length : Int)) := ⟨_, rfl⟩
 have c1 := here_l at_ self en out (by omega)
 rw [← hpos] at c1 kb kb2 ct cl ⊢
 obtain ⟨E, hE⟩ : ∃ p, p = wr (pos + 8 * oneS x) := ⟨_, rfl⟩
 rw [← hE] at kb ct cl
 have k1 := cl (by omega) hn
 have e1 : (x.k == 1) = false := beq_eq_false_iff_ne.2 (by omega)
 have e2 : (x.k == 2) = false := beq_eq_false_iff_ne.2 (by omega)
 have e11 : (x.k == 11) = false := beq_eq_false_iff_ne.2 (by omega)
 have e10 : (x.k == 10) = false := beq_eq_false_iff_ne.2 (by omega)
 have e9 : (x.k == 9) = false := beq_eq_false_iff_ne.2 (by omega)
 have e3 : (x.k == 3) = false := beq_eq_false_iff_ne.2 (by omega)
 have e7 : (x.k == 7) = false := beq_eq_false_iff_ne.2 (by omega)
 have e8 : (x.k == 8) = true := beq_iff_eq.2 hk
 refine FnM.of_awp (T := tt) (ok := tok) Try.func26 (by kernel_rfl) rfl (by kernel_rfl) (by kernel_rfl) rfl (fun w0 st0 lent c0 => ?_)
 dsimp only [frOf, hpFrom, List.length_cons, List.length_nil]
 generalize out ++ codN XS self x pos en = o1 at *
 (repeat' (first | refine goA ?_ | refine ARun.nilCheckP rfl rfl (guardF_spec rfl) ?_ | refine cX kone ?_ | refine callAsk 1000 1001 kb rfl rfl rfl rfl rfl (by (repeat (refine RelL.cons (by first | exact .ptr (j := 0) 0 0 rfl | exact .wk (.same _) (by first | exact .val _ | exact closed_tr _ | exact .agg (NC_closed _)) | exact .wk (.weak _ _ _) (closed_s _)) ?_)); exact RelL.nil _) rfl rfl rfl ?_ | refine callLay 1000 1001 k1 rfl rfl rfl rfl rfl (by (repeat (refine RelL.cons (by first | exact .ptr (j := 0) 0 0 rfl | exact .wk (.same _) (by first | exact .val _ | exact closed_tr _ | exact .agg (NC_closed _)) | exact .wk (.weak _ _ _) (closed_s _)) ?_)); exact RelL.nil _) rfl rfl rfl ?_ | refine goB ?_ | fail))
 (first | exact fin_l rfl rfl rfl rfl rfl | exact awp_ret (fin_l rfl rfl rfl rfl rfl) | (refine awp_skip ?_; exact fin_l rfl rfl rfl rfl rfl) | (refine awp_exit ?_; exact fin_l rfl rfl rfl rfl rfl))
theorem part_m (x : Nod) (ok : okD x = true) (ca : RowC x.a) (cb : RowC x.b) : PartC x := by
 rcases okD_cases ok with ⟨hk, ha, hb⟩ | ⟨hk, hn⟩ | ⟨hk, hb⟩ | hk | ⟨hk0, hn, hb⟩
 ·rcases hk with hk | hk | hk | hk | hk
  ·exact part_1 x ok hk ca cb
  ·exact part_2 x ok hk ca cb
  ·exact part_9 x ok hk ca cb
  ·exact part_10 x ok hk ca cb
  ·exact part_11 x ok hk ca cb
 ·rcases hn with hn | ⟨hn, hb⟩
  ·exact part_31 x ok hk hn ca cb
  ·exact part_30 x ok hk hn ca cb
 ·rcases hk with hk | hk
  ·exact part_4 x ok hk ca cb
  ·exact part_5 x ok hk ca cb
 ·exact part_6 x ok hk ca cb
 ·rcases hk0 with hk | hk
  ·exact part_7 x ok hk hn ca cb
  ·exact part_8 x ok hk hn ca cb
end Go.Proofs.Ytfphgelollhdhaa
namespace Go.Proofs.Ytfphgelollhdhaa
open Go Go.RowKit
set_option maxRecDepth 100000
attribute [local irreducible] Decidable.decide awp ARun regK toK XS
set_option maxHeartbeats 8000000 in
theorem row_all : ∀ (m : Nat) (l : List Nod), cntL l < m → okDs l = true → RowC l := by
 intro m
 induction m with
 | zero => exact fun l h => absurd h (Nat.not_lt_zero _)
 | succ m ih =>
  intro l hm hok at_ self en out hs
  have hl := cnt_len l
  obtain ⟨pos, hpos⟩ : ∃ p, p = wr (at_ + 8 * (out.length : Int)) := ⟨_, rfl⟩
  have hp0 : In64 pos := by rw [hpos]; exact wr_range _
  rw [← hpos]
  refine FnM.of_awp (T := tt) (ok := tok) Try.func21 (by kernel_rfl) rfl (by kernel_rfl) (by kernel_rfl) rfl (fun w0 st0 lent c0 => ?_)
  dsimp only [frOf, hpFrom, List.length_cons, List.length_nil]
  (repeat' (first | refine goA ?_ | refine goB ?_ | ((fail_if_success refine ARun.plain rfl ?_); refine ARun.fork rfl rfl rfl (fun h => ?_) (fun h => ?_)) | refine awp_cond rfl (fun h => ?_) (fun h => ?_)))
  refine awp_loopT (T := Nat × List Int × Nat × Nat) (fun t => ⟨[(0, .ptr 1000 0 0 0), (1, encTr l), (7, .val (.int .i64 (t.1 : Nat))), (6, .val (.int .i64 ((l.map encD).length : Nat)))], [(1000, some ⟨0, 4, [LCb 1001 t.2.2.1 at_ self en (t.2.1.map encI).length]⟩), (1001, some ⟨t.2.2.1, 1, t.2.1.map encI⟩)], t.2.2.2⟩) (fun t => t.1 ≤ l.length ∧ t.2.1 = out ++ codL XS self (l.take t.1) pos en) (fun t => l.length - t.1) (0, out, 1, _) ⟨Nat.zero_le _, by rw [List.take_zero, codL, List.append_nil]⟩ ⟨⟨rfl, rfl, rfl, rfl, trivial⟩, ⟨rfl, rfl, trivial⟩, Nat.le_refl _⟩ (fun t ht => ?_)
  obtain ⟨k, o, g, gc⟩ := t
  obtain ⟨ht, hA⟩ := ht
  dsimp only at ht hA ⊢
  by_cases hlt : k < l.length
  ·have hp : l[k]? = some l[k] := List.getElem?_eq_getElem hlt
   have hc2 : decide (((k : Nat) : Int) < (((l.map encD).length : Nat) : Int)) = true := by simp; omega
   generalize l[k] = x at hp
   have ok1 := okDs_mem hok x (List.mem_of_getElem? hp)
   have n1 := cnt_mem hp
   have n2 := cnt_ab x
   have q0 := sizS_bound (l.take k)
   have q2 := cnt_take l k
   have q1 : ((codL XS self (l.take k) pos en).length : Int) = sizS (l.take k) := codL_len _ _ _ _ _ (ok_take k hok)
   have q3 := cntL_append (l.take k) (l.drop k)
   rw [List.take_append_drop] at q3
   have q4 : cntN x ≤ cntL (l.drop k) := cnt_mem (i := 0) (by rw [List.getElem?_drop]; exact hp)
   have q5 : (o.length : Int) = out.length + sizS (l.take k) := by rw [hA, List.length_append]; omega
   have c1 := part_m x ok1 (ih x.a (by omega) (okD_ab ok1).1) (ih x.b (by omega) (okD_ab ok1).2) at_ self en o (by omega)
   have gx := get_nd hp
   have hB : wr (at_ + 8 * (o.length : Int)) = wr (pos + 8 * sizS (l.take k)) := by rw [hpos, wr_wr, q5]; congr 1; omega
   rw [hB] at c1
   have hN : out ++ codL XS self (l.take (k + 1)) pos en = o ++ codN XS self x (wr (pos + 8 * sizS (l.take k))) en := by rw [cod_take XS self en hp hp0, hA, List.append_assoc]
   generalize o ++ codN XS self x (wr (pos + 8 * sizS (l.take k))) en = o2 at *
   (repeat' (first | refine goA ?_ | refine ARun.nilCheckP rfl rfl (guardF_spec rfl) ?_ | refine callLay 1000 1001 c1 rfl rfl rfl rfl rfl (by (repeat (refine RelL.cons (by first | exact .ptr (j := 0) 0 0 rfl | exact .wk (.same _) (by first | exact .val _ | exact closed_tr _ | exact .agg (NC_closed _)) | exact .wk (.weak _ _ _) (closed_s _)) ?_)); exact RelL.nil _) rfl rfl rfl ?_ | refine ARun.indexAddr rfl rfl (by omega) (by with_reducible exact gx) rfl rfl rfl rfl rfl (guardF_spec rfl) ?_ | refine goB ?_ | fail))
   exact ⟨(k + 1, o2, _, _), ⟨⟨rfl, rfl, succI k, rfl, trivial⟩, ⟨rfl, rfl, trivial⟩, Nat.le_refl _⟩, ⟨by dsimp only; omega, hN.symm⟩, (by dsimp only; omega)⟩
  ·have hkk : k = l.length := by omega
   subst hkk
   have hc2 : decide (((l.length : Nat) : Int) < (((l.map encD).length : Nat) : Int)) = false := by simp
   rw [List.take_length] at hA
   rw [← hA]
   (repeat' (first | refine goA ?_ | refine goB ?_ | fail))
   (first | exact fin_l rfl rfl rfl rfl rfl | exact awp_ret (fin_l rfl rfl rfl rfl rfl) | (refine awp_skip ?_; exact fin_l rfl rfl rfl rfl rfl) | (refine awp_exit ?_; exact fin_l rfl rfl rfl rfl rfl))
end Go.Proofs.Ytfphgelollhdhaa
namespace Go.Proofs.Ytfphgelollhdhaa
open Go Go.RowKit
set_option maxRecDepth 100000
abbrev resR (l : List Int) : AV := .own 1000 0 0 (l.map encI).length
def RrowC (t : List Nod) : Prop := ∀ (pos self en : Int), In64 pos → FnM Try.prog 24 [encTr t, .val (.int .i64 pos), .val (.int .i64 self), .val (.int .i64 en)] [(1, [])] (resR (codL XS self t pos en)) [(codL XS self t pos en).map encI]
def RpartC (x : Nod) : Prop := ∀ (pos self en : Int), In64 pos → FnM Try.prog 29 [.agg (NC x), .val (.int .i64 pos), .val (.int .i64 self), .val (.int .i64 en)] [(1, [])] (resR (codN XS self x pos en)) [(codN XS self x pos en).map encI]
theorem fin_r {rs : Array ResultVar} {t b g n : Nat} {l : List Int} {els : List (List AV)} {s : AS} (hr : rs.toList = [.tmp t]) (h1 : lkA s.fr t = .own b g 0 n) (h2 : lkH s.hp b = some ⟨g, 1, els⟩) (he : els = l.map encI) (hn : n = (l.map encI).length) :
  endsM rs (resR l) [(1, [])] [l.map encI] s := by
 subst hn
 subst he
 refine ⟨b, g, [resR l], ?_, by rw [hr]; exact .cons (by rw [h1]; exact .row 0 _) .nil, rfl, ⟨_, h2, RelR.id (fun el v q1 q2 => .reif (.closed _ (map_cl _ el v q1 q2)))⟩⟩
 rcases Nat.lt_or_ge b 1000 with h | h
 ·rw [show Nat.blt b 1000 = true by rw [Nat.blt_eq]; exact h]; rfl
 ·rw [Bool.or_eq_true]; exact .inr (Nat.ble_eq_true_of_le h)
theorem mlen (l : List Int) : (((l.map encI).length : Nat) : Int) = l.length := by rw [List.length_map]
attribute [local irreducible] Decidable.decide awp ARun regK toK XS
set_option maxHeartbeats 8000000 in
theorem rpart_1 (x : Nod) (ok : okD x = true) (hk : x.k = 1) (hb : cntN x ≤ 100000) (ca : RrowC x.a) (cb : RrowC x.b) : RpartC x := by
 intro pos self en hp
 have b1 := sizS_bound x.a
 have b2 := sizS_bound x.b
 have b3 := cnt_ab x
 have b4 := oneS_bound x
 have oka := (okD_ab ok).1
 have okb := (okD_ab ok).2
 have k0 := ref_one_c x ok (by omega) (rsiz_c x.a (okD_ab ok).1 (by omega)) (rsiz_c x.b (okD_ab ok).2 (by omega))
 have e1 : (x.k == 1) = true := beq_iff_eq.2 hk
 have e2 : (x.k == 2) = false := beq_eq_false_iff_ne.2 (by omega)
 have e3 : (x.k == 3) = false := beq_eq_false_iff_ne.2 (by omega)
 have e4 : (x.k == 4) = false := beq_eq_false_iff_ne.2 (by omega)
 have e5 : (x.k == 5) = false := beq_eq_false_iff_ne.2 (by omega)
 have e6 : (x.k == 6) = false := beq_eq_false_iff_ne.2 (by omega)
 have e7 : (x.k == 7) = false := beq_eq_false_iff_ne.2 (by omega)
 have e8 : (x.k == 8) = false := beq_eq_false_iff_ne.2 (by omega)
 have e9 : (x.k == 9) = false := beq_eq_false_iff_ne.2 (by omega)
 have e10 : (x.k == 10) = false := beq_eq_false_iff_ne.2 (by omega)
 have hF : codN XS self x pos en = [XS.lit, x.n] := by
  rw [codN_eq, hk]
  simp []
 rw [hF]
 refine FnM.of_awp (T := tt) (ok := tok) Try.func29 (by kernel_rfl) rfl (by kernel_rfl) (by kernel_rfl) rfl (fun w0 st0 lent c0 => ?_)
 dsimp only [frOf, hpFrom, List.length_cons, List.length_nil]
 (repeat' (first | refine ARun.buildSliceO rfl rfl rfl rfl rfl rfl rfl (buildSF_spec rfl) rfl (guardF_spec rfl) ?_ | refine goA ?_ | refine cX k0 ?_ | refine cX rxt_zb ?_ | refine cX rxt_br ?_ | refine cX rxt_lit ?_ | refine appO rfl ?_ | refine ARun.bin rfl rfl bin_add rfl (guardF_spec rfl) ?_ | refine goB ?_ | fail))
 (refine awp_ret (fin_r rfl rfl rfl ?_ ?_) <;> (first | rfl | (simp only [List.map_append, List.map_cons, List.map_nil, List.append_assoc, List.cons_append, List.nil_append, List.append_nil, List.replicate_zero, encI] <;> rfl) | (congr 1; (simp only [List.map_append, List.map_cons, List.map_nil, List.append_assoc, List.cons_append, List.nil_append, List.append_nil, List.replicate_zero, encI] <;> rfl))))
set_option maxHeartbeats 8000000 in
theorem rpart_2 (x : Nod) (ok : okD x = true) (hk : x.k = 2) (hb : cntN x ≤ 100000) (ca : RrowC x.a) (cb : RrowC x.b) : RpartC x := by
 intro pos self en hp
 have b1 := sizS_bound x.a
 have b2 := sizS_bound x.b
 have b3 := cnt_ab x
 have b4 := oneS_bound x
 have oka := (okD_ab ok).1
 have okb := (okD_ab ok).2
 have k0 := ref_one_c x ok (by omega) (rsiz_c x.a (okD_ab ok).1 (by omega)) (rsiz_c x.b (okD_ab ok).2 (by omega))
 have e1 : (x.k == 1) = false := beq_eq_false_iff_ne.2 (by omega)
 have e2 : (x.k == 2) = true := beq_iff_eq.2 hk
 have e3 : (x.k == 3) = false := beq_eq_false_iff_ne.2 (by omega)
 have e4 : (x.k == 4) = false := beq_eq_false_iff_ne.2 (by omega)
 have e5 : (x.k == 5) = false := beq_eq_false_iff_ne.2 (by omega)
 have e6 : (x.k == 6) = false := beq_eq_false_iff_ne.2 (by omega)
 have e7 : (x.k == 7) = false := beq_eq_false_iff_ne.2 (by omega)
 have e8 : (x.k == 8) = false := beq_eq_false_iff_ne.2 (by omega)
 have e9 : (x.k == 9) = false := beq_eq_false_iff_ne.2 (by omega)
 have e10 : (x.k == 10) = false := beq_eq_false_iff_ne.2 (by omega)
 have hF : codN XS self x pos en = [x.n] := by
  rw [codN_eq, hk]
  simp []
 rw [hF]
 refine FnM.of_awp (T := tt) (ok := tok) Try.func29 (by kernel_rfl) rfl (by kernel_rfl) (by kernel_rfl) rfl (fun w0 st0 lent c0 => ?_)
 dsimp only [frOf, hpFrom, List.length_cons, List.length_nil]
 (repeat' (first | refine ARun.buildSliceO rfl rfl rfl rfl rfl rfl rfl (buildSF_spec rfl) rfl (guardF_spec rfl) ?_ | refine goA ?_ | refine cX k0 ?_ | refine cX rxt_zb ?_ | refine cX rxt_br ?_ | refine appO rfl ?_ | refine ARun.bin rfl rfl bin_add rfl (guardF_spec rfl) ?_ | refine goB ?_ | fail))
 (refine awp_ret (fin_r rfl rfl rfl ?_ ?_) <;> (first | rfl | (simp only [List.map_append, List.map_cons, List.map_nil, List.append_assoc, List.cons_append, List.nil_append, List.append_nil, List.replicate_zero, encI] <;> rfl) | (congr 1; (simp only [List.map_append, List.map_cons, List.map_nil, List.append_assoc, List.cons_append, List.nil_append, List.append_nil, List.replicate_zero, encI] <;> rfl))))
set_option maxHeartbeats 8000000 in
theorem rpart_9 (x : Nod) (ok : okD x = true) (hk : x.k = 9) (hb : cntN x ≤ 100000) (ca : RrowC x.a) (cb : RrowC x.b) : RpartC x := by
 intro pos self en hp
 have b1 := sizS_bound x.a
 have b2 := sizS_bound x.b
 have b3 := cnt_ab x
 have b4 := oneS_bound x
 have oka := (okD_ab ok).1
 have okb := (okD_ab ok).2
 have k0 := ref_one_c x ok (by omega) (rsiz_c x.a (okD_ab ok).1 (by omega)) (rsiz_c x.b (okD_ab ok).2 (by omega))
 have e1 : (x.k == 1) = false := beq_eq_false_iff_ne.2 (by omega)
 have e2 : (x.k == 2) = false := beq_eq_false_iff_ne.2 (by omega)
 have e3 : (x.k == 3) = false := beq_eq_false_iff_ne.2 (by omega)
 have e4 : (x.k == 4) = false := beq_eq_false_iff_ne.2 (by omega)
 have e5 : (x.k == 5) = false := beq_eq_false_iff_ne.2 (by omega)
 have e6 : (x.k == 6) = false := beq_eq_false_iff_ne.2 (by omega)
 have e7 : (x.k == 7) = false := beq_eq_false_iff_ne.2 (by omega)
 have e8 : (x.k == 8) = false := beq_eq_false_iff_ne.2 (by omega)
 have e9 : (x.k == 9) = true := beq_iff_eq.2 hk
 have e10 : (x.k == 10) = false := beq_eq_false_iff_ne.2 (by omega)
 have hF : codN XS self x pos en = [XS.unl, XS.br, en] := by
  rw [codN_eq, hk]
  simp []
 rw [hF]
 refine FnM.of_awp (T := tt) (ok := tok) Try.func29 (by kernel_rfl) rfl (by kernel_rfl) (by kernel_rfl) rfl (fun w0 st0 lent c0 => ?_)
 dsimp only [frOf, hpFrom, List.length_cons, List.length_nil]
 (repeat' (first | refine ARun.buildSliceO rfl rfl rfl rfl rfl rfl rfl (buildSF_spec rfl) rfl (guardF_spec rfl) ?_ | refine goA ?_ | refine cX k0 ?_ | refine cX rxt_zb ?_ | refine cX rxt_br ?_ | refine cX rxt_unl ?_ | refine appO rfl ?_ | refine ARun.bin rfl rfl bin_add rfl (guardF_spec rfl) ?_ | refine goB ?_ | fail))
 (refine awp_ret (fin_r rfl rfl rfl ?_ ?_) <;> (first | rfl | (simp only [List.map_append, List.map_cons, List.map_nil, List.append_assoc, List.cons_append, List.nil_append, List.append_nil, List.replicate_zero, encI] <;> rfl) | (congr 1; (simp only [List.map_append, List.map_cons, List.map_nil, List.append_assoc, List.cons_append, List.nil_append, List.append_nil, List.replicate_zero, encI] <;> rfl))))
set_option maxHeartbeats 8000000 in
theorem rpart_10 (x : Nod) (ok : okD x = true) (hk : x.k = 10) (hb : cntN x ≤ 100000) (ca : RrowC x.a) (cb : RrowC x.b) : RpartC x := by
 intro pos self en hp
 have b1 := sizS_bound x.a
 have b2 := sizS_bound x.b
 have b3 := cnt_ab x
 have b4 := oneS_bound x
 have oka := (okD_ab ok).1
 have okb := (okD_ab ok).2
 have k0 := ref_one_c x ok (by omega) (rsiz_c x.a (okD_ab ok).1 (by omega)) (rsiz_c x.b (okD_ab ok).2 (by omega))
 have e1 : (x.k == 1) = false := beq_eq_false_iff_ne.2 (by omega)
 have e2 : (x.k == 2) = false := beq_eq_false_iff_ne.2 (by omega)
 have e3 : (x.k == 3) = false := beq_eq_false_iff_ne.2 (by omega)
 have e4 : (x.k == 4) = false := beq_eq_false_iff_ne.2 (by omega)
 have e5 : (x.k == 5) = false := beq_eq_false_iff_ne.2 (by omega)
 have e6 : (x.k == 6) = false := beq_eq_false_iff_ne.2 (by omega)
 have e7 : (x.k == 7) = false := beq_eq_false_iff_ne.2 (by omega)
 have e8 : (x.k == 8) = false := beq_eq_false_iff_ne.2 (by omega)
 have e9 : (x.k == 9) = false := beq_eq_false_iff_ne.2 (by omega)
 have e10 : (x.k == 10) = true := beq_iff_eq.2 hk
 have hF : codN XS self x pos en = [XS.ex] := by
  rw [codN_eq, hk]
  simp []
 rw [hF]
 refine FnM.of_awp (T := tt) (ok := tok) Try.func29 (by kernel_rfl) rfl (by kernel_rfl) (by kernel_rfl) rfl (fun w0 st0 lent c0 => ?_)
 dsimp only [frOf, hpFrom, List.length_cons, List.length_nil]
 (repeat' (first | refine ARun.buildSliceO rfl rfl rfl rfl rfl rfl rfl (buildSF_spec rfl) rfl (guardF_spec rfl) ?_ | refine goA ?_ | refine cX k0 ?_ | refine cX rxt_zb ?_ | refine cX rxt_br ?_ | refine cX rxt_ex ?_ | refine appO rfl ?_ | refine ARun.bin rfl rfl bin_add rfl (guardF_spec rfl) ?_ | refine goB ?_ | fail))
 (refine awp_ret (fin_r rfl rfl rfl ?_ ?_) <;> (first | rfl | (simp only [List.map_append, List.map_cons, List.map_nil, List.append_assoc, List.cons_append, List.nil_append, List.append_nil, List.replicate_zero, encI] <;> rfl) | (congr 1; (simp only [List.map_append, List.map_cons, List.map_nil, List.append_assoc, List.cons_append, List.nil_append, List.append_nil, List.replicate_zero, encI] <;> rfl))))
set_option maxHeartbeats 8000000 in
theorem rpart_11 (x : Nod) (ok : okD x = true) (hk : x.k = 11) (hb : cntN x ≤ 100000) (ca : RrowC x.a) (cb : RrowC x.b) : RpartC x := by
 intro pos self en hp
 have b1 := sizS_bound x.a
 have b2 := sizS_bound x.b
 have b3 := cnt_ab x
 have b4 := oneS_bound x
 have oka := (okD_ab ok).1
 have okb := (okD_ab ok).2
 have k0 := ref_one_c x ok (by omega) (rsiz_c x.a (okD_ab ok).1 (by omega)) (rsiz_c x.b (okD_ab ok).2 (by omega))
 have e1 : (x.k == 1) = false := beq_eq_false_iff_ne.2 (by omega)
 have e2 : (x.k == 2) = false := beq_eq_false_iff_ne.2 (by omega)
 have e3 : (x.k == 3) = false := beq_eq_false_iff_ne.2 (by omega)
 have e4 : (x.k == 4) = false := beq_eq_false_iff_ne.2 (by omega)
 have e5 : (x.k == 5) = false := beq_eq_false_iff_ne.2 (by omega)
 have e6 : (x.k == 6) = false := beq_eq_false_iff_ne.2 (by omega)
 have e7 : (x.k == 7) = false := beq_eq_false_iff_ne.2 (by omega)
 have e8 : (x.k == 8) = false := beq_eq_false_iff_ne.2 (by omega)
 have e9 : (x.k == 9) = false := beq_eq_false_iff_ne.2 (by omega)
 have e10 : (x.k == 10) = false := beq_eq_false_iff_ne.2 (by omega)
 have hF : codN XS self x pos en = [self] := by
  rw [codN_eq, hk]
  simp []
 rw [hF]
 refine FnM.of_awp (T := tt) (ok := tok) Try.func29 (by kernel_rfl) rfl (by kernel_rfl) (by kernel_rfl) rfl (fun w0 st0 lent c0 => ?_)
 dsimp only [frOf, hpFrom, List.length_cons, List.length_nil]
 (repeat' (first | refine ARun.buildSliceO rfl rfl rfl rfl rfl rfl rfl (buildSF_spec rfl) rfl (guardF_spec rfl) ?_ | refine goA ?_ | refine cX k0 ?_ | refine cX rxt_zb ?_ | refine cX rxt_br ?_ | refine appO rfl ?_ | refine ARun.bin rfl rfl bin_add rfl (guardF_spec rfl) ?_ | refine goB ?_ | fail))
 (refine awp_ret (fin_r rfl rfl rfl ?_ ?_) <;> (first | rfl | (simp only [List.map_append, List.map_cons, List.map_nil, List.append_assoc, List.cons_append, List.nil_append, List.append_nil, List.replicate_zero, encI] <;> rfl) | (congr 1; (simp only [List.map_append, List.map_cons, List.map_nil, List.append_assoc, List.cons_append, List.nil_append, List.append_nil, List.replicate_zero, encI] <;> rfl))))
set_option maxHeartbeats 8000000 in
theorem rpart_4 (x : Nod) (ok : okD x = true) (hk : x.k = 4) (hb : cntN x ≤ 100000) (ca : RrowC x.a) (cb : RrowC x.b) : RpartC x := by
 intro pos self en hp
 have b1 := sizS_bound x.a
 have b2 := sizS_bound x.b
 have b3 := cnt_ab x
 have b4 := oneS_bound x
 have oka := (okD_ab ok).1
 have okb := (okD_ab ok).2
 have k0 := ref_one_c x ok (by omega) (rsiz_c x.a (okD_ab ok).1 (by omega)) (rsiz_c x.b (okD_ab ok).2 (by omega))
 have e1 : (x.k == 1) = false := beq_eq_false_iff_ne.2 (by omega)
 have e2 : (x.k == 2) = false := beq_eq_false_iff_ne.2 (by omega)
 have e3 : (x.k == 3) = false := beq_eq_false_iff_ne.2 (by omega)
 have e4 : (x.k == 4) = true := beq_iff_eq.2 hk
 have e5 : (x.k == 5) = false := beq_eq_false_iff_ne.2 (by omega)
 have e6 : (x.k == 6) = false := beq_eq_false_iff_ne.2 (by omega)
 have e7 : (x.k == 7) = false := beq_eq_false_iff_ne.2 (by omega)
 have e8 : (x.k == 8) = false := beq_eq_false_iff_ne.2 (by omega)
 have e9 : (x.k == 9) = false := beq_eq_false_iff_ne.2 (by omega)
 have e10 : (x.k == 10) = false := beq_eq_false_iff_ne.2 (by omega)
 have ka := ca pos self en hp
 have za : ((codL XS self x.a (pos) en).length : Int) = sizS x.a := codL_len _ _ _ _ _ oka
 have zm := mlen (codL XS self x.a (pos) en)
 have hF : codN XS self x pos en = codL XS self x.a pos en ++ [XS.zb, pos] := by
  rw [codN_eq, hk]
  simp []
 rw [hF]
 refine FnM.of_awp (T := tt) (ok := tok) Try.func29 (by kernel_rfl) rfl (by kernel_rfl) (by kernel_rfl) rfl (fun w0 st0 lent c0 => ?_)
 dsimp only [frOf, hpFrom, List.length_cons, List.length_nil]
 (repeat' (first | refine ARun.buildSliceO rfl rfl rfl rfl rfl rfl rfl (buildSF_spec rfl) rfl (guardF_spec rfl) ?_ | refine goA ?_ | refine cX k0 ?_ | refine cX rxt_zb ?_ | refine cX rxt_br ?_ | refine callRo ka rfl (by (repeat (refine RelL.cons (.wk (.same _) (by first | exact .val _ | exact closed_tr _ | exact .agg (NC_closed _))) ?_)); exact RelL.nil _) (map_cl _) rfl rfl rfl ?_ | refine appO rfl ?_ | refine ARun.bin rfl rfl bin_add rfl (guardF_spec rfl) ?_ | refine goB ?_ | fail))
 (refine awp_ret (fin_r rfl rfl rfl ?_ ?_) <;> (first | rfl | (simp only [List.map_append, List.map_cons, List.map_nil, List.append_assoc, List.cons_append, List.nil_append, List.append_nil, List.replicate_zero, encI] <;> rfl) | (congr 1; (simp only [List.map_append, List.map_cons, List.map_nil, List.append_assoc, List.cons_append, List.nil_append, List.append_nil, List.replicate_zero, encI] <;> rfl))))
set_option maxHeartbeats 8000000 in
theorem rpart_5 (x : Nod) (ok : okD x = true) (hk : x.k = 5) (hb : cntN x ≤ 100000) (ca : RrowC x.a) (cb : RrowC x.b) : RpartC x := by
 intro pos self en hp
 have b1 := sizS_bound x.a
 have b2 := sizS_bound x.b
 have b3 := cnt_ab x
 have b4 := oneS_bound x
 have oka := (okD_ab ok).1
 have okb := (okD_ab ok).2
 have k0 := ref_one_c x ok (by omega) (rsiz_c x.a (okD_ab ok).1 (by omega)) (rsiz_c x.b (okD_ab ok).2 (by omega))
 have e1 : (x.k == 1) = false := beq_eq_false_iff_ne.2 (by omega)
 have e2 : (x.k == 2) = false := beq_eq_false_iff_ne.2 (by omega)
 have e3 : (x.k == 3) = false := beq_eq_false_iff_ne.2 (by omega)
 have e4 : (x.k == 4) = false := beq_eq_false_iff_ne.2 (by omega)
 have e5 : (x.k == 5) = true := beq_iff_eq.2 hk
 have e6 : (x.k == 6) = false := beq_eq_false_iff_ne.2 (by omega)
 have e7 : (x.k == 7) = false := beq_eq_false_iff_ne.2 (by omega)
 have e8 : (x.k == 8) = false := beq_eq_false_iff_ne.2 (by omega)
 have e9 : (x.k == 9) = false := beq_eq_false_iff_ne.2 (by omega)
 have e10 : (x.k == 10) = false := beq_eq_false_iff_ne.2 (by omega)
 have ka := ca pos self en hp
 have za : ((codL XS self x.a (pos) en).length : Int) = sizS x.a := codL_len _ _ _ _ _ oka
 have zm := mlen (codL XS self x.a (pos) en)
 have hF : codN XS self x pos en = codL XS self x.a pos en ++ [XS.br, pos] := by
  rw [codN_eq, hk]
  simp []
 rw [hF]
 refine FnM.of_awp (T := tt) (ok := tok) Try.func29 (by kernel_rfl) rfl (by kernel_rfl) (by kernel_rfl) rfl (fun w0 st0 lent c0 => ?_)
 dsimp only [frOf, hpFrom, List.length_cons, List.length_nil]
 (repeat' (first | refine ARun.buildSliceO rfl rfl rfl rfl rfl rfl rfl (buildSF_spec rfl) rfl (guardF_spec rfl) ?_ | refine goA ?_ | refine cX k0 ?_ | refine cX rxt_zb ?_ | refine cX rxt_br ?_ | refine callRo ka rfl (by (repeat (refine RelL.cons (.wk (.same _) (by first | exact .val _ | exact closed_tr _ | exact .agg (NC_closed _))) ?_)); exact RelL.nil _) (map_cl _) rfl rfl rfl ?_ | refine appO rfl ?_ | refine ARun.bin rfl rfl bin_add rfl (guardF_spec rfl) ?_ | refine goB ?_ | fail))
 (refine awp_ret (fin_r rfl rfl rfl ?_ ?_) <;> (first | rfl | (simp only [List.map_append, List.map_cons, List.map_nil, List.append_assoc, List.cons_append, List.nil_append, List.append_nil, List.replicate_zero, encI] <;> rfl) | (congr 1; (simp only [List.map_append, List.map_cons, List.map_nil, List.append_assoc, List.cons_append, List.nil_append, List.append_nil, List.replicate_zero, encI] <;> rfl))))
set_option maxHeartbeats 8000000 in
theorem rpart_30 (x : Nod) (ok : okD x = true) (hk : x.k = 3) (hn : x.n = 0) (hb : cntN x ≤ 100000) (ca : RrowC x.a) (cb : RrowC x.b) : RpartC x := by
 intro pos self en hp
 have b1 := sizS_bound x.a
 have b2 := sizS_bound x.b
 have b3 := cnt_ab x
 have b4 := oneS_bound x
 have oka := (okD_ab ok).1
 have okb := (okD_ab ok).2
 have k0 := ref_one_c x ok (by omega) (rsiz_c x.a (okD_ab ok).1 (by omega)) (rsiz_c x.b (okD_ab ok).2 (by omega))
 have e1 : (x.k == 1) = false := beq_eq_false_iff_ne.2 (by omega)
 have e2 : (x.k == 2) = false := beq_eq_false_iff_ne.2 (by omega)
 have e3 : (x.k == 3) = true := beq_iff_eq.2 hk
 have e4 : (x.k == 4) = false := beq_eq_false_iff_ne.2 (by omega)
 have e5 : (x.k == 5) = false := beq_eq_false_iff_ne.2 (by omega)
 have e6 : (x.k == 6) = false := beq_eq_false_iff_ne.2 (by omega)
 have e7 : (x.k == 7) = false := beq_eq_false_iff_ne.2 (by omega)
 have e8 : (x.k == 8) = false := beq_eq_false_iff_ne.2 (by omega)
 have e9 : (x.k == 9) = false := beq_eq_false_iff_ne.2 (by omega)
 have e10 : (x.k == 10) = false := beq_eq_false_iff_ne.2 (by omega)
 have e0 : (x.n == 0) = true := beq_iff_eq.2 hn
 have ka := ca (wr (pos + 16)) self en (wr_range _)
 have za : ((codL XS self x.a (wr (pos + 16)) en).length : Int) = sizS x.a := codL_len _ _ _ _ _ oka
 have zm := mlen (codL XS self x.a (wr (pos + 16)) en)
 have hF : codN XS self x pos en = [XS.zb, wr (pos + 8 * oneS x)] ++ codL XS self x.a (wr (pos + 16)) en := by
  rw [codN_eq, hk]
  simp [hn]
 rw [hF]
 refine FnM.of_awp (T := tt) (ok := tok) Try.func29 (by kernel_rfl) rfl (by kernel_rfl) (by kernel_rfl) rfl (fun w0 st0 lent c0 => ?_)
 dsimp only [frOf, hpFrom, List.length_cons, List.length_nil]
 (repeat' (first | refine ARun.buildSliceO rfl rfl rfl rfl rfl rfl rfl (buildSF_spec rfl) rfl (guardF_spec rfl) ?_ | refine goA ?_ | refine cX k0 ?_ | refine cX rxt_zb ?_ | refine cX rxt_br ?_ | refine callRo ka rfl (by (repeat (refine RelL.cons (.wk (.same _) (by first | exact .val _ | exact closed_tr _ | exact .agg (NC_closed _))) ?_)); exact RelL.nil _) (map_cl _) rfl rfl rfl ?_ | refine appO rfl ?_ | refine ARun.bin rfl rfl bin_add rfl (guardF_spec rfl) ?_ | refine goB ?_ | fail))
 (refine awp_ret (fin_r rfl rfl rfl ?_ ?_) <;> (first | rfl | (simp only [List.map_append, List.map_cons, List.map_nil, List.append_assoc, List.cons_append, List.nil_append, List.append_nil, List.replicate_zero, encI] <;> rfl) | (congr 1; (simp only [List.map_append, List.map_cons, List.map_nil, List.append_assoc, List.cons_append, List.nil_append, List.append_nil, List.replicate_zero, encI] <;> rfl))))
set_option maxHeartbeats 8000000 in
theorem rpart_31 (x : Nod) (ok : okD x = true) (hk : x.k = 3) (hn : x.n = 1) (hb : cntN x ≤ 100000) (ca : RrowC x.a) (cb : RrowC x.b) : RpartC x := by
 intro pos self en hp
 have b1 := sizS_bound x.a
 have b2 := sizS_bound x.b
 have b3 := cnt_ab x
 have b4 := oneS_bound x
 have oka := (okD_ab ok).1
 have okb := (okD_ab ok).2
 have k0 := ref_one_c x ok (by omega) (rsiz_c x.a (okD_ab ok).1 (by omega)) (rsiz_c x.b (okD_ab ok).2 (by omega))
 have e1 : (x.k == 1) = false := beq_eq_false_iff_ne.2 (by omega)
 have e2 : (x.k == 2) = false := beq_eq_false_iff_ne.2 (by omega)
 have e3 : (x.k == 3) = true := beq_iff_eq.2 hk
 have e4 : (x.k == 4) = false := beq_eq_false_iff_ne.2 (by omega)
 have e5 : (x.k == 5) = false := beq_eq_false_iff_ne.2 (by omega)
 have e6 : (x.k == 6) = false := beq_eq_false_iff_ne.2 (by omega)
 have e7 : (x.k == 7) = false := beq_eq_false_iff_ne.2 (by omega)
 have e8 : (x.k == 8) = false := beq_eq_false_iff_ne.2 (by omega)
 have e9 : (x.k == 9) = false := beq_eq_false_iff_ne.2 (by omega)
 have e10 : (x.k == 10) = false := beq_eq_false_iff_ne.2 (by omega)
 have e0 : (x.n == 0) = false := beq_eq_false_iff_ne.2 (by omega)
 have ka := ca (wr (pos + 16)) self en (wr_range _)
 have za : ((codL XS self x.a (wr (pos + 16)) en).length : Int) = sizS x.a := codL_len _ _ _ _ _ oka
 have zm := mlen (codL XS self x.a (wr (pos + 16)) en)
 obtain ⟨S, hS⟩ : ∃ S, S = wr (wr (pos + 32) + 8 * (((codL XS self x.a (wr (pos + 16)) en).map encI).length : Nat)) := ⟨_, rfl⟩
 have hS2 : wr (pos + 8 * (4 + sizS x.a)) = S := by rw [hS, wr_wr, zm, za]; congr 1; omega
 have kb := cb S self en (by rw [hS]; exact wr_range _)
 have zb : ((codL XS self x.b S en).length : Int) = sizS x.b := codL_len _ _ _ _ _ okb
 have zn := mlen (codL XS self x.b S en)
 have hF : codN XS self x pos en = [XS.zb, S] ++ codL XS self x.a (wr (pos + 16)) en ++ [XS.br, wr (pos + 8 * oneS x)] ++ codL XS self x.b S en := by
  rw [codN_eq, hk]
  simp [hn, hS2]
 rw [hF]
 clear hS2 hF
 subst hS
 refine FnM.of_awp (T := tt) (ok := tok) Try.func29 (by kernel_rfl) rfl (by kernel_rfl) (by kernel_rfl) rfl (fun w0 st0 lent c0 => ?_)
 dsimp only [frOf, hpFrom, List.length_cons, List.length_nil]
 (repeat' (first | refine ARun.buildSliceO rfl rfl rfl rfl rfl rfl rfl (buildSF_spec rfl) rfl (guardF_spec rfl) ?_ | refine goA ?_ | refine cX k0 ?_ | refine cX rxt_zb ?_ | refine cX rxt_br ?_ | refine callRo ka rfl (by (repeat (refine RelL.cons (.wk (.same _) (by first | exact .val _ | exact closed_tr _ | exact .agg (NC_closed _))) ?_)); exact RelL.nil _) (map_cl _) rfl rfl rfl ?_ | refine callRo kb rfl (by (repeat (refine RelL.cons (.wk (.same _) (by first | exact .val _ | exact closed_tr _ | exact .agg (NC_closed _))) ?_)); exact RelL.nil _) (map_cl _) rfl rfl rfl ?_ | refine appO rfl ?_ | refine ARun.bin rfl rfl bin_add rfl (guardF_spec rfl) ?_ | refine goB ?_ | fail))
 (refine awp_ret (fin_r rfl rfl rfl ?_ ?_) <;> (first | rfl | (simp only [List.map_append, List.map_cons, List.map_nil, List.append_assoc, List.cons_append, List.nil_append, List.append_nil, List.replicate_zero, encI] <;> rfl) | (congr 1; (simp only [List.map_append, List.map_cons, List.map_nil, List.append_assoc, List.cons_append, List.nil_append, List.append_nil, List.replicate_zero, encI] <;> rfl))))
set_option maxHeartbeats 8000000 in
theorem rpart_6 (x : Nod) (ok : okD x = true) (hk : x.k = 6) (hb : cntN x ≤ 100000) (ca : RrowC x.a) (cb : RrowC x.b) : RpartC x := by
 intro pos self en hp
 have b1 := sizS_bound x.a
 have b2 := sizS_bound x.b
 have b3 := cnt_ab x
 have b4 := oneS_bound x
 have oka := (okD_ab ok).1
 have okb := (okD_ab ok).2
 have k0 := ref_one_c x ok (by omega) (rsiz_c x.a (okD_ab ok).1 (by omega)) (rsiz_c x.b (okD_ab ok).2 (by omega))
 have e1 : (x.k == 1) = false := beq_eq_false_iff_ne.2 (by omega)
 have e2 : (x.k == 2) = false := beq_eq_false_iff_ne.2 (by omega)
 have e3 : (x.k == 3) = false := beq_eq_false_iff_ne.2 (by omega)
 have e4 : (x.k == 4) = false := beq_eq_false_iff_ne.2 (by omega)
 have e5 : (x.k == 5) = false := beq_eq_false_iff_ne.2 (by omega)
 have e6 : (x.k == 6) = true := beq_iff_eq.2 hk
 have e7 : (x.k == 7) = false := beq_eq_false_iff_ne.2 (by omega)
 have e8 : (x.k == 8) = false := beq_eq_false_iff_ne.2 (by omega)
 have e9 : (x.k == 9) = false := beq_eq_false_iff_ne.2 (by omega)
 have e10 : (x.k == 10) = false := beq_eq_false_iff_ne.2 (by omega)
 have ka := ca pos self en hp
 have za : ((codL XS self x.a (pos) en).length : Int) = sizS x.a := codL_len _ _ _ _ _ oka
 have zm := mlen (codL XS self x.a (pos) en)
 obtain ⟨S, hS⟩ : ∃ S, S = wr (pos + 8 * (((codL XS self x.a pos en).map encI ++ [[AV.val (.int .i64 XS.zb)], [AV.val (.int .i64 (wr (pos + 8 * oneS x)))]]).length : Nat)) := ⟨_, rfl⟩
 have hS2 : wr (pos + 8 * (sizS x.a + 2)) = S := by rw [hS, List.length_append]; congr 1; simp only [List.length_cons, List.length_nil]; omega
 have kb := cb S self en (by rw [hS]; exact wr_range _)
 have zb : ((codL XS self x.b S en).length : Int) = sizS x.b := codL_len _ _ _ _ _ okb
 have zn := mlen (codL XS self x.b S en)
 have hF : codN XS self x pos en = codL XS self x.a pos en ++ [XS.zb, wr (pos + 8 * oneS x)] ++ codL XS self x.b S en ++ [XS.br, pos] := by
  rw [codN_eq, hk]
  simp [hS2]
 rw [hF]
 clear hS2 hF
 subst hS
 refine FnM.of_awp (T := tt) (ok := tok) Try.func29 (by kernel_rfl) rfl (by kernel_rfl) (by kernel_rfl) rfl (fun w0 st0 lent c0 => ?_)
 dsimp only [frOf, hpFrom, List.length_cons, List.length_nil]
 (repeat' (first | refine ARun.buildSliceO rfl rfl rfl rfl rfl rfl rfl (buildSF_spec rfl) rfl (guardF_spec rfl) ?_ | refine goA ?_ | refine cX k0 ?_ | refine cX rxt_zb ?_ | refine cX rxt_br ?_ | refine callRo ka rfl (by (repeat (refine RelL.cons (.wk (.same _) (by first | exact .val _ | exact closed_tr _ | exact .agg (NC_closed _))) ?_)); exact RelL.nil _) (map_cl _) rfl rfl rfl ?_ | refine callRo kb rfl (by (repeat (refine RelL.cons (.wk (.same _) (by first | exact .val _ | exact closed_tr _ | exact .agg (NC_closed _))) ?_)); exact RelL.nil _) (map_cl _) rfl rfl rfl ?_ | refine appO rfl ?_ | refine ARun.bin rfl rfl bin_add rfl (guardF_spec rfl) ?_ | refine goB ?_ | fail))
 (refine awp_ret (fin_r rfl rfl rfl ?_ ?_) <;> (first | rfl | (simp only [List.map_append, List.map_cons, List.map_nil, List.append_assoc, List.cons_append, List.nil_append, List.append_nil, List.replicate_zero, encI] <;> rfl) | (congr 1; (simp only [List.map_append, List.map_cons, List.map_nil, List.append_assoc, List.cons_append, List.nil_append, List.append_nil, List.replicate_zero, encI] <;> rfl))))
set_option maxHeartbeats 8000000 in
theorem rpart_70 (x : Nod) (ok : okD x = true) (hk : x.k = 7) (hn : x.n = 0) (hb : cntN x ≤ 100000) (ca : RrowC x.a) (cb : RrowC x.b) : RpartC x := by
 intro pos self en hp
 have b1 := sizS_bound x.a
 have b2 := sizS_bound x.b
 have b3 := cnt_ab x
 have b4 := oneS_bound x
 have oka := (okD_ab ok).1
 have okb := (okD_ab ok).2
 have k0 := ref_one_c x ok (by omega) (rsiz_c x.a (okD_ab ok).1 (by omega)) (rsiz_c x.b (okD_ab ok).2 (by omega))
 have e1 : (x.k == 1) = false := beq_eq_false_iff_ne.2 (by omega)
 have e2 : (x.k == 2) = false := beq_eq_false_iff_ne.2 (by omega)
 have e3 : (x.k == 3) = false := beq_eq_false_iff_ne.2 (by omega)
 have e4 : (x.k == 4) = false := beq_eq_false_iff_ne.2 (by omega)
 have e5 : (x.k == 5) = false := beq_eq_false_iff_ne.2 (by omega)
 have e6 : (x.k == 6) = false := beq_eq_false_iff_ne.2 (by omega)
 have e7 : (x.k == 7) = true := beq_iff_eq.2 hk
 have e8 : (x.k == 8) = false := beq_eq_false_iff_ne.2 (by omega)
 have e9 : (x.k == 9) = false := beq_eq_false_iff_ne.2 (by omega)
 have e10 : (x.k == 10) = false := beq_eq_false_iff_ne.2 (by omega)
 have e0 : (x.n == 1) = false := beq_eq_false_iff_ne.2 (by omega)
 have ka := ca (wr (pos + 8)) self (wr (pos + 8 * oneS x)) (wr_range _)
 have za : ((codL XS self x.a (wr (pos + 8)) (wr (pos + 8 * oneS x))).length : Int) = sizS x.a := codL_len _ _ _ _ _ oka
 have zm := mlen (codL XS self x.a (wr (pos + 8)) (wr (pos + 8 * oneS x)))
 have hF : codN XS self x pos en = [XS.doo] ++ codL XS self x.a (wr (pos + 8)) (wr (pos + 8 * oneS x)) ++ [XS.lp, wr (pos + 8)] := by
  rw [codN_eq, hk]
  simp [hn]
 rw [hF]
 refine FnM.of_awp (T := tt) (ok := tok) Try.func29 (by kernel_rfl) rfl (by kernel_rfl) (by kernel_rfl) rfl (fun w0 st0 lent c0 => ?_)
 dsimp only [frOf, hpFrom, List.length_cons, List.length_nil]
 (repeat' (first | refine ARun.buildSliceO rfl rfl rfl rfl rfl rfl rfl (buildSF_spec rfl) rfl (guardF_spec rfl) ?_ | refine goA ?_ | refine cX k0 ?_ | refine cX rxt_zb ?_ | refine cX rxt_br ?_ | refine callRo ka rfl (by (repeat (refine RelL.cons (.wk (.same _) (by first | exact .val _ | exact closed_tr _ | exact .agg (NC_closed _))) ?_)); exact RelL.nil _) (map_cl _) rfl rfl rfl ?_ | refine cX rxt_doo ?_ | refine cX rxt_qdo ?_ | refine cX rxt_lp ?_ | refine cX rxt_plp ?_ | refine appO rfl ?_ | refine ARun.bin rfl rfl bin_add rfl (guardF_spec rfl) ?_ | refine goB ?_ | fail))
 (refine awp_ret (fin_r rfl rfl rfl ?_ ?_) <;> (first | rfl | (simp only [List.map_append, List.map_cons, List.map_nil, List.append_assoc, List.cons_append, List.nil_append, List.append_nil, List.replicate_zero, encI] <;> rfl) | (congr 1; (simp only [List.map_append, List.map_cons, List.map_nil, List.append_assoc, List.cons_append, List.nil_append, List.append_nil, List.replicate_zero, encI] <;> rfl))))
set_option maxHeartbeats 8000000 in
theorem rpart_71 (x : Nod) (ok : okD x = true) (hk : x.k = 7) (hn : x.n = 1) (hb : cntN x ≤ 100000) (ca : RrowC x.a) (cb : RrowC x.b) : RpartC x := by
 intro pos self en hp
 have b1 := sizS_bound x.a
 have b2 := sizS_bound x.b
 have b3 := cnt_ab x
 have b4 := oneS_bound x
 have oka := (okD_ab ok).1
 have okb := (okD_ab ok).2
 have k0 := ref_one_c x ok (by omega) (rsiz_c x.a (okD_ab ok).1 (by omega)) (rsiz_c x.b (okD_ab ok).2 (by omega))
 have e1 : (x.k == 1) = false := beq_eq_false_iff_ne.2 (by omega)
 have e2 : (x.k == 2) = false := beq_eq_false_iff_ne.2 (by omega)
 have e3 : (x.k == 3) = false := beq_eq_false_iff_ne.2 (by omega)
 have e4 : (x.k == 4) = false := beq_eq_false_iff_ne.2 (by omega)
 have e5 : (x.k == 5) = false := beq_eq_false_iff_ne.2 (by omega)
 have e6 : (x.k == 6) = false := beq_eq_false_iff_ne.2 (by omega)
 have e7 : (x.k == 7) = true := beq_iff_eq.2 hk
 have e8 : (x.k == 8) = false := beq_eq_false_iff_ne.2 (by omega)
 have e9 : (x.k == 9) = false := beq_eq_false_iff_ne.2 (by omega)
 have e10 : (x.k == 10) = false := beq_eq_false_iff_ne.2 (by omega)
 have e0 : (x.n == 1) = true := beq_iff_eq.2 hn
 have ka := ca (wr (pos + 16)) self (wr (pos + 8 * oneS x)) (wr_range _)
 have za : ((codL XS self x.a (wr (pos + 16)) (wr (pos + 8 * oneS x))).length : Int) = sizS x.a := codL_len _ _ _ _ _ oka
 have zm := mlen (codL XS self x.a (wr (pos + 16)) (wr (pos + 8 * oneS x)))
 have hF : codN XS self x pos en = [XS.qdo, wr (pos + 8 * oneS x)] ++ codL XS self x.a (wr (pos + 16)) (wr (pos + 8 * oneS x)) ++ [XS.lp, wr (pos + 16)] := by
  rw [codN_eq, hk]
  simp [hn]
 rw [hF]
 refine FnM.of_awp (T := tt) (ok := tok) Try.func29 (by kernel_rfl) rfl (by kernel_rfl) (by kernel_rfl) rfl (fun w0 st0 lent c0 => ?_)
 dsimp only [frOf, hpFrom, List.length_cons, List.length_nil]
 (repeat' (first | refine ARun.buildSliceO rfl rfl rfl rfl rfl rfl rfl (buildSF_spec rfl) rfl (guardF_spec rfl) ?_ | refine goA ?_ | refine cX k0 ?_ | refine cX rxt_zb ?_ | refine cX rxt_br ?_ | refine callRo ka rfl (by (repeat (refine RelL.cons (.wk (.same _) (by first | exact .val _ | exact closed_tr _ | exact .agg (NC_closed _))) ?_)); exact RelL.nil _) (map_cl _) rfl rfl rfl ?_ | refine cX rxt_doo ?_ | refine cX rxt_qdo ?_ | refine cX rxt_lp ?_ | refine cX rxt_plp ?_ | refine appO rfl ?_ | refine ARun.bin rfl rfl bin_add rfl (guardF_spec rfl) ?_ | refine goB ?_ | fail))
 (refine awp_ret (fin_r rfl rfl rfl ?_ ?_) <;> (first | rfl | (simp only [List.map_append, List.map_cons, List.map_nil, List.append_assoc, List.cons_append, List.nil_append, List.append_nil, List.replicate_zero, encI] <;> rfl) | (congr 1; (simp only [List.map_append, List.map_cons, List.map_nil, List.append_assoc, List.cons_append, List.nil_append, List.append_nil, List.replicate_zero, encI] <;> rfl))))
set_option maxHeartbeats 8000000 in
theorem rpart_80 (x : Nod) (ok : okD x = true) (hk : x.k = 8) (hn : x.n = 0) (hb : cntN x ≤ 100000) (ca : RrowC x.a) (cb : RrowC x.b) : RpartC x := by
 intro pos self en hp
 have b1 := sizS_bound x.a
 have b2 := sizS_bound x.b
 have b3 := cnt_ab x
 have b4 := oneS_bound x
 have oka := (okD_ab ok).1
 have okb := (okD_ab ok).2
 have k0 := ref_one_c x ok (by omega) (rsiz_c x.a (okD_ab ok).1 (by omega)) (rsiz_c x.b (okD_ab ok).2 (by omega))
 have e1 : (x.k == 1) = false := beq_eq_false_iff_ne.2 (by omega)
 have e2 : (x.k == 2) = false := beq_eq_false_iff_ne.2 (by omega)
 have e3 : (x.k == 3) = false := beq_eq_false_iff_ne.2 (by omega)
 have e4 : (x.k == 4) = false := beq_eq_false_iff_ne.2 (by omega)
 have e5 : (x.k == 5) = false := beq_eq_false_iff_ne.2 (by omega)
 have e6 : (x.k == 6) = false := beq_eq_false_iff_ne.2 (by omega)
 have e7 : (x.k == 7) = false := beq_eq_false_iff_ne.2 (by omega)
 have e8 : (x.k == 8) = true := beq_iff_eq.2 hk
 have e9 : (x.k == 9) = false := beq_eq_false_iff_ne.2 (by omega)
 have e10 : (x.k == 10) = false := beq_eq_false_iff_ne.2 (by omega)
 have e0 : (x.n == 1) = false := beq_eq_false_iff_ne.2 (by omega)
 have ka := ca (wr (pos + 8)) self (wr (pos + 8 * oneS x)) (wr_range _)
 have za : ((codL XS self x.a (wr (pos + 8)) (wr (pos + 8 * oneS x))).length : Int) = sizS x.a := codL_len _ _ _ _ _ oka
 have zm := mlen (codL XS self x.a (wr (pos + 8)) (wr (pos + 8 * oneS x)))
 have hF : codN XS self x pos en = [XS.doo] ++ codL XS self x.a (wr (pos + 8)) (wr (pos + 8 * oneS x)) ++ [XS.plp, wr (pos + 8)] := by
  rw [codN_eq, hk]
  simp [hn]
 rw [hF]
 refine FnM.of_awp (T := tt) (ok := tok) Try.func29 (by kernel_rfl) rfl (by kernel_rfl) (by kernel_rfl) rfl (fun w0 st0 lent c0 => ?_)
 dsimp only [frOf, hpFrom, List.length_cons, List.length_nil]
 (repeat' (first | refine ARun.buildSliceO rfl rfl rfl rfl rfl rfl rfl (buildSF_spec rfl) rfl (guardF_spec rfl) ?_ | refine goA ?_ | refine cX k0 ?_ | refine cX rxt_zb ?_ | refine cX rxt_br ?_ | refine callRo ka rfl (by (repeat (refine RelL.cons (.wk (.same _) (by first | exact .val _ | exact closed_tr _ | exact .agg (NC_closed _))) ?_)); exact RelL.nil _) (map_cl _) rfl rfl rfl ?_ | refine cX rxt_doo ?_ | refine cX rxt_qdo ?_ | refine cX rxt_lp ?_ | refine cX rxt_plp ?_ | refine appO rfl ?_ | refine ARun.bin rfl rfl bin_add rfl (guardF_spec rfl) ?_ | refine goB ?_ | fail))
 (refine awp_ret (fin_r rfl rfl rfl ?_ ?_) <;> (first | rfl | (simp only [List.map_append, List.map_cons, List.map_nil, List.append_assoc, List.cons_append, List.nil_append, List.append_nil, List.replicate_zero, encI] <;> rfl) | (congr 1; (simp only [List.map_append, List.map_cons, List.map_nil, List.append_assoc, List.cons_append, List.nil_append, List.append_nil, List.replicate_zero, encI] <;> rfl))))
set_option maxHeartbeats 8000000 in
theorem rpart_81 (x : Nod) (ok : okD x = true) (hk : x.k = 8) (hn : x.n = 1) (hb : cntN x ≤ 100000) (ca : RrowC x.a) (cb : RrowC x.b) : RpartC x := by
 intro pos self en hp
 have b1 := sizS_bound x.a
 have b2 := sizS_bound x.b
 have b3 := cnt_ab x
 have b4 := oneS_bound x
 have oka := (okD_ab ok).1
 have okb := (okD_ab ok).2
 have k0 := ref_one_c x ok (by omega) (rsiz_c x.a (okD_ab ok).1 (by omega)) (rsiz_c x.b (okD_ab ok).2 (by omega))
 have e1 : (x.k == 1) = false := beq_eq_false_iff_ne.2 (by omega)
 have e2 : (x.k == 2) = false := beq_eq_false_iff_ne.2 (by omega)
 have e3 : (x.k == 3) = false := beq_eq_false_iff_ne.2 (by omega)
 have e4 : (x.k == 4) = false := beq_eq_false_iff_ne.2 (by omega)
 have e5 : (x.k == 5) = false := beq_eq_false_iff_ne.2 (by omega)
 have e6 : (x.k == 6) = false := beq_eq_false_iff_ne.2 (by omega)
 have e7 : (x.k == 7) = false := beq_eq_false_iff_ne.2 (by omega)
 have e8 : (x.k == 8) = true := beq_iff_eq.2 hk
 have e9 : (x.k == 9) = false := beq_eq_false_iff_ne.2 (by omega)
 have e10 : (x.k == 10) = false := beq_eq_false_iff_ne.2 (by omega)
 have e0 : (x.n == 1) = true := beq_iff_eq.2 hn
 have ka := ca (wr (pos + 16)) self (wr (pos + 8 * oneS x)) (wr_range _)
 have za : ((codL XS self x.a (wr (pos + 16)) (wr (pos + 8 * oneS x))).length : Int) = sizS x.a := codL_len _ _ _ _ _ oka
 have zm := mlen (codL XS self x.a (wr (pos + 16)) (wr (pos + 8 * oneS x)))
 have hF : codN XS self x pos en = [XS.qdo, wr (pos + 8 * oneS x)] ++ codL XS self x.a (wr (pos + 16)) (wr (pos + 8 * oneS x)) ++ [XS.plp, wr (pos + 16)] := by
  rw [codN_eq, hk]
  simp [hn]
 rw [hF]
 refine FnM.of_awp (T := tt) (ok := tok) Try.func29 (by kernel_rfl) rfl (by kernel_rfl) (by kernel_rfl) rfl (fun w0 st0 lent c0 => ?_)
 dsimp only [frOf, hpFrom, List.length_cons, List.length_nil]
 (repeat' (first | refine ARun.buildSliceO rfl rfl rfl rfl rfl rfl rfl (buildSF_spec rfl) rfl (guardF_spec rfl) ?_ | refine goA ?_ | refine cX k0 ?_ | refine cX rxt_zb ?_ | refine cX rxt_br ?_ | refine callRo ka rfl (by (repeat (refine RelL.cons (.wk (.same _) (by first | exact .val _ | exact closed_tr _ | exact .agg (NC_closed _))) ?_)); exact RelL.nil _) (map_cl _) rfl rfl rfl ?_ | refine cX rxt_doo ?_ | refine cX rxt_qdo ?_ | refine cX rxt_lp ?_ | refine cX rxt_plp ?_ | refine appO rfl ?_ | refine ARun.bin rfl rfl bin_add rfl (guardF_spec rfl) ?_ | refine goB ?_ | fail))
 (refine awp_ret (fin_r rfl rfl rfl ?_ ?_) <;> (first | rfl | (simp only [List.map_append, List.map_cons, List.map_nil, List.append_assoc, List.cons_append, List.nil_append, List.append_nil, List.replicate_zero, encI] <;> rfl) | (congr 1; (simp only [List.map_append, List.map_cons, List.map_nil, List.append_assoc, List.cons_append, List.nil_append, List.append_nil, List.replicate_zero, encI] <;> rfl))))
theorem rpart_m (x : Nod) (ok : okD x = true) (hb : cntN x ≤ 100000) (ca : RrowC x.a) (cb : RrowC x.b) : RpartC x := by
 rcases kinds ok with hk | ⟨hk, hn⟩ | hk | hk | hk | ⟨hk, hn⟩
 ·rcases hk with hk | hk | hk | hk | hk
  ·exact rpart_1 x ok hk hb ca cb
  ·exact rpart_2 x ok hk hb ca cb
  ·exact rpart_9 x ok hk hb ca cb
  ·exact rpart_10 x ok hk hb ca cb
  ·exact rpart_11 x ok hk hb ca cb
 ·rcases hn with hn | hn
  ·exact rpart_31 x ok hk hn hb ca cb
  ·exact rpart_30 x ok hk hn hb ca cb
 ·exact rpart_4 x ok hk hb ca cb
 ·exact rpart_5 x ok hk hb ca cb
 ·exact rpart_6 x ok hk hb ca cb
 ·rcases hk with hk | hk <;> rcases hn with hn | hn
  ·exact rpart_70 x ok hk hn hb ca cb
  ·exact rpart_71 x ok hk hn hb ca cb
  ·exact rpart_80 x ok hk hn hb ca cb
  ·exact rpart_81 x ok hk hn hb ca cb
end Go.Proofs.Ytfphgelollhdhaa
