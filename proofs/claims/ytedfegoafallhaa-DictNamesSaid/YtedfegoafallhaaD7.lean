/- 'make' of a row that stays as it is. -/
import Derived.Test.YtedfegoafallhaaD6
namespace Go.Proofs.Ytedfegoafallhaa
set_option linter.unusedVariables false
set_option linter.unusedSimpArgs false
open Go Go.RowKit
set_option maxRecDepth 100000

theorem beq_int (x : Int) : (x == x) = true := beq_self_eq_true x
theorem bne_int (x : Int) : (x != x) = false := bne_self_eq_false x
theorem not_bne_int (x : Int) : (!(x != x)) = true := by rw [bne_int]; rfl
theorem not_beq_int (x : Int) : (!(x == x)) = false := by rw [beq_int]; rfl
section
variable {C : ACtx} {ops : Array Oper} {K : AS → List (List Nat × List Nat) → Prop} {k : Nat} {rest : List Oper} {fr : List (Nat × AV)} {hp : List (Nat × Option Blk)} {gc : Nat} {fps : List (List Nat × List Nat)}
  {d : Nat} {ty : TypeId} {pos : String} {after : Array Edge} {gd : Option (Nat × Bool)} {x y z : Operand} {v : AV}

theorem ARun.makeSliceZ {t e : Nat} {ti te : TI} {kx ky : IntKind} {i j : Int} {n : Nat} (hx : evA fr x = .val (.int kx i)) (hi : i = (n : Nat)) (hy : evA fr y = .val (.int ky j)) (hj : j = (n : Nat)) (ht : C.T t = some ti) (hk : ti.k = .slice e) (hte : C.T e = some te) (hz1 : te.zero.all Value.oneCell' = true) (hzl : te.zero.length = te.size) (h0 : Nat.blt 0 te.size = true)
    (hb : (te.bytes : Int) * n ≤ 281474976710656) (hd : Nat.blt d C.n = true) (hg : guardIs ops ⟨fr, hp, gc⟩ ⟨some d, .makeSlice t x y, ty, pos, after, gd⟩ true) (hm : n ≤ maxLen)
    (nx : ARun C ops K (k + 1) rest ⟨(d, .sl te.size true (List.replicate n (te.zero.map zv))) :: fr, hp, gc⟩ (fps ++ [([], [])])) : ARun C ops K k (⟨some d, .makeSlice t x y, ty, pos, after, gd⟩ :: rest) ⟨fr, hp, gc⟩ fps := by
  subst hi
  subst hj
  refine ARun.newSt hd hg (fun c a w hev => ?_) nx
  have h1' := hev x (by simp [Op.operands])
  have h2' := hev y (by simp [Op.operands])
  rw [hx] at h1'
  rw [hy] at h2'
  have h1' := h1'.val_inv
  have h2' := h2'.val_inv
  have h0' := lt_of_blt h0
  have hun := run_underlying' (und_slice ht hk) w
  have hs := run_sizeOf hte w
  obtain ⟨z, hz, hzc⟩ := run_zeroValue hte w
  obtain ⟨u0, i0, z0, hue, hie, hze, htee⟩ := ti_get hte
  have hbb : (i0.bytes : Int) * n ≤ 281474976710656 := by rw [htee] at hb; exact hb
  have g2 := zeros_in (c := c) (w := w) hzc hz1 hzl h0' n
  have hmm : (n : Int) ≤ 9223372036854775807 := by simp only [maxLen] at hm; omega
  have wn : IntKind.i64.wrap (n : Int) = n := IntWalk.i64_in _ (by omega)
  refine ⟨.slice (some ⟨w.heap.size, 0, none⟩) (List.replicate n (te.zero.map zv)).length (List.replicate n (te.zero.map zv)).length, .cells ((Array.range (n * te.size)).map (z.cells[· % z.cells.size]!)) e, ?_, fun hmn => sl_new g2 (by simpa using hm) hmn⟩
  have c1 : ¬ ((n : Int) < 0) := by omega
  have c2 : ¬ (281474976710656 < (i0.bytes : Int) * n) := by omega
  have hinfo : (typeInfo e).run C.P w = .ok i0 w := by simp [typeInfo, hie]
  unfold execOp Instr.makeSlice
  by_cases hn : n * te.size = 0
  · have hm0 : n = 0 := by
      rcases Nat.mul_eq_zero.1 hn with h | h
      · exact h
      · omega
    subst hm0
    have wn0 : IntKind.i64.wrap 0 = 0 := IntWalk.i64_in _ (by omega)
    simp [h1', h2', hun, asInt, asIntOf, hinfo, wn0, hs, newRow]
    congr 2
    apply Array.ext <;> simp
  · simp [h1', h2', hun, asInt, asIntOf, hinfo, wn, c1, c2, hs, hz, newRow]
    exact fun h => absurd h hn
end
end Go.Proofs.Ytedfegoafallhaa
