/- Operations on slices and aggregates. -/
import Derived.Test.YtedfegoafallhaaA6
namespace Go.Proofs.Ytedfegoafallhaa
set_option linter.unusedVariables false
set_option linter.unusedSimpArgs false
open Go Go.RowKit

section
variable {C : ACtx} {ops : Array Oper} {K : AS → List (List Nat × List Nat) → Prop} {k : Nat} {rest : List Oper} {fr : List (Nat × AV)} {hp : List (Nat × Option Blk)} {gc : Nat} {fps : List (List Nat × List Nat)}
  {d : Nat} {ty : TypeId} {pos : String} {after : Array Edge} {gd : Option (Nat × Bool)} {x y z : Operand} {v : AV}

theorem run_len {t : Nat} {ti : TI} {e : Nat} (ht : C.T t = some ti) (hk : ti.k = .slice e) (w : World) (A : Option Addr) (n cap : Nat) (ty : TypeId) : (Builtin.len_ #[t] ty #[.slice A n cap]).run C.P w = .ok (.int .i64 n) w := by
  have hu := run_underlying' (und_slice ht hk) w
  simp [Builtin.len_, hu, goInt]
theorem run_len_str {t : Nat} {ti : TI} (ht : C.T t = some ti) (hk : ti.k = .str) (w : World) (s : ByteArray) (ty : TypeId) : (Builtin.len_ #[t] ty #[.string s]).run C.P w = .ok (.int .i64 s.size) w := by
  have hu := run_underlying' (und_str ht hk) w
  simp [Builtin.len_, hu, goInt]

theorem ARun.len {t : Nat} {ti : TI} {e sz : Nat} {full : Bool} {els : List (List AV)} (hx : evA fr x = .sl sz full els) (ht : C.T t = some ti) (hk : ti.k = .slice e)
    (hd : Nat.blt d C.n = true) (hg : guardIs ops ⟨fr, hp, gc⟩ ⟨some d, .call ⟨.builtin .len, #[x], #[t]⟩, ty, pos, after, gd⟩ true)
    (nx : ARun C ops K (k + 1) rest ⟨(d, .val (.int .i64 els.length)) :: fr, hp, gc⟩ (fps ++ [([], [])])) : ARun C ops K k (⟨some d, .call ⟨.builtin .len, #[x], #[t]⟩, ty, pos, after, gd⟩ :: rest) ⟨fr, hp, gc⟩ fps :=
  ARun.quiet hd hg [] (by simp) (fun s c a w hS hev _ => by
    have h1 := hev x (by simp [Op.operands, Call.operands])
    rw [hx] at h1
    generalize hu : a.eval x = u at h1
    cases h1 with
    | sl _ _ _ A cap β o us a1 a2 a3 a4 a5 a6 a7 a8 => exact ⟨_, by simp [execOp, resolve, hu, invoke, builtin, run_len ht hk w], .val _⟩) nx
theorem ARun.len_own {t : Nat} {ti : TI} {e b g lo n : Nat} {blk : Blk} (hx : evA fr x = .own b g lo n) (hb : lkH hp b = some blk) (hgg : blk.gen = g) (ht : C.T t = some ti) (hk : ti.k = .slice e)
    (hd : Nat.blt d C.n = true) (hg : guardIs ops ⟨fr, hp, gc⟩ ⟨some d, .call ⟨.builtin .len, #[x], #[t]⟩, ty, pos, after, gd⟩ true)
    (nx : ARun C ops K (k + 1) rest ⟨(d, .val (.int .i64 n)) :: fr, hp, gc⟩ (fps ++ [([b], [])])) : ARun C ops K k (⟨some d, .call ⟨.builtin .len, #[x], #[t]⟩, ty, pos, after, gd⟩ :: rest) ⟨fr, hp, gc⟩ fps :=
  ARun.quiet hd hg [(b, blk)] (by simp [hb]) (fun s c a w hS hev hrd => by
    have h1 := hev x (by simp [Op.operands, Call.operands])
    rw [hx] at h1
    generalize hu : a.eval x = u at h1
    obtain ⟨o, ho, _⟩ := hS.hp b blk (hrd (b, blk) (by simp))
    rw [hgg] at ho
    cases h1 with
    | own _ _ _ _ A m cap hu' h =>
      obtain ⟨rfl, _⟩ := h o ho
      exact ⟨_, by simp [execOp, resolve, hu, invoke, builtin, run_len ht hk w], .val _⟩) nx
theorem ARun.len_str {t : Nat} {ti : TI} {s : ByteArray} (hx : evA fr x = .val (.string s)) (ht : C.T t = some ti) (hk : ti.k = .str)
    (hd : Nat.blt d C.n = true) (hg : guardIs ops ⟨fr, hp, gc⟩ ⟨some d, .call ⟨.builtin .len, #[x], #[t]⟩, ty, pos, after, gd⟩ true)
    (nx : ARun C ops K (k + 1) rest ⟨(d, .val (.int .i64 s.size)) :: fr, hp, gc⟩ (fps ++ [([], [])])) : ARun C ops K k (⟨some d, .call ⟨.builtin .len, #[x], #[t]⟩, ty, pos, after, gd⟩ :: rest) ⟨fr, hp, gc⟩ fps :=
  ARun.quiet hd hg [] (by simp) (fun s' c a w hS hev _ => by
    have h1 := hev x (by simp [Op.operands, Call.operands])
    rw [hx] at h1
    have h1 := h1.val_inv
    exact ⟨_, by simp [execOp, resolve, h1, invoke, builtin, run_len_str ht hk w], .val _⟩) nx

theorem run_indexAt {t : Nat} {ti te : TI} {e : Nat} (ht : C.T t = some ti) (hk : ti.k = .slice e) (hte : C.T e = some te) (w : World) (a : Addr) (n cap : Nat) (kk : IntKind) (i : Int) (h0 : 0 ≤ i) (h1 : i < n) :
    (Instr.indexAt t (.slice (some a) n cap) (.int kk i)).run C.P w = .ok (.pointer (some (a.add (i.toNat * te.size)))) w := by
  have hu := run_underlying' (und_slice ht hk) w
  simp [Instr.indexAt, asIntOf, hu, h0, h1, run_sizeOf hte]
theorem ARun.indexAddr {t : Nat} {ti te : TI} {e sz : Nat} {full : Bool} {els : List (List AV)} {el : List AV} {kk : IntKind} {i : Int} (hx : evA fr x = .sl sz full els) (hy : evA fr y = .val (.int kk i)) (h0 : 0 ≤ i) (hi : els[i.toNat]? = some el)
    (ht : C.T t = some ti) (hk : ti.k = .slice e) (hte : C.T e = some te) (hsz : te.size = sz) (hd : Nat.blt d C.n = true) (hg : guardIs ops ⟨fr, hp, gc⟩ ⟨some d, .indexAddr t x y, ty, pos, after, gd⟩ true)
    (nx : ARun C ops K (k + 1) rest ⟨(d, .rp el) :: fr, hp, gc⟩ (fps ++ [([], [])])) : ARun C ops K k (⟨some d, .indexAddr t x y, ty, pos, after, gd⟩ :: rest) ⟨fr, hp, gc⟩ fps :=
  ARun.quiet hd hg [] (by simp) (fun s c a w hS hev _ => by
    have h1 := hev x (by simp [Op.operands])
    have h2 := hev y (by simp [Op.operands])
    rw [hx] at h1
    rw [hy] at h2
    have h2 := h2.val_inv
    generalize hu : a.eval x = u at h1
    cases h1 with
    | sl _ _ _ A cap β o us a1 a2 a3 a4 a5 a6 a7 a8 =>
      have hlt := (List.getElem?_eq_some_iff.1 hi).1
      have hne : els ≠ [] := by intro e; subst e; simp at hi
      obtain ⟨hA, hst⟩ := a6 hne
      subst hA
      have hrun := run_indexAt ht hk hte w ⟨β, o, none⟩ els.length cap kk i h0 (by omega)
      rw [hsz, add_lit] at hrun
      refine ⟨.pointer (some ⟨β, o + i.toNat * sz, none⟩), by simp [execOp, hu, h2, hrun], .rp el β _ (fun f => us i.toNat f) (fun he => hst ?_) (fun f x hx => a7 i.toNat el f x hi hx) (fun f x hx => a8 i.toNat el f x hi hx)⟩
      have := a5 el (List.mem_of_getElem? hi)
      rcases Nat.eq_zero_or_pos sz with h | h
      · rw [h] at this
        exact absurd (List.eq_nil_of_length_eq_zero this) he
      · exact h) nx
theorem ARun.indexAddr_own {t : Nat} {ti te : TI} {e b g lo n : Nat} {blk : Blk} {kk : IntKind} {i : Int} (hx : evA fr x = .own b g lo n) (hb : lkH hp b = some blk) (hgg : blk.gen = g) (hy : evA fr y = .val (.int kk i)) (h0 : 0 ≤ i) (h1 : i < n)
    (ht : C.T t = some ti) (hk : ti.k = .slice e) (hte : C.T e = some te) (hsz : te.size = blk.sz) (hd : Nat.blt d C.n = true) (hg : guardIs ops ⟨fr, hp, gc⟩ ⟨some d, .indexAddr t x y, ty, pos, after, gd⟩ true)
    (nx : ARun C ops K (k + 1) rest ⟨(d, .ptr b g (lo + i.toNat) 0) :: fr, hp, gc⟩ (fps ++ [([b], [])])) : ARun C ops K k (⟨some d, .indexAddr t x y, ty, pos, after, gd⟩ :: rest) ⟨fr, hp, gc⟩ fps :=
  ARun.quiet hd hg [(b, blk)] (by simp [hb]) (fun s c a w hS hev hrd => by
    have h1' := hev x (by simp [Op.operands])
    have h2 := hev y (by simp [Op.operands])
    rw [hx] at h1'
    rw [hy] at h2
    have h2 := h2.val_inv
    generalize hu : a.eval x = u at h1'
    obtain ⟨o, ho, hB⟩ := hS.hp b blk (hrd (b, blk) (by simp))
    have hosz := hB.sz
    rw [hgg] at ho
    cases h1' with
    | own _ _ _ _ A m cap hu' h =>
      obtain ⟨rfl, k2, k3, k4, k0, k5⟩ := h o ho
      rcases k5 with k5 | ⟨β, k5, k6, k7⟩
      · omega
      · subst k6
        have hrun := run_indexAt ht hk hte w ⟨β, lo * o.sz, none⟩ m cap kk i h0 h1
        rw [hsz, ← hosz, add_lit, ← Nat.add_mul] at hrun
        refine ⟨.pointer (some ⟨β, (lo + i.toNat) * o.sz, none⟩), by simp [execOp, hu, h2, hrun], .ptr b g _ 0 _ _ hu' (fun q hq => ?_)⟩
        rw [ho] at hq
        obtain rfl := Option.some.inj hq
        exact ⟨k5, by omega, k0⟩) nx
theorem run_indexArr {t : Nat} {ti te : TI} {e n : Nat} (ht : C.T t = some ti) (hk : ti.k = .array n e) (hte : C.T e = some te) (w : World) (a : Addr) (kk : IntKind) (i : Int) (h0 : 0 ≤ i) (h1 : i < n) :
    (Instr.indexAt t (.pointer (some a)) (.int kk i)).run C.P w = .ok (.pointer (some (a.add (i.toNat * te.size)))) w := by
  have hu := run_underlying' (und_array ht hk) w
  simp [Instr.indexAt, asIntOf, hu, h0, h1, run_sizeOf hte, Instr.sureAddr]
theorem ARun.indexArr {t : Nat} {ti te : TI} {e n b g j f : Nat} {kk : IntKind} {i : Int} (hx : evA fr x = .ptr b g j f) (hy : evA fr y = .val (.int kk i)) (h0 : 0 ≤ i) (h1 : i < n)
    (ht : C.T t = some ti) (hk : ti.k = .array n e) (hte : C.T e = some te) (hd : Nat.blt d C.n = true) (hg : guardIs ops ⟨fr, hp, gc⟩ ⟨some d, .indexAddr t x y, ty, pos, after, gd⟩ true)
    (nx : ARun C ops K (k + 1) rest ⟨(d, .ptr b g j (f + i.toNat * te.size)) :: fr, hp, gc⟩ (fps ++ [([], [])])) : ARun C ops K k (⟨some d, .indexAddr t x y, ty, pos, after, gd⟩ :: rest) ⟨fr, hp, gc⟩ fps :=
  ARun.quiet hd hg [] (by simp) (fun s c a w hS hev _ => by
    have h1' := hev x (by simp [Op.operands])
    have h2 := hev y (by simp [Op.operands])
    rw [hx] at h1'
    rw [hy] at h2
    have h2 := h2.val_inv
    generalize hu : a.eval x = u at h1'
    cases h1' with
    | ptr _ _ _ _ β o hu' h =>
      have hrun := run_indexArr ht hk hte w ⟨β, o, none⟩ kk i h0 h1
      rw [add_lit] at hrun
      refine ⟨.pointer (some ⟨β, o + i.toNat * te.size, none⟩), by simp [execOp, hu, h2, hrun], .ptr b g j _ _ _ hu' (fun q hq => ?_)⟩
      obtain ⟨e1, e2, e3⟩ := h q hq
      exact ⟨e1, by omega, e3⟩) nx
theorem ARun.indexArr_rp {t : Nat} {ti te : TI} {e n : Nat} {es : List AV} {kk : IntKind} {i : Int} (hx : evA fr x = .rp es) (hy : evA fr y = .val (.int kk i)) (h0 : 0 ≤ i) (h1 : i < n)
    (ht : C.T t = some ti) (hk : ti.k = .array n e) (hte : C.T e = some te) (hd : Nat.blt d C.n = true) (hg : guardIs ops ⟨fr, hp, gc⟩ ⟨some d, .indexAddr t x y, ty, pos, after, gd⟩ true)
    (nx : ARun C ops K (k + 1) rest ⟨(d, .rp (es.drop (i.toNat * te.size))) :: fr, hp, gc⟩ (fps ++ [([], [])])) : ARun C ops K k (⟨some d, .indexAddr t x y, ty, pos, after, gd⟩ :: rest) ⟨fr, hp, gc⟩ fps :=
  ARun.quiet hd hg [] (by simp) (fun s c a w hS hev _ => by
    have h1' := hev x (by simp [Op.operands])
    have h2 := hev y (by simp [Op.operands])
    rw [hx] at h1'
    rw [hy] at h2
    have h2 := h2.val_inv
    generalize hu : a.eval x = u at h1'
    cases h1' with
    | rp _ β o us hs hc hr =>
      have hrun := run_indexArr ht hk hte w ⟨β, o, none⟩ kk i h0 h1
      rw [add_lit] at hrun
      refine ⟨.pointer (some ⟨β, o + i.toNat * te.size, none⟩), by simp [execOp, hu, h2, hrun], .rp _ β _ (fun f => us (i.toNat * te.size + f)) (fun h => hs (by intro e; subst e; simp at h)) (fun f x hx => ?_) (fun f x hx => ?_)⟩
      · rw [List.getElem?_drop] at hx
        have := hc _ x hx
        rwa [Nat.add_assoc]
      · rw [List.getElem?_drop] at hx
        exact hr _ x hx) nx

/-- A field of a struct that is a value. -/
theorem ARun.field {t n : Nat} {ti : TI} {fs : List (Nat × Nat)} {off sz : Nat} {es : List AV} {tf : TypeId} {tif : TI} {fields : Array Field} {fl : Field} (hx : evA fr x = .agg es) (hu : C.P.underlying t = some (.struct fields)) (hf : fields[n]? = some fl) (htf : C.T fl.type = some tif)
    (hv : (tif.k.agg = true ∧ ∃ cs, loadCs es fl.offset tif.size = some cs ∧ v = .agg cs) ∨ (tif.k.agg = false ∧ es[fl.offset]? = some v))
    (hd : Nat.blt d C.n = true) (hg : guardIs ops ⟨fr, hp, gc⟩ ⟨some d, .field t x n, ty, pos, after, gd⟩ true)
    (nx : ARun C ops K (k + 1) rest ⟨(d, v) :: fr, hp, gc⟩ (fps ++ [([], [])])) : ARun C ops K k (⟨some d, .field t x n, ty, pos, after, gd⟩ :: rest) ⟨fr, hp, gc⟩ fps :=
  ARun.quiet hd hg [] (by simp) (fun s c a w hS hev _ => by
    have h1 := hev x (by simp [Op.operands])
    rw [hx] at h1
    generalize hu' : a.eval x = u at h1
    have hun := run_underlying' hu w
    cases h1 with
    | agg _ us hl h1 hr =>
      rcases hv with ⟨ha, cs, hc, rfl⟩ | ⟨ha, hc⟩
      · obtain ⟨l1, l2⟩ := loadCs_spec hc
        have hle : fl.offset + tif.size ≤ es.length := by
          unfold loadCs at hc
          cases hb : Nat.ble (fl.offset + tif.size) es.length with
          | false => rw [hb] at hc; cases hc
          | true => exact Nat.le_of_ble_eq_true hb
        refine ⟨.agg ((us.drop fl.offset).take tif.size).toArray, ?_, .agg cs _ (by rw [List.length_take, List.length_drop]; omega) (fun u hu => h1 u (List.mem_of_mem_drop (List.mem_of_mem_take hu))) (fun i x u hx hu => ?_)⟩
        · simp [execOp, Instr.field, hu', hun, hf, asAgg, part, run_isAgg htf, ha, run_sizeOf htf]
        · rw [List.getElem?_take] at hu
          split at hu
          · rw [List.getElem?_drop] at hu
            exact hr _ x u (l2 i x hx) hu
          · cases hu
      · have hlt : fl.offset < us.length := by rw [hl]; exact (List.getElem?_eq_some_iff.1 hc).1
        refine ⟨us[fl.offset], ?_, hr _ v _ hc (List.getElem?_eq_getElem hlt)⟩
        simp [execOp, Instr.field, hu', hun, hf, asAgg, part, run_isAgg htf, ha, hlt]) nx

/-- The index of a byte in a text. -/
theorem ARun.index_str {t : Nat} {ti : TI} {s : ByteArray} {kk : IntKind} {i : Int} {c : UInt8} (hx : evA fr x = .val (.string s)) (hy : evA fr y = .val (.int kk i)) (h0 : 0 ≤ i) (hc : s.data[i.toNat]? = some c) (ht : C.T t = some ti) (hk : ti.k = .str)
    (hd : Nat.blt d C.n = true) (hg : guardIs ops ⟨fr, hp, gc⟩ ⟨some d, .index t x y, ty, pos, after, gd⟩ true)
    (nx : ARun C ops K (k + 1) rest ⟨(d, .val (.int .u8 c.toNat)) :: fr, hp, gc⟩ (fps ++ [([], [])])) : ARun C ops K k (⟨some d, .index t x y, ty, pos, after, gd⟩ :: rest) ⟨fr, hp, gc⟩ fps :=
  ARun.quiet hd hg [] (by simp) (fun s' c' a w hS hev _ => by
    have h1 := (by simpa [hx] using hev x (by simp [Op.operands]) : Rep c' w (.val (.string s)) (a.eval x)).val_inv
    have h2 := (by simpa [hy] using hev y (by simp [Op.operands]) : Rep c' w (.val (.int kk i)) (a.eval y)).val_inv
    have hun := run_underlying' (und_str ht hk) w
    have hlt : i.toNat < s.size := (Array.getElem?_eq_some_iff.1 hc).1
    have hc' : s[i.toNat]? = some c := by
      rw [getElem?_pos s i.toNat hlt]
      exact (Array.getElem?_eq_some_iff.1 hc).2 ▸ rfl
    refine ⟨.int .u8 c.toNat, ?_, .val _⟩
    simp [execOp, Instr.index, h1, h2, asIntOf, hun, h0, hc']) nx
end
end Go.Proofs.Ytedfegoafallhaa
