/- Rows that the library makes unfilled; three-index slices of rows of the call's own. -/
import Derived.Test.YtedfegoafallhaaE4
import Derived.Lib.MakeNoZero
import Derived.Laws.Externs
import Derived.Laws.Small
namespace Go.Proofs.Ytedfegoafallhaa
set_option linter.unusedVariables false
set_option linter.unusedSimpArgs false
open Go Go.RowKit
set_option maxRecDepth 100000

theorem digits_one : ∀ (n t : Nat) (acc : Array Value), (∀ u, u ∈ acc → u.oneCell' = true) → ∀ u, u ∈ Extern.BytealgMakeNoZero.digits n t acc → u.oneCell' = true
  | 0, _, acc, h, u, hu => h u hu
  | n + 1, t, acc, h, u, hu => digits_one n (t / 256) (acc.push (.int .u8 (Int.ofNat (t % 256)))) (fun v hv => by
      rcases Array.mem_push.1 hv with h' | h'
      · exact h v h'
      · subst h'; rfl) u hu
theorem run_mnz {P : Program} (w : World) (ps : Array TypeId) (t e : TypeId) (ht : P.underlying t = some (.slice e)) (n : Nat) (hn : n ≤ 281474976710656) :
    ∃ cs : Array Value, (Extern.BytealgMakeNoZero.makeNoZero ps #[t] #[.int .i64 n]).run P w = .ok (.slice (some ⟨w.heap.size, 0, none⟩) n cs.size) (w.drew.drew.alloc (.cells cs e)) ∧ n ≤ cs.size ∧ (n ≤ maxLen → cs.size ≤ maxLen) ∧ ∀ u, u ∈ cs → u.oneCell' = true := by
  have hdef : Extern.BytealgMakeNoZero.makeNoZero ps #[t] #[.int .i64 n] =
      (do
        let .slice elem ← underlying t | stuck "bytealg.MakeNoZero: slice type expected"
        if (n : Int) < 0 || (n : Int) > 2 ^ 48 then runtimePanic (.error "makeslice: len out of range")
        let cap ← choose (.appendCap (n : Int).toNat 0 elem)
        askRoom cap
        let bytes ← choose (.extern "internal/bytealg.MakeNoZero.bytes" 0)
        let a ← newRow elem (Extern.BytealgMakeNoZero.digits cap bytes #[])
        pure (.slice (some a) (n : Int).toNat cap)) := rfl
  refine ⟨Extern.BytealgMakeNoZero.digits (grownCap w n 0 e) ((Question.extern "internal/bytealg.MakeNoZero.bytes" 0).cut (w.tape (w.drawn + 1) (.extern "internal/bytealg.MakeNoZero.bytes" 0))) #[], ?_, ?_, ?_, fun u hu => digits_one _ _ _ (fun v hv => by cases hv; rename_i h; cases h) u hu⟩
  · rw [hdef]
    have h1 : ¬ (n : Int) < 0 := by omega
    have h2 : ¬ (281474976710656 : Int) < (n : Int) := by omega
    simp [run_underlying ht, h1, h2, Question.forced, newRow, Lib.size_digits, grownCap]
  · rw [Lib.size_digits]
    simpa using grownCap_ge w n 0 e
  · intro hm
    rw [Lib.size_digits]
    simpa using grownCap_le_maxLen w n 0 e hm

/-- A function of the library that makes an unfilled row. -/
def MnzF (P : Program) (f : FuncId) : Prop := ∃ ps t e, P.underlying t = some (.slice e) ∧ ∀ (args : Array Value) (w : World), (callFunc f args).run P w = ((Extern.BytealgMakeNoZero.makeNoZero ps #[t] args).run P w).andThen fun v w' => .ok (.value v) w'
section
variable {C : ACtx} {ops : Array Oper} {K : AS → List (List Nat × List Nat) → Prop} {k : Nat} {rest : List Oper} {fr : List (Nat × AV)} {hp : List (Nat × Option Blk)} {gc : Nat} {fps : List (List Nat × List Nat)}
  {d : Nat} {ty : TypeId} {pos : String} {after : Array Edge} {gd : Option (Nat × Bool)} {x y z : Operand} {v : AV}

theorem ARun.mnz {fx : Operand} {ats : Array TypeId} {f : FuncId} {m : Int} (n : Nat) (hF : MnzF C.P f) (hf : evA fr fx = .val (.func (.func f) #[] #[])) (hx : evA fr x = .val (.int .i64 m)) (hm : m = (n : Nat)) (hn : n ≤ 281474976710656) (hd : Nat.blt d C.n = true)
    (hg : guardIs ops ⟨fr, hp, gc⟩ ⟨some d, .call ⟨.value fx, #[x], ats⟩, ty, pos, after, gd⟩ true)
    (nx : ARun C ops K (k + 1) rest ⟨(d, .own d (gc + k) 0 n) :: fr, (d, some ⟨gc + k, 1, List.replicate n [.dead]⟩) :: hp, gc⟩ (fps ++ [([], [d])])) :
    ARun C ops K k (⟨some d, .call ⟨.value fx, #[x], ats⟩, ty, pos, after, gd⟩ :: rest) ⟨fr, hp, gc⟩ fps := by
  refine ARun.step (.own d (gc + k) 0 n) [] [(d, some ⟨gc + k, 1, List.replicate n [.dead]⟩)] hg (by simp) ?_ nx
  subst hm
  intro s c a w hS hfr hargs _
  have hev : ∀ z ∈ #[fx] ++ #[x], Rep c w (evA fr z) (a.eval z) := by
    intro z hz
    have hz' : z ∈ (Op.call ⟨.value fx, #[x], ats⟩).operands.toList := by simpa [Op.operands, Call.operands] using hz
    rw [← args_ev hargs z hz']
    exact hS.ev z
  have h1 := hev fx (by simp)
  have h2 := hev x (by simp)
  rw [hf] at h1
  rw [hx] at h2
  have h1 := h1.val_inv
  have h2 := h2.val_inv
  obtain ⟨ps, t, e, ht, hr⟩ := hF
  obtain ⟨cs, hrun, q1, q2, q3⟩ := run_mnz (P := C.P) w ps t e ht n hn
  have hop : (execOp a.eval ⟨some d, .call ⟨.value fx, #[x], ats⟩, ty, pos, after, gd⟩).run C.P w = .ok (.value (.slice (some ⟨w.heap.size, 0, none⟩) n cs.size)) (w.drew.drew.alloc (.cells cs e)) := by
    have h3 := hr #[.int .i64 n] w
    rw [hrun] at h3
    simp [execOp, resolve, h1, h2, Deferred.ofValue, invoke, h3]
  have hfin := hS.drew.drew.newBlk d ⟨gc + k, 1, List.replicate n [.dead]⟩ cs e hfr (fun el hel => by rw [(List.mem_replicate.1 hel).2]; rfl) (fun i el f x hi hx => by
      rw [List.getElem?_replicate] at hi
      split at hi
      · rename_i hlt
        obtain rfl := Option.some.inj hi
        have hf0 : f = 0 := by
          have := (List.getElem?_eq_some_iff.1 hx).1
          simp at this
          omega
        subst hf0
        simp only [List.getElem?_cons_zero, Option.some.injEq] at hx
        subst hx
        have : i < cs.size := by omega
        refine ⟨cs[i], ?_, q3 _ (Array.getElem_mem this), .dead _⟩
        simp only [Nat.mul_one, Nat.add_zero]
        exact Array.getElem?_eq_getElem this
      · cases hi) (some d) (.own d (gc + k) 0 n) (.slice (some ⟨w.heap.size, 0, none⟩) n cs.size) (dst_lt hd) (fun _ => ?_)
  · exact wp_value hop ⟨_, hfin, fun g hg => by
      rcases hg with h | h
      · exact .inl h
      · exact .inr h⟩
  · refine .own _ _ _ _ _ _ _ (.inr rfl) (fun o ho => ?_)
    simp [RC.upd] at ho
    subst ho
    exact ⟨rfl, q1, q2 (by simp only [maxLen]; omega), (fun h => by cases h), by simp, .inr ⟨_, rfl, by simp, by simp⟩⟩

/-- 's[l:h:m]' of a row of the call's own. -/
theorem ARun.slice3_own {t e b g j n l h m : Nat} {blk : Blk} {ti te : TI} {lo : Option Operand} {hi mx : Operand} (hx : evA fr x = .own b g j n) (hbk : lkH hp b = some blk) (hgg : blk.gen = g) (hl : Bnd fr lo 0 l) (hh : Bnd fr (some hi) 0 h) (hm : Bnd fr (some mx) 0 m) (h1 : l ≤ h) (h2 : h ≤ m) (h3 : m ≤ n) (ht : C.T t = some ti) (hk : ti.k = .slice e) (hte : C.T e = some te) (hs : blk.sz = te.size)
    (hd : Nat.blt d C.n = true) (hg : guardIs ops ⟨fr, hp, gc⟩ ⟨some d, .slice t x lo (some hi) (some mx), ty, pos, after, gd⟩ true)
    (nx : ARun C ops K (k + 1) rest ⟨(d, .own b g (j + l) (h - l)) :: fr, hp, gc⟩ (fps ++ [([b], [])])) : ARun C ops K k (⟨some d, .slice t x lo (some hi) (some mx), ty, pos, after, gd⟩ :: rest) ⟨fr, hp, gc⟩ fps :=
  ARun.quiet hd hg [(b, blk)] (by simp [hbk]) (fun s c a w hS hev hrd => by
    have h1' := hev x (by simp [Op.operands])
    rw [hx] at h1'
    generalize hu : a.eval x = u at h1'
    obtain ⟨o, ho, hB⟩ := hS.hp b blk (hrd (b, blk) (by simp))
    have hosz := hB.sz
    rw [hgg] at ho
    cases h1' with
    | own _ _ _ _ A mm cap hu' hh' =>
      obtain ⟨rfl, k2, k3, k4, k0, k5⟩ := hh' o ho
      have hb := run_sliceBounds3 (P := C.P) (isSlice := true) (len := mm) (cap := cap) hl hh hm (fun z hz => hev z (mem_slice_ops.1 z hz)) (hev hi (mem_slice_ops.2.1 hi rfl)) (hev mx (mem_slice_ops.2.2 mx rfl)) h1 h2 (by omega)
      have hr := run_sliceAt ht hk hte w A mm cap l h m _ _ _ hb
      refine ⟨.slice (if m = l then A else A.map (·.add (l * te.size))) (h - l) (m - l), by simp [execOp, hu, hr], .own b g _ _ _ _ _ hu' (fun q hq => ?_)⟩
      rw [ho] at hq
      obtain rfl := Option.some.inj hq
      refine ⟨rfl, by omega, by omega, fun hn' => ?_, k0, ?_⟩
      · split at hn'
        · omega
        · cases A with
          | none => have := k4 rfl; omega
          | some ad => cases hn'
      · by_cases hc : m = l
        · left; omega
        · rcases k5 with k5 | ⟨β, k5, k6, k7⟩
          · omega
          · right
            refine ⟨β, k5, ?_, ?_⟩
            · rw [if_neg hc, k6]
              simp only [Option.map_some, add_lit]
              rw [← hs, ← hosz, Nat.add_mul]
            · refine Nat.le_trans (Nat.mul_le_mul_right _ ?_) k7
              omega) nx
/-- 's[:m:m]' of a row of the call's own. -/
theorem ARun.sliceOwnClip {t e b g j n m : Nat} {blk : Blk} {ti te : TI} {kk kk' : IntKind} {i i' : Int} (hx : evA fr x = .own b g j n) (hbk : lkH hp b = some blk) (hgg : blk.gen = g) (hy : evA fr y = .val (.int kk i)) (hi : i = (m : Nat)) (hz : evA fr z = .val (.int kk' i')) (hi' : i' = (m : Nat)) (hm : m ≤ n) (ht : C.T t = some ti) (hk : ti.k = .slice e) (hte : C.T e = some te) (hs : blk.sz = te.size)
    (hd : Nat.blt d C.n = true) (hg : guardIs ops ⟨fr, hp, gc⟩ ⟨some d, .slice t x none (some y) (some z), ty, pos, after, gd⟩ true)
    (nx : ARun C ops K (k + 1) rest ⟨(d, .own b g j m) :: fr, hp, gc⟩ (fps ++ [([b], [])])) : ARun C ops K k (⟨some d, .slice t x none (some y) (some z), ty, pos, after, gd⟩ :: rest) ⟨fr, hp, gc⟩ fps := by
  subst hi
  subst hi'
  refine ARun.slice3_own hx hbk hgg (.non _) (.som 0 hy (by omega)) (.som 0 hz (by omega)) (Nat.zero_le _) (by omega) (by omega) ht hk hte hs hd hg ?_
  rw [Int.toNat_natCast, Nat.add_zero, Nat.sub_zero]
  exact nx
/-- 's[:m:m]' of a slice that never turns. -/
theorem ARun.sliceTo3 {t e sz : Nat} {full : Bool} {els pre post : List (List AV)} {ti te : TI} {kk kk' : IntKind} {i i' : Int} (hx : evA fr x = .sl sz full els) (hs : els = pre ++ post) (hy : evA fr y = .val (.int kk i)) (hi : i = (pre.length : Nat)) (hz' : evA fr z = .val (.int kk' i')) (hi' : i' = (pre.length : Nat)) (ht : C.T t = some ti) (hk : ti.k = .slice e) (hte : C.T e = some te) (hz : els = [] ∨ sz = te.size)
    (hd : Nat.blt d C.n = true) (hg : guardIs ops ⟨fr, hp, gc⟩ ⟨some d, .slice t x none (some y) (some z), ty, pos, after, gd⟩ true)
    (nx : ARun C ops K (k + 1) rest ⟨(d, .sl sz true pre) :: fr, hp, gc⟩ (fps ++ [([], [])])) : ARun C ops K k (⟨some d, .slice t x none (some y) (some z), ty, pos, after, gd⟩ :: rest) ⟨fr, hp, gc⟩ fps := by
  subst hi
  subst hi'
  subst hs
  refine ARun.slice3 hx (.non _) (.som 0 hy (by omega)) (.som 0 hz' (by omega)) (Nat.zero_le _) (by rw [Int.toNat_natCast, List.length_append]; omega) (Nat.le_refl _) (by rw [Int.toNat_natCast, List.length_append]; omega) ht hk hte hz hd hg ?_
  have e1 : ((pre ++ post).drop 0).take (((pre.length : Nat) : Int).toNat - 0) = pre := by
    rw [Int.toNat_natCast, List.drop_zero, Nat.sub_zero, List.take_left]
  have e2 : (((pre.length : Nat) : Int).toNat == ((pre.length : Nat) : Int).toNat) = true := by simp
  rw [e1, e2]
  exact nx
/-- A field of a struct that is a value. -/
theorem ARun.fld {t n : Nat} {es : List AV} {tif : TI} {fields : Array Field} {fl : Field} (hx : evA fr x = .agg es) (hu : C.P.underlying t = some (.struct fields)) (hf : fields[n]? = some fl) (htf : C.T fl.type = some tif)
    (hv : (tif.k.agg = true ∧ ∃ cs, loadCs es fl.offset tif.size = some cs ∧ v = .agg cs) ∨ (tif.k.agg = false ∧ es[fl.offset]? = some v))
    (hd : Nat.blt d C.n = true) (hg : guardIs ops ⟨fr, hp, gc⟩ ⟨some d, .field t x n, ty, pos, after, gd⟩ true)
    (nx : ARun C ops K (k + 1) rest ⟨(d, v) :: fr, hp, gc⟩ (fps ++ [([], [])])) : ARun C ops K k (⟨some d, .field t x n, ty, pos, after, gd⟩ :: rest) ⟨fr, hp, gc⟩ fps :=
  ARun.field (ti := ⟨.other, 0, 0, []⟩) (fs := []) (off := 0) (sz := 0) (tf := 0) hx hu hf htf hv hd hg nx
/-- 'min', 'max' of two numbers. -/
theorem ARun.min2 {kk kk' : IntKind} {n m : Int} {ats : Array TypeId} (hx : evA fr x = .val (.int kk n)) (hy : evA fr y = .val (.int kk' m)) (hd : Nat.blt d C.n = true) (hg : guardIs ops ⟨fr, hp, gc⟩ ⟨some d, .call ⟨.builtin .min, #[x, y], ats⟩, ty, pos, after, gd⟩ true)
    (nx : ARun C ops K (k + 1) rest ⟨(d, .val (.int kk (min n m))) :: fr, hp, gc⟩ (fps ++ [([], [])])) : ARun C ops K k (⟨some d, .call ⟨.builtin .min, #[x, y], ats⟩, ty, pos, after, gd⟩ :: rest) ⟨fr, hp, gc⟩ fps :=
  ARun.quiet hd hg [] (by simp) (fun s c a w hS hev _ => by
    have h1 := hev x (by simp [Op.operands, Call.operands])
    have h2 := hev y (by simp [Op.operands, Call.operands])
    rw [hx] at h1
    rw [hy] at h2
    have h1 := h1.val_inv
    have h2 := h2.val_inv
    have e : (if m < n then m else n) = min n m := by omega
    exact ⟨_, by simp [execOp, resolve, invoke, builtin, h1, h2, run_min_int2, e], .val _⟩) nx
theorem ARun.max2 {kk kk' : IntKind} {n m : Int} {ats : Array TypeId} (hx : evA fr x = .val (.int kk n)) (hy : evA fr y = .val (.int kk' m)) (hd : Nat.blt d C.n = true) (hg : guardIs ops ⟨fr, hp, gc⟩ ⟨some d, .call ⟨.builtin .max, #[x, y], ats⟩, ty, pos, after, gd⟩ true)
    (nx : ARun C ops K (k + 1) rest ⟨(d, .val (.int kk (max n m))) :: fr, hp, gc⟩ (fps ++ [([], [])])) : ARun C ops K k (⟨some d, .call ⟨.builtin .max, #[x, y], ats⟩, ty, pos, after, gd⟩ :: rest) ⟨fr, hp, gc⟩ fps :=
  ARun.quiet hd hg [] (by simp) (fun s c a w hS hev _ => by
    have h1 := hev x (by simp [Op.operands, Call.operands])
    have h2 := hev y (by simp [Op.operands, Call.operands])
    rw [hx] at h1
    rw [hy] at h2
    have h1 := h1.val_inv
    have h2 := h2.val_inv
    have e : (if n < m then m else n) = max n m := by omega
    exact ⟨_, by simp [execOp, resolve, invoke, builtin, h1, h2, run_max_int2, e], .val _⟩) nx
end
section
variable {P : Program} {T : Nat → Option TI} {ok : ∀ t ti, T t = some ti → tiOf P t = some ti} {n : Nat} {xs : List (List AV)} {Y : YCtx P T ok n xs} {ph : Option Nat} {s : AS} {Q : Exit → Option Nat → AS → Prop}
theorem awpY_condT {x : Operand} {c d : Code} {b : Bool} (hv : s.ev x = .val (.bool b)) (hb : b = true) (h : awpY Y c ph s Q) : awpY Y (.cond x c d) ph s Q :=
  awpY_cond hv (fun _ => h) (fun e => by rw [hb] at e; cases e)
theorem awpY_condF {x : Operand} {c d : Code} {b : Bool} (hv : s.ev x = .val (.bool b)) (hb : b = false) (h : awpY Y d ph s Q) : awpY Y (.cond x c d) ph s Q :=
  awpY_cond hv (fun e => by rw [hb] at e; cases e) (fun _ => h)
end
end Go.Proofs.Ytedfegoafallhaa
