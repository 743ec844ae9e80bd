/- B1, B2, B3, B4, B5, B6, B7, C1. -/
import Derived.Test.YtkmlmboclegpcaaW1
import Derived.Laws.StructEq
import Derived.ProofKit
import Derived.OpenShut
import Derived.Deep.Slices
import Derived.Deep.Fields
import Derived.Lib.SmallJoins
set_option linter.unusedVariables false
set_option linter.unusedSimpArgs false
namespace Go.Proofs.Ytkmlmboclegpcaa
open Go Go.RowKit
inductive Bnd (fr : List (Nat × AV)) : Option Operand → Nat → Nat → Prop where
 | non (d : Nat) : Bnd fr none d d
 | som {x : Operand} {kk : IntKind} {i : Int} (d : Nat) (hx : evA fr x = .val (.int kk i)) (h0 : 0 ≤ i) : Bnd fr (some x) d i.toNat
theorem Bnd.val {fr : List (Nat × AV)} {c : RC} {w : World} {a : Act} {o : Option Operand} {d n : Nat} (h : Bnd fr o d n) (hev : ∀ x, o = some x → Rep c w (evA fr x) (a.eval x)) : (o = none ∧ n = d) ∨ ∃ x kk, o = some x ∧ a.eval x = .int kk n := by
 cases h with
 | non => exact .inl ⟨rfl, rfl⟩
 | @som x kk i d hx h0 =>
  right
  have := hev x rfl
  rw [hx] at this
  refine ⟨x, kk, rfl, ?_⟩
  rw [this.val_inv, Int.toNat_of_nonneg h0]
theorem run_sliceBound' (P : Program) (w : World) (kk : IntKind) (n y : Nat) (code : BoundsCode) (h : n ≤ y) : (Instr.sliceBound (.int kk (n : Int)) y code).run P w = .ok n w := by
 have h' : ((n : Int) ≤ (y : Int)) := by omega
 simp [Instr.sliceBound, asIntOf, h]
theorem run_sliceBounds' {fr : List (Nat × AV)} {c : RC} {P : Program} {w : World} {a : Act} {lo hi : Option Operand} {isSlice : Bool} {len cap l h : Nat} (hl : Bnd fr lo 0 l) (hh : Bnd fr hi len h) (hel : ∀ x, lo = some x → Rep c w (evA fr x) (a.eval x)) (heh : ∀ x, hi = some x → Rep c w (evA fr x) (a.eval x)) (h1 : l ≤ h) (h2 : h ≤ cap) :
  (Instr.sliceBounds isSlice len cap (lo.map a.eval) (hi.map a.eval) none).run P w = .ok (l, h, cap) w := by
 unfold Instr.sliceBounds
 rcases hl.val hel with ⟨rfl, rfl⟩ | ⟨x, kx, rfl, ex⟩ <;> rcases hh.val heh with ⟨rfl, rfl⟩ | ⟨y, ky, rfl, ey⟩
 ·simp
 ·simp [ey, run_sliceBound' P w _ _ _ _ h2]
 ·simp [ex, run_sliceBound' P w _ _ _ _ h1]
 ·simp [ex, ey, run_sliceBound' P w _ _ _ _ h2, run_sliceBound' P w _ _ _ _ h1]
theorem run_sliceBounds3 {fr : List (Nat × AV)} {c : RC} {P : Program} {w : World} {a : Act} {lo : Option Operand} {hi mx : Operand} {isSlice : Bool} {len cap l h m d1 d2 : Nat} (hl : Bnd fr lo 0 l) (hh : Bnd fr (some hi) d1 h) (hm : Bnd fr (some mx) d2 m) (hel : ∀ x, lo = some x → Rep c w (evA fr x) (a.eval x)) (heh : Rep c w (evA fr hi) (a.eval hi)) (hem : Rep c w (evA fr mx) (a.eval mx)) (h1 : l ≤ h) (h2 : h ≤ m) (h3 : m ≤ cap) :
  (Instr.sliceBounds isSlice len cap (lo.map a.eval) (some (a.eval hi)) (some (a.eval mx))).run P w = .ok (l, h, m) w := by
 unfold Instr.sliceBounds
 rcases hh.val (fun x hx => by cases hx; exact heh) with ⟨h, _⟩ | ⟨y, ky, hy, ey⟩
 ·cases h
 cases hy
 rcases hm.val (fun x hx => by cases hx; exact hem) with ⟨h, _⟩ | ⟨z, kz, hz, ez⟩
 ·cases h
 cases hz
 rcases hl.val hel with ⟨rfl, rfl⟩ | ⟨x, kx, rfl, ex⟩
 ·simp [ey, ez, run_sliceBound' P w _ _ _ _ h2, run_sliceBound' P w _ _ _ _ h3]
 ·simp [ex, ey, ez, run_sliceBound' P w _ _ _ _ h1, run_sliceBound' P w _ _ _ _ h2, run_sliceBound' P w _ _ _ _ h3]
theorem sl_cut {c : RC} {w : World} {sz l h m cap : Nat} {full full' : Bool} {els : List (List AV)} {A : Option Addr} (r : Rep c w (.sl sz full els) (.slice A els.length cap)) (h1 : l ≤ h) (h2 : h ≤ els.length) (h3 : h ≤ m) (h4 : m ≤ cap) (hf : full' = true → m = h) (s : Nat) (hs : els = [] ∨ sz = s) :
  Rep c w (.sl sz full' ((els.drop l).take (h - l))) (.slice (if m = l then A else A.map (·.add (l * s))) (h - l) (m - l)) := by
 have hlen : ((els.drop l).take (h - l)).length = h - l := by rw [List.length_take, List.length_drop]; omega
 generalize hcs : Value.slice A els.length cap = u at r
 cases r with
 | sl _ _ _ A' cap' β o us hn hm hff h0 hz hA hc hr =>
  simp only [Value.slice.injEq] at hcs
  obtain ⟨rfl, _, rfl⟩ := hcs
  suffices hh : Rep c w (.sl sz full' ((els.drop l).take (h - l))) (.slice (if m = l then A else A.map (·.add (l * s))) ((els.drop l).take (h - l)).length (m - l)) by rwa [hlen] at hh
  have hget : ∀ (i : Nat) (el : List AV), ((els.drop l).take (h - l))[i]? = some el → els[l + i]? = some el := by
   intro i el hi
   rw [List.getElem?_take] at hi
   split at hi
   ·rw [List.getElem?_drop] at hi; exact hi
   ·cases hi
  refine .sl sz full' _ _ (m - l) β (o + l * sz) (fun i f => us (l + i) f) (by rw [hlen]; omega) (by omega) (fun hf' => by rw [hlen, hf hf']) (fun hn' => ?_) (fun el hel => hz el ?_) (fun hne => ?_) (fun i el f x hi hx => ?_) (fun i el f x hi hx => hr (l + i) el f x (hget i el hi) hx)
  ·split at hn'
   ·omega
   ·cases A with
    | none => have := h0 rfl; omega
    | some ad => cases hn'
  ·obtain ⟨i, hi⟩ := List.getElem?_of_mem hel
   exact List.mem_of_getElem? (hget i el hi)
  ·have hne' : els ≠ [] := by
    intro e
    subst e
    simp at hne
   obtain ⟨e1, e2⟩ := hA hne'
   have hpos : 0 < h - l := by rw [← hlen]; exact List.length_pos_iff.2 hne
   rw [if_neg (by omega), e1]
   simp only [Option.map_some, add_lit]
   rcases hs with hs | hs
   ·exact absurd hs hne'
   ·rw [hs] at e2 ⊢
    exact ⟨rfl, e2⟩
  ·have := hc (l + i) el f x (hget i el hi) hx
   rw [Nat.add_mul] at this
   rw [show o + l * sz + i * sz + f = o + (l * sz + i * sz) + f by omega]
   exact this
section
variable {C : ACtx} {ops : Array Oper} {K : AS → List (List Nat × List Nat) → Prop} {k : Nat} {rest : List Oper} {fr : List (Nat × AV)} {hp : List (Nat × Option Blk)} {gc : Nat} {fps : List (List Nat × List Nat)}
 {d : Nat} {ty : TypeId} {pos : String} {after : Array Edge} {gd : Option (Nat × Bool)} {x y z : Operand} {v : AV}
theorem run_sliceAt {t e : Nat} {ti te : TI} (ht : C.T t = some ti) (hk : ti.k = .slice e) (hte : C.T e = some te) (w : World) (A : Option Addr) (len cap l h m : Nat) (lo hi mx : Option Value) (hb : (Instr.sliceBounds true len cap lo hi mx).run C.P w = .ok (l, h, m) w) :
  (Instr.sliceAt t (.slice A len cap) lo hi mx).run C.P w = .ok (.slice (if m = l then A else A.map (·.add (l * te.size))) (h - l) (m - l)) w := by
 have hun := run_underlying' (und_slice ht hk) w
 have hs := run_sizeOf hte w
 simp [Instr.sliceAt, Instr.slice, hun, hb, hs]
theorem mem_slice_ops {t : TypeId} {lo hi mx : Option Operand} : (∀ z, lo = some z → z ∈ (Op.slice t x lo hi mx).operands) ∧ (∀ z, hi = some z → z ∈ (Op.slice t x lo hi mx).operands) ∧ (∀ z, mx = some z → z ∈ (Op.slice t x lo hi mx).operands) := by
 refine ⟨fun z h => ?_, fun z h => ?_, fun z h => ?_⟩ <;> subst h <;> simp [Op.operands]
theorem ARun.slice {t e sz l h : Nat} {full : Bool} {els : List (List AV)} {ti te : TI} {lo hi : Option Operand} (hx : evA fr x = .sl sz full els) (hl : Bnd fr lo 0 l) (hh : Bnd fr hi els.length h) (h1 : l ≤ h) (h2 : h ≤ els.length) (ht : C.T t = some ti) (hk : ti.k = .slice e) (hte : C.T e = some te) (hs : els = [] ∨ sz = te.size)
  (hd : Nat.blt d C.n = true) (hg : guardIs ops ⟨fr, hp, gc⟩ ⟨some d, .slice t x lo hi none, ty, pos, after, gd⟩ true)
  (nx : ARun C ops K (k + 1) rest ⟨(d, .sl sz (full && h == els.length) ((els.drop l).take (h - l))) :: fr, hp, gc⟩ (fps ++ [([], [])])) : ARun C ops K k (⟨some d, .slice t x lo hi none, ty, pos, after, gd⟩ :: rest) ⟨fr, hp, gc⟩ fps :=
 ARun.quiet hd hg [] (by simp) (fun s c a w hS hev _ => by
  have h1' := hev x (by simp [Op.operands])
  rw [hx] at h1'
  obtain ⟨A, cap, hu⟩ : ∃ A cap, a.eval x = .slice A els.length cap := by
   generalize a.eval x = u at h1'
   cases h1'
   exact ⟨_, _, rfl⟩
  rw [hu] at h1'
  have hcap : els.length ≤ cap ∧ (full = true → cap = els.length) := by
   generalize hcs : Value.slice A els.length cap = u at h1'
   cases h1'
   simp only [Value.slice.injEq] at hcs
   obtain ⟨rfl, _, rfl⟩ := hcs
   exact ⟨by assumption, by assumption⟩
  have hb := run_sliceBounds' (P := C.P) (isSlice := true) (len := els.length) (cap := cap) hl hh (fun z hz => hev z (mem_slice_ops.1 z hz)) (fun z hz => hev z (mem_slice_ops.2.1 z hz)) h1 (by omega)
  have hr := run_sliceAt ht hk hte w A els.length cap l h cap _ _ _ hb
  refine ⟨.slice (if cap = l then A else A.map (·.add (l * te.size))) (h - l) (cap - l), by simp [execOp, hu, hr], sl_cut h1' h1 h2 (by omega) (Nat.le_refl _) (fun hf => ?_) te.size hs⟩
  rw [Bool.and_eq_true, beq_iff_eq] at hf
  rw [hcap.2 hf.1, hf.2]) nx
theorem ARun.slice3 {t e sz l h m : Nat} {full : Bool} {els : List (List AV)} {ti te : TI} {lo : Option Operand} {hi mx : Operand} (hx : evA fr x = .sl sz full els) (hl : Bnd fr lo 0 l) (hh : Bnd fr (some hi) 0 h) (hm : Bnd fr (some mx) 0 m) (h1 : l ≤ h) (h2 : h ≤ els.length) (h3 : h ≤ m) (h4 : m ≤ els.length) (ht : C.T t = some ti) (hk : ti.k = .slice e) (hte : C.T e = some te) (hs : els = [] ∨ sz = te.size)
  (hd : Nat.blt d C.n = true) (hg : guardIs ops ⟨fr, hp, gc⟩ ⟨some d, .slice t x lo (some hi) (some mx), ty, pos, after, gd⟩ true)
  (nx : ARun C ops K (k + 1) rest ⟨(d, .sl sz (m == h) ((els.drop l).take (h - l))) :: fr, hp, gc⟩ (fps ++ [([], [])])) : ARun C ops K k (⟨some d, .slice t x lo (some hi) (some mx), ty, pos, after, gd⟩ :: rest) ⟨fr, hp, gc⟩ fps :=
 ARun.quiet hd hg [] (by simp) (fun s c a w hS hev _ => by
  have h1' := hev x (by simp [Op.operands])
  rw [hx] at h1'
  obtain ⟨A, cap, hu⟩ : ∃ A cap, a.eval x = .slice A els.length cap := by
   generalize a.eval x = u at h1'
   cases h1'
   exact ⟨_, _, rfl⟩
  rw [hu] at h1'
  have hcap : els.length ≤ cap := by
   generalize hcs : Value.slice A els.length cap = u at h1'
   cases h1'
   simp only [Value.slice.injEq] at hcs
   obtain ⟨rfl, _, rfl⟩ := hcs
   assumption
  have hb := run_sliceBounds3 (P := C.P) (isSlice := true) (len := els.length) (cap := cap) hl hh hm (fun z hz => hev z (mem_slice_ops.1 z hz)) (hev hi (mem_slice_ops.2.1 hi rfl)) (hev mx (mem_slice_ops.2.2 mx rfl)) h1 h3 (by omega)
  have hr := run_sliceAt ht hk hte w A els.length cap l h m _ _ _ hb
  refine ⟨.slice (if m = l then A else A.map (·.add (l * te.size))) (h - l) (m - l), by simp [execOp, hu, hr], sl_cut h1' h1 h2 h3 (by omega) (fun hf => by simpa using hf) te.size hs⟩) nx
theorem ARun.slice_own {t e b g j n l h : Nat} {blk : Blk} {ti te : TI} {lo hi : Option Operand} (hx : evA fr x = .own b g j n) (hbk : lkH hp b = some blk) (hgg : blk.gen = g) (hl : Bnd fr lo 0 l) (hh : Bnd fr hi n h) (h1 : l ≤ h) (h2 : h ≤ n) (ht : C.T t = some ti) (hk : ti.k = .slice e) (hte : C.T e = some te) (hs : blk.sz = te.size)
  (hd : Nat.blt d C.n = true) (hg : guardIs ops ⟨fr, hp, gc⟩ ⟨some d, .slice t x lo hi none, ty, pos, after, gd⟩ true)
  (nx : ARun C ops K (k + 1) rest ⟨(d, .own b g (j + l) (h - l)) :: fr, hp, gc⟩ (fps ++ [([b], [])])) : ARun C ops K k (⟨some d, .slice t x lo hi none, ty, pos, after, gd⟩ :: rest) ⟨fr, hp, gc⟩ fps :=
 ARun.quiet hd hg [(b, blk)] (by simp [hbk]) (fun s c a w hS hev hrd => by
  have h1' := hev x (by simp [Op.operands])
  rw [hx] at h1'
  generalize hu : a.eval x = u at h1'
  obtain ⟨o, ho, hB⟩ := hS.hp b blk (hrd (b, blk) (by simp))
  have hosz := hB.sz
  rw [hgg] at ho
  cases h1' with
  | own _ _ _ _ A m cap hu' hh' =>
   obtain ⟨rfl, k2, k3, k4, k0, k5⟩ := hh' o ho
   have hb := run_sliceBounds' (P := C.P) (isSlice := true) (len := m) (cap := cap) hl hh (fun z hz => hev z (mem_slice_ops.1 z hz)) (fun z hz => hev z (mem_slice_ops.2.1 z hz)) h1 (by omega)
   have hr := run_sliceAt ht hk hte w A m cap l h cap _ _ _ hb
   refine ⟨.slice (if cap = l then A else A.map (·.add (l * te.size))) (h - l) (cap - l), by simp [execOp, hu, hr], .own b g _ _ _ _ _ hu' (fun q hq => ?_)⟩
   rw [ho] at hq
   obtain rfl := Option.some.inj hq
   refine ⟨rfl, by omega, by omega, fun hn' => ?_, k0, ?_⟩
   ·split at hn'
    ·omega
    ·cases A with
     | none => have := k4 rfl; omega
     | some ad => cases hn'
   ·by_cases hc : cap = l
    ·left; omega
    ·rcases k5 with k5 | ⟨β, k5, k6, k7⟩
     ·omega
     ·right
      refine ⟨β, k5, ?_, ?_⟩
      ·rw [if_neg hc, k6]
       simp only [Option.map_some, add_lit]
       rw [← hs, ← hosz, Nat.add_mul]
      ·rw [show j + l + (cap - l) = j + cap by omega]; exact k7) nx
end
end Go.Proofs.Ytkmlmboclegpcaa
namespace Go.Proofs.Ytkmlmboclegpcaa
open Go Go.RowKit
structure Out where
 fr : List (Nat × AV)
 hp : List (Nat × Option Blk)
 r : List Nat
 w : List Nat
 side : Prop
def forceA (v : AV) (k : AV → Option Out) : Option Out :=
 match v with
 | .val v => k (.val v)
 | .ptr b g i f => k (.ptr b g i f)
 | .rp es => k (.rp es)
 | .sl sz full els => k (.sl sz full els)
 | .own b g lo n => k (.own b g lo n)
 | .agg es => k (.agg es)
 | .tup es => k (.tup es)
 | .clo f a b => k (.clo f a b)
 | .it b g => k (.it b g)
 | .mo b g => k (.mo b g)
 | .mp ks vs => k (.mp ks vs)
 | .bany => k .bany
 | .dead => k .dead
theorem forceA_eq (v : AV) (k : AV → Option Out) : forceA v k = k v := by cases v <;> rfl
def forceL : List AV → (List AV → Option Out) → Option Out
 | [], k => k []
 | x :: l, k => forceA x fun x => forceL l fun l => k (x :: l)
theorem forceL_eq : ∀ (l : List AV) (k : List AV → Option Out), forceL l k = k l
 | [], _ => rfl
 | x :: l, k => by rw [forceL, forceA_eq, forceL_eq l]
def forceEE : List (List AV) → (List (List AV) → Option Out) → Option Out
 | [], k => k []
 | e :: l, k => forceL e fun e => forceEE l fun l => k (e :: l)
theorem forceEE_eq : ∀ (l : List (List AV)) (k : List (List AV) → Option Out), forceEE l k = k l
 | [], _ => rfl
 | x :: l, k => by rw [forceEE, forceL_eq, forceEE_eq l]
theorem SetAts.of_le : ∀ (l : List AV) (n : Nat) (cs : List AV), n + cs.length ≤ l.length → SetAts l n cs (l.take n ++ cs ++ l.drop (n + cs.length))
 | l, 0, [], _ => by simpa using SetAts.done l
 | [], 0, c :: cs, h => by simp at h
 | x :: l, 0, c :: cs, h => by
  have := SetAts.of_le l 0 cs (by simp only [List.length_cons] at h; omega)
  simp only [List.take_zero, List.nil_append, Nat.zero_add] at this ⊢
  rw [List.length_cons, List.drop_succ_cons]
  exact .here this
 | [], n + 1, cs, h => by simp at h
 | x :: l, n + 1, cs, h => by
  have := SetAts.of_le l n cs (by simp only [List.length_cons] at h; omega)
  rw [show n + 1 + cs.length = (n + cs.length) + 1 by omega, List.take_succ_cons, List.drop_succ_cons]
  exact .skip this
def setF (el : List AV) (f : Nat) (cs : List AV) : Option (List AV) := bif Nat.ble (f + cs.length) el.length then some (el.take f ++ (cs ++ el.drop (f + cs.length))) else none
theorem setF_spec {el cs el' : List AV} {f : Nat} (h : setF el f cs = some el') : SetAts el f cs el' := by
 unfold setF at h
 cases hb : Nat.ble (f + cs.length) el.length with
 | false => rw [hb] at h; cases h
 | true =>
  rw [hb] at h
  obtain rfl := Option.some.inj h
  have := SetAts.of_le el f cs (Nat.le_of_ble_eq_true hb)
  rwa [List.append_assoc] at this
def buildF (place : Nat → Option (Nat × Nat)) (fr : List (Nat × AV)) : List (Nat × Operand) → List AV → Option (List AV)
 | [], es => some es
 | (i, x) :: ps, es =>
  match place i with
  | none => none
  | some (off, sz) =>
   match cellsA (evA fr x) with
   | none => none
   | some cs => bif Nat.beq cs.length sz then (match setF es off cs with | none => none | some es' => buildF place fr ps es') else none
theorem buildF_spec {place : Nat → Option (Nat × Nat)} {fr : List (Nat × AV)} : ∀ {ps : List (Nat × Operand)} {es es' : List AV}, buildF place fr ps es = some es' → BuildL place fr ps es es'
 | [], es, es', h => by
  obtain rfl := Option.some.inj h
  exact .nil es
 | (i, x) :: ps, es, es', h => by
  rw [buildF] at h
  cases hp : place i with
  | none => rw [hp] at h; cases h
  | some p =>
   obtain ⟨off, sz⟩ := p
   rw [hp] at h
   simp only at h
   cases hc : cellsA (evA fr x) with
   | none => rw [hc] at h; cases h
   | some cs =>
    rw [hc] at h
    simp only at h
    cases hb : Nat.beq cs.length sz with
    | false => rw [hb] at h; cases h
    | true =>
     rw [hb] at h
     simp only [cond_true] at h
     cases hs : setF es off cs with
     | none => rw [hs] at h; cases h
     | some es1 =>
      rw [hs] at h
      exact .cons hp hc (Nat.eq_of_beq_eq_true hb) (setF_spec hs) (buildF_spec h)
def setEl {α : Type} : List α → Nat → α → Option (List α)
 | [], _, _ => none
 | _ :: l, 0, y => some (y :: l)
 | x :: l, n + 1, y => match setEl l n y with | none => none | some l' => some (x :: l')
theorem setEl_spec {α : Type} {y : α} : ∀ {l : List α} {n : Nat} {l' : List α}, setEl l n y = some l' → SetEl l n y l'
 | [], _, _, h => by cases h
 | _ :: l, 0, _, h => by
  obtain rfl := Option.some.inj h
  exact .here
 | x :: l, n + 1, _, h => by
  rw [setEl] at h
  cases hs : setEl l n y with
  | none => rw [hs] at h; cases h
  | some l1 =>
   rw [hs] at h
   obtain rfl := Option.some.inj h
   exact .there (setEl_spec hs)
def buildSF (sz : Nat) (fr : List (Nat × AV)) : List (Nat × Operand) → List (List AV) → Option (List (List AV))
 | [], els => some els
 | (i, x) :: ps, els =>
  match cellsA (evA fr x) with
  | none => none
  | some cs => bif Nat.beq cs.length sz then (match setEl els i cs with | none => none | some els' => buildSF sz fr ps els') else none
theorem buildSF_spec {sz : Nat} {fr : List (Nat × AV)} : ∀ {ps : List (Nat × Operand)} {els els' : List (List AV)}, buildSF sz fr ps els = some els' → BuildS sz fr ps els els'
 | [], els, els', h => by
  obtain rfl := Option.some.inj h
  exact .nil els
 | (i, x) :: ps, els, els', h => by
  rw [buildSF] at h
  cases hc : cellsA (evA fr x) with
  | none => rw [hc] at h; cases h
  | some cs =>
   rw [hc] at h
   simp only at h
   cases hb : Nat.beq cs.length sz with
   | false => rw [hb] at h; cases h
   | true =>
    rw [hb] at h
    simp only [cond_true] at h
    cases hs : setEl els i cs with
    | none => rw [hs] at h; cases h
    | some es1 =>
     rw [hs] at h
     exact .cons hc (Nat.eq_of_beq_eq_true hb) (setEl_spec hs) (buildSF_spec h)
def inR (n : Int) : Prop := -9223372036854775808 ≤ n ∧ n ≤ 9223372036854775807
def isI64 : IntKind → Bool
 | .i64 => true
 | _ => false
def sameK : IntKind → IntKind → Bool
 | .i8, .i8 => true
 | .i16, .i16 => true
 | .i32, .i32 => true
 | .i64, .i64 => true
 | .u8, .u8 => true
 | .u16, .u16 => true
 | .u32, .u32 => true
 | .u64, .u64 => true
 | _, _ => false
theorem sameK_eq {a b : IntKind} (h : sameK a b = true) : a = b := by cases a <;> cases b <;> first | rfl | cases h
def arith (k : IntKind) (n : Int) : Value × Prop := bif isI64 k then (.int .i64 n, inR n) else (.int k (k.wrap n), True)
theorem arith_spec {k : IntKind} {n : Int} (h : (arith k n).2) : (arith k n).1 = .int k (k.wrap n) := by
 unfold arith at *
 cases k <;> simp only [isI64, cond_true, cond_false] at h ⊢
 rw [IntWalk.i64_in _ h]
def bitsV (op : BinOp) (k : IntKind) (a b : Int) : Int :=
 match op with
 | .and => k.wrap (BitVec.ofInt k.bits a &&& BitVec.ofInt k.bits b).toNat
 | .or => k.wrap (BitVec.ofInt k.bits a ||| BitVec.ofInt k.bits b).toNat
 | .xor => k.wrap (BitVec.ofInt k.bits a ^^^ BitVec.ofInt k.bits b).toNat
 | _ => k.wrap (BitVec.ofInt k.bits a &&& ~~~(BitVec.ofInt k.bits b)).toNat
def shlV (k : IntKind) (a b : Int) : Int := k.wrap (a * 2 ^ (min b.toNat k.bits))
def shrV (k : IntKind) (a b : Int) : Int := a.fdiv (2 ^ (min b.toNat k.bits))
def binInt (op : BinOp) (k : IntKind) (a b : Int) : Option (Value × Prop) :=
 match op with
 | .eql => some (.bool (a == b), True)
 | .neq => some (.bool (a != b), True)
 | .lss => some (.bool (decide (a < b)), True)
 | .leq => some (.bool (decide (a ≤ b)), True)
 | .gtr => some (.bool (decide (b < a)), True)
 | .geq => some (.bool (decide (b ≤ a)), True)
 | .add => some (arith k (a + b))
 | .sub => some (arith k (a - b))
 | .mul => some (arith k (a * b))
 | .rem => some (.int k (a.tmod b), b ≠ 0)
 | .quo => some (.int k (k.wrap (a.tdiv b)), b ≠ 0)
 | .and => some (.int k (bitsV .and k a b), True)
 | .or => some (.int k (bitsV .or k a b), True)
 | .xor => some (.int k (bitsV .xor k a b), True)
 | .andNot => some (.int k (bitsV .andNot k a b), True)
 | _ => none
theorem binInt_spec {P : Program} {op : BinOp} {t : TypeId} {k : IntKind} {a b : Int} {r : Value × Prop} (h : binInt op k a b = some r) (hs : r.2) : BinR P op t (.int k a) (.int k b) r.1 := by
 cases op <;> simp only [binInt, Option.some.injEq, reduceCtorEq] at h
 case eql => subst h; exact bin_eq
 case neq => subst h; exact bin_ne
 case lss => subst h; exact bin_lt
 case leq => subst h; exact bin_le
 case gtr => subst h; exact bin_gt
 case geq => subst h; exact bin_ge
 case add => subst h; rw [arith_spec hs]; exact bin_add
 case sub => subst h; rw [arith_spec hs]; exact bin_sub
 case mul => subst h; rw [arith_spec hs]; exact bin_mul
 case and => subst h; exact bin_wrap (fun w => by simp [binOp, Op.intBits, bitsV])
 case or => subst h; exact bin_wrap (fun w => by simp [binOp, Op.intBits, bitsV])
 case xor => subst h; exact bin_wrap (fun w => by simp [binOp, Op.intBits, bitsV])
 case andNot => subst h; exact bin_wrap (fun w => by simp [binOp, Op.intBits, bitsV])
 case quo => subst h; exact bin_wrap (fun w => by simp only at hs; simp [binOp, Op.intDiv, hs])
 case rem => subst h; exact bin_wrap (fun w => by simp only at hs; simp [binOp, Op.intDiv, hs])
def isBool (T : Nat → Option TI) (t : Nat) : Bool := match T t with | some ti => (match ti.k with | .bool => true | _ => false) | none => false
def binV (T : Nat → Option TI) (op : BinOp) (t : Nat) (p q : Value) : Option (Value × Prop) :=
 match p, q with
 | .int k a, .int k' b => (match op with
  | .shl => some (.int k (shlV k a b), 0 ≤ b)
  | .shr => some (.int k (shrV k a b), 0 ≤ b)
  | op => bif sameK k k' then binInt op k a b else none)
 | .bool a, .bool b => bif isBool T t then (match op with | .eql => some (.bool (a == b), True) | .neq => some (.bool (!(a == b)), True) | _ => none) else none
 | .string a, .string b => (match op with | .add => some (.string (a ++ b), ((a.size + b.size : Nat) : Int) ≤ 9223372036854775807) | .lss => some (.bool (Op.bytesLess a.toList b.toList), True) | .eql => some (.bool (a.toList == b.toList), True) | .neq => some (.bool (!(a.toList == b.toList)), True) | _ => none)
 | _, _ => none
theorem isBool_spec {C : ACtx} {t : Nat} (h : isBool C.T t = true) : C.P.underlying t = some .bool := by
 unfold isBool at h
 split at h
 ·rename_i ti ht
  split at h
  ·rename_i hk
   exact und_bool ht hk
  ·cases h
 ·cases h
theorem binV_spec {C : ACtx} {op : BinOp} {t : TypeId} {p q : Value} {r : Value × Prop} (h : binV C.T op t p q = some r) (hs : r.2) : BinR C.P op t p q r.1 := by
 unfold binV at h
 split at h
 ·rename_i k a k' b
  split at h
  ·obtain rfl := Option.some.inj h
   refine bin_guard (fun _ h => by cases h) (fun h => by cases h) (fun w => ?_)
   have hn : ¬ (b < 0) := by simp only at hs; omega
   simp [binOp, Op.shift, hn, shlV]
  ·obtain rfl := Option.some.inj h
   refine bin_guard (fun _ h => by cases h) (fun h => by cases h) (fun w => ?_)
   have hn : ¬ (b < 0) := by simp only at hs; omega
   simp [binOp, Op.shift, hn, shrV]
  ·cases hk : sameK k k' with
   | false => rw [hk] at h; cases h
   | true =>
    rw [hk] at h
    obtain rfl := sameK_eq hk
    exact binInt_spec h hs
 ·cases hb : isBool C.T t with
  | false => rw [hb] at h; cases h
  | true =>
   rw [hb] at h
   have hu := isBool_spec hb
   simp only [cond_true] at h
   split at h
   ·obtain rfl := Option.some.inj h; exact bin_beq hu
   ·obtain rfl := Option.some.inj h; exact bin_bne hu
   ·cases h
 ·rename_i a b
  split at h
  ·obtain rfl := Option.some.inj h
   refine bin_guard (fun _ h => by cases h) (fun h => by cases h) (fun w => ?_)
   have hn : ¬ (9223372036854775807 < (a.size : Int) + (b.size : Int)) := by simp only at hs; omega
   simp [binOp, Op.stringOp, hn]
  ·obtain rfl := Option.some.inj h
   exact bin_guard (fun _ h => by cases h) (fun h => by cases h) (fun w => by simp [binOp, Op.stringOp])
  ·obtain rfl := Option.some.inj h
   exact bin_guard (fun _ h => by cases h) (fun h => by cases h) (fun w => by simp [binOp, Op.stringOp])
  ·obtain rfl := Option.some.inj h
   exact bin_guard (fun _ h => by cases h) (fun h => by cases h) (fun w => by simp [binOp, Op.stringOp])
  ·cases h
 ·cases h
section
variable {C : ACtx} {ops : Array Oper} {K : AS → List (List Nat × List Nat) → Prop} {k : Nat} {rest : List Oper} {fr : List (Nat × AV)} {hp : List (Nat × Option Blk)} {gc : Nat} {fps : List (List Nat × List Nat)}
 {d : Nat} {ty : TypeId} {pos : String} {after : Array Edge} {gd : Option (Nat × Bool)} {x : Operand}
theorem ARun.convInt {ts td : Nat} {si di : TI} {kk ks : IntKind} {n : Int} (hx : evA fr x = .val (.int ks n)) (hs : C.T ts = some si) (ht : C.T td = some di) (hk : di.k = .int kk) (hd : Nat.blt d C.n = true) (hg : guardIs ops ⟨fr, hp, gc⟩ ⟨some d, .convert ts td x, ty, pos, after, gd⟩ true)
  (nx : ARun C ops K (k + 1) rest ⟨(d, .val (.int kk (kk.wrap n))) :: fr, hp, gc⟩ (fps ++ [([], [])])) : ARun C ops K k (⟨some d, .convert ts td x, ty, pos, after, gd⟩ :: rest) ⟨fr, hp, gc⟩ fps :=
 ARun.quiet hd hg [] (by simp) (fun s c a w hS hev _ => by
  have h1 := hev x (by simp [Op.operands])
  rw [hx] at h1
  have h1 := h1.val_inv
  obtain ⟨u, i, z, hu, hi, hz, _⟩ := ti_get hs
  have g1 := run_underlying' hu w
  have g2 := run_underlying' (und_int ht hk) w
  refine ⟨.int kk (kk.wrap n), ?_, .val _⟩
  have : (convert ts td (.int ks n)).run C.P w = .ok (.int kk (kk.wrap n)) w := by
   unfold convert
   rw [Sem.run_bind, g1]
   simp only [Result.andThen]
   rw [Sem.run_bind, g2]
   simp only [Result.andThen]
   rfl
  simp [execOp, h1, this]) nx
end
end Go.Proofs.Ytkmlmboclegpcaa
namespace Go.Proofs.Ytkmlmboclegpcaa
open Go Go.RowKit
def aopLen (T : Nat → Option TI) (d : Nat) (fr : List (Nat × AV)) (hp : List (Nat × Option Blk)) : List Operand → List Nat → Option Out
 | [x], [t] =>
  match T t with
  | some ti => (match ti.k with
   | .slice _ => (match evA fr x with
    | .sl _ _ els => some ⟨(d, .val (.int .i64 els.length)) :: fr, hp, [], [], True⟩
    | .own b g' _ n => (match lkH hp b with
     | some ⟨gen, _, _⟩ => some ⟨(d, .val (.int .i64 n)) :: fr, hp, [b], [], gen = g'⟩
     | none => none)
    | _ => none)
   | .str => (match evA fr x with
    | .val (.string s) => some ⟨(d, .val (.int .i64 s.size)) :: fr, hp, [], [], True⟩
    | _ => none)
   | _ => none)
  | none => none
 | _, _ => none
def aopV (T : Nat → Option TI) (g d : Nat) (fr : List (Nat × AV)) (hp : List (Nat × Option Blk)) : Op → Option Out
 | .move x => forceA (evA fr x) fun v => some ⟨(d, v) :: fr, hp, [], [], True⟩
 | .assign x => forceA (evA fr x) fun v => some ⟨(d, v) :: fr, hp, [], [], True⟩
 | .pick c x y =>
  match evA fr c with
  | .val (.bool b) => (match b with
   | true => forceA (evA fr x) fun v => some ⟨(d, v) :: fr, hp, [], [], True⟩
   | false => forceA (evA fr y) fun v => some ⟨(d, v) :: fr, hp, [], [], True⟩)
  | _ => none
 | .extract x i =>
  match evA fr x with
  | .tup es => (match es[i]? with
   | some v => forceA v fun v => some ⟨(d, v) :: fr, hp, [], [], True⟩
   | none => none)
  | _ => none
 | .binOp op t x y _ =>
  match evA fr x, evA fr y with
  | .val p, .val q => (match binV T op t p q with
   | some (r, s) => some ⟨(d, .val r) :: fr, hp, [], [], s⟩
   | none => none)
  | _, _ => none
 | .unOp op _ x =>
  match op, evA fr x with
  | .not, .val (.bool b) => some ⟨(d, .val (.bool (!b))) :: fr, hp, [], [], True⟩
  | .neg, .val (.int k n) => (match arith k (0 - n) with
   | (r, s) => some ⟨(d, .val r) :: fr, hp, [], [], s⟩)
  | .xor, .val (.int k n) => some ⟨(d, .val (.int k (bitsV .xor k (bif k.signed then -1 else k.max) n))) :: fr, hp, [], [], True⟩
  | _, _ => none
 | .box _ x =>
  match cellsA (evA fr x) with
  | some cs => bif Nat.blt 0 cs.length then forceL cs fun cs => some ⟨(d, .ptr d g 0 0) :: fr, (d, some ⟨g, cs.length, [cs]⟩) :: hp, [], [d], True⟩ else none
  | none => none
 | .alloc t =>
  match T t with
  | some ti => bif ti.zero.all Value.oneCell' && Nat.blt 0 (ti.zero.map zv).length then forceL (ti.zero.map zv) fun zs => some ⟨(d, .ptr d g 0 0) :: fr, (d, some ⟨g, zs.length, [zs]⟩) :: hp, [], [d], True⟩ else none
  | none => none
 | .fieldAddr t x n =>
  match T t with
  | some ti => (match ti.k with
   | .struct fs => (match fs[n]? with
    | some (off, sz) => bif Nat.blt 0 sz then (match evA fr x with
     | .ptr b g' i f => some ⟨(d, .ptr b g' i (f + off)) :: fr, hp, [], [], True⟩
     | .rp es => forceL (es.drop off) fun es => some ⟨(d, .rp es) :: fr, hp, [], [], True⟩
     | _ => none) else none
    | none => none)
   | _ => none)
  | none => none
 | .load t x =>
  match T t with
  | some ti => (match ti.k.agg with
   | true => (match evA fr x with
    | .ptr b g' i f => (match lkH hp b with
     | some ⟨gen, _, els⟩ => (match els[i]? with
      | some el => (match loadCs el f ti.size with
       | some cs => forceL cs fun cs => some ⟨(d, .agg cs) :: fr, hp, [b], [], gen = g'⟩
       | none => none)
      | none => none)
     | none => none)
    | .rp es => (match loadCs es 0 ti.size with
     | some cs => forceL cs fun cs => some ⟨(d, .agg cs) :: fr, hp, [], [], True⟩
     | none => none)
    | _ => none)
   | false => (match evA fr x with
    | .ptr b g' i f => (match lkH hp b with
     | some ⟨gen, _, els⟩ => (match els[i]? with
      | some el => (match el[f]? with
       | some v => forceA v fun v => some ⟨(d, v) :: fr, hp, [b], [], gen = g'⟩
       | none => none)
      | none => none)
     | none => none)
    | .rp es => (match es[0]? with
     | some v => forceA v fun v => some ⟨(d, v) :: fr, hp, [], [], True⟩
     | none => none)
    | _ => none))
  | none => none
 | .build t ps =>
  match T t with
  | some ti => (match ti.k with
   | .struct fs => bif ti.zero.all Value.oneCell' then (match buildF (fun i => fs[i]?) fr ps.toList (ti.zero.map zv) with
    | some es => forceL es fun es => some ⟨(d, .agg es) :: fr, hp, [], [], True⟩
    | none => none) else none
   | .array _ e => (match T e with
    | some te => bif ti.zero.all Value.oneCell' then (match buildF (fun i => some (i * te.size, te.size)) fr ps.toList (ti.zero.map zv) with
     | some es => forceL es fun es => some ⟨(d, .agg es) :: fr, hp, [], [], True⟩
     | none => none) else none
    | none => none)
   | _ => none)
  | none => none
 | .buildSlice t n ps =>
  match T t with
  | some ti => (match ti.k with
   | .slice e => (match T e with
    | some ⟨_, tsz, _, tz⟩ => bif tz.all Value.oneCell' && Nat.beq tz.length tsz && Nat.blt 0 tsz && Nat.ble (n * tsz) 16777216 then (match buildSF tsz fr ps.toList (List.replicate n (tz.map zv)) with
     | some els => forceEE els fun els => some ⟨(d, .sl tsz true els) :: fr, hp, [], [], True⟩
     | none => none) else none
    | none => none)
   | _ => none)
  | none => none
 | .convert ts td x =>
  match T ts, T td, evA fr x with
  | some _, some di, .val (.int _ n) => (match di.k with
   | .int kk => (match arith kk n with
    | (r, s) => some ⟨(d, .val r) :: fr, hp, [], [], s⟩)
   | _ => none)
  | _, _, _ => none
 | .call ⟨.builtin .len, args, ats⟩ => aopLen T d fr hp args.toList ats.toList
 | _ => none
def aopS (T : Nat → Option TI) (fr : List (Nat × AV)) (hp : List (Nat × Option Blk)) : Op → Option Out
 | .store t x y =>
  match T t with
  | some ti => bif Nat.blt 0 ti.size then (match evA fr x with
   | .ptr b g' i f => (match lkH hp b with
    | some ⟨gen, sz, els⟩ => (match els[i]? with
     | some el => (match cellsA (evA fr y) with
      | some cs => bif Nat.beq cs.length ti.size then (match setF el f cs with
       | some el' => forceL el' fun el' => (match setEl els i el' with
        | some els' => some ⟨fr, (b, some ⟨gen, sz, els'⟩) :: hp, [b], [b], gen = g'⟩
        | none => none)
       | none => none) else none
      | none => none)
     | none => none)
    | none => none)
   | _ => none) else none
  | none => none
 | _ => none
def guardF (ops : Array Oper) (fr : List (Nat × AV)) (o : Oper) : Option Bool :=
 match o.guard with
 | none => some true
 | some (j, want) =>
  match ops[j]? with
  | none => none
  | some oj =>
   match oj.dst with
   | none => none
   | some e =>
    match lkA fr e with
    | .val (.bool b) => (match b, want with
     | true, true => some true
     | false, false => some true
     | true, false => some false
     | false, true => some false)
    | .val (.tuple _) => some false
    | _ => none
theorem guardF_spec {ops : Array Oper} {fr : List (Nat × AV)} {hp : List (Nat × Option Blk)} {gc : Nat} {o : Oper} {on : Bool} (h : guardF ops fr o = some on) : guardIs ops ⟨fr, hp, gc⟩ o on := by
 unfold guardF at h
 unfold guardIs
 split at h
 ·rename_i hg
  rw [hg]
  exact (Option.some.inj h).symm
 ·rename_i j want hg
  rw [hg]
  simp only
  split at h
  ·cases h
  ·rename_i oj hj
   split at h
   ·cases h
   ·rename_i e he
    split at h
    ·rename_i b hb
     refine ⟨oj, e, hj, he, .inl ⟨b, hb, ?_⟩⟩
     cases b <;> cases want <;> exact (Option.some.inj h).symm
    ·rename_i vs hb
     exact ⟨oj, e, hj, he, .inr ⟨vs, hb, (Option.some.inj h).symm⟩⟩
    ·cases h
def opF (T : Nat → Option TI) (n : Nat) (ops : Array Oper) (g : Nat) (fr : List (Nat × AV)) (hp : List (Nat × Option Blk)) (o : Oper) : Option Out :=
 match guardF ops fr o with
 | none => none
 | some false => (match o.dst with | some d => some ⟨(d, .val undef) :: fr, hp, [], [], True⟩ | none => some ⟨fr, hp, [], [], True⟩)
 | some true =>
  match o.dst with
  | some d => bif Nat.blt d n then aopV T g d fr hp o.op else none
  | none => aopS T fr hp o.op
section
variable {C : ACtx} {ops : Array Oper} {K : AS → List (List Nat × List Nat) → Prop} {k : Nat} {rest : List Oper} {fr : List (Nat × AV)} {hp : List (Nat × Option Blk)} {gc : Nat} {fps : List (List Nat × List Nat)}
 {d : Nat} {ty : TypeId} {pos : String} {after : Array Edge} {gd : Option (Nat × Bool)} {x y z : Operand} {v : AV}
def Good (C : ACtx) (ops : Array Oper) (K : AS → List (List Nat × List Nat) → Prop) (k : Nat) (rest : List Oper) (fr : List (Nat × AV)) (hp : List (Nat × Option Blk)) (gc : Nat) (fps : List (List Nat × List Nat)) (o : Oper) (out : Out) : Prop :=
 out.side → ARun C ops K (k + 1) rest ⟨out.fr, out.hp, gc⟩ (fps ++ [(out.r, out.w)]) → ARun C ops K k (o :: rest) ⟨fr, hp, gc⟩ fps
theorem aopLen_good {args : Array Operand} {ats : Array TypeId} {out : Out} (hd : Nat.blt d C.n = true) (hg : guardIs ops ⟨fr, hp, gc⟩ ⟨some d, .call ⟨.builtin .len, args, ats⟩, ty, pos, after, gd⟩ true) (h : aopLen C.T d fr hp args.toList ats.toList = some out) : Good C ops K k rest fr hp gc fps ⟨some d, .call ⟨.builtin .len, args, ats⟩, ty, pos, after, gd⟩ out := by
 intro hs n
 obtain ⟨args⟩ := args
 obtain ⟨ats⟩ := ats
 unfold aopLen at h
 split at h
 ·rename_i x t ha hb
  simp only at ha hb
  subst ha
  subst hb
  split at h
  ·rename_i ti ht
   split at h
   ·rename_i hk
    split at h
    ·rename_i hx
     obtain rfl := Option.some.inj h
     exact ARun.len hx ht hk hd hg n
    ·rename_i hx
     split at h
     ·rename_i hb
      obtain rfl := Option.some.inj h
      exact ARun.len_own hx hb hs ht hk hd hg n
     ·cases h
    ·cases h
   ·rename_i hk
    split at h
    ·rename_i hx
     obtain rfl := Option.some.inj h
     exact ARun.len_str hx ht hk hd hg n
    ·cases h
   ·cases h
  ·cases h
 ·cases h
theorem aopV_good {op : Op} {out : Out} (hd : Nat.blt d C.n = true) (hg : guardIs ops ⟨fr, hp, gc⟩ ⟨some d, op, ty, pos, after, gd⟩ true) (h : aopV C.T (gc + k) d fr hp op = some out) : Good C ops K k rest fr hp gc fps ⟨some d, op, ty, pos, after, gd⟩ out := by
 intro hs n
 unfold aopV at h
 split at h
 ·rw [forceA_eq] at h
  obtain rfl := Option.some.inj h
  exact ARun.move rfl hd hg n
 ·rw [forceA_eq] at h
  obtain rfl := Option.some.inj h
  exact ARun.assign rfl hd hg n
 ·split at h
  ·rename_i hb
   split at h
   ·rw [forceA_eq] at h
    obtain rfl := Option.some.inj h
    exact ARun.pickT hb rfl rfl hd hg n
   ·rw [forceA_eq] at h
    obtain rfl := Option.some.inj h
    exact ARun.pickF hb rfl rfl hd hg n
  ·cases h
 ·split at h
  ·rename_i es hx
   split at h
   ·rename_i v hv
    rw [forceA_eq] at h
    obtain rfl := Option.some.inj h
    exact ARun.extract hx hv hd hg n
   ·cases h
  ·cases h
 ·split at h
  ·rename_i p q hp' hq
   split at h
   ·rename_i r s hr
    obtain rfl := Option.some.inj h
    exact ARun.bin hp' hq (binV_spec hr hs) hd hg n
   ·cases h
  ·cases h
 ·split at h
  ·rename_i b hb
   obtain rfl := Option.some.inj h
   exact ARun.un hb un_not hd hg n
  ·rename_i kk m hb
   have e : (⟨(d, .val (arith kk (0 - m)).1) :: fr, hp, [], [], (arith kk (0 - m)).2⟩ : Out) = out := Option.some.inj h
   subst e
   have n' := n
   dsimp only at n'
   rw [arith_spec hs] at n'
   exact ARun.un hb (fun w => by simp [Op.unary, Op.intArith]) hd hg n'
  ·rename_i kk m hb
   obtain rfl := Option.some.inj h
   exact ARun.un hb (fun w => by cases hk : kk.signed <;> simp [Op.unary, Op.intBits, bitsV, hk]) hd hg n
  ·cases h
 ·split at h
  ·rename_i cs hc
   cases hz : Nat.blt 0 cs.length with
   | false => rw [hz] at h; cases h
   | true =>
    rw [hz] at h
    simp only [cond_true] at h
    rw [forceL_eq] at h
    obtain rfl := Option.some.inj h
    exact ARun.box hc hz hd hg n
  ·cases h
 ·split at h
  ·rename_i ti ht
   cases hz : (ti.zero.all Value.oneCell' && Nat.blt 0 (ti.zero.map zv).length) with
   | false => rw [hz] at h; cases h
   | true =>
    rw [hz] at h
    simp only [cond_true] at h
    rw [forceL_eq] at h
    obtain rfl := Option.some.inj h
    rw [Bool.and_eq_true] at hz
    exact ARun.alloc ht hz.1 hz.2 hd hg n
  ·cases h
 ·split at h
  ·rename_i ti ht
   split at h
   ·rename_i fs hk
    split at h
    ·rename_i off sz hf
     cases hz : Nat.blt 0 sz with
     | false => rw [hz] at h; cases h
     | true =>
      rw [hz] at h
      simp only [cond_true] at h
      split at h
      ·rename_i hx
       obtain rfl := Option.some.inj h
       exact ARun.fieldAddr hx ht hk hf hz hd hg n
      ·rename_i hx
       rw [forceL_eq] at h
       obtain rfl := Option.some.inj h
       exact ARun.fieldAddr_rp hx ht hk hf hz hd hg n
      ·cases h
    ·cases h
   ·cases h
  ·cases h
 ·split at h
  ·rename_i ti ht
   split at h
   ·rename_i ha
    split at h
    ·rename_i hx
     split at h
     ·rename_i gen sz els hb
      split at h
      ·rename_i el he
       split at h
       ·rename_i cs hc
        rw [forceL_eq] at h
        obtain rfl := Option.some.inj h
        exact ARun.loadAgg hx hb hs he ht ha hc hd hg n
       ·cases h
      ·cases h
     ·cases h
    ·rename_i hx
     split at h
     ·rename_i cs hc
      rw [forceL_eq] at h
      obtain rfl := Option.some.inj h
      exact ARun.loadAgg_rp hx ht ha hc hd hg n
     ·cases h
    ·cases h
   ·rename_i ha
    split at h
    ·rename_i hx
     split at h
     ·rename_i gen sz els hb
      split at h
      ·rename_i el he
       split at h
       ·rename_i v hv
        rw [forceA_eq] at h
        obtain rfl := Option.some.inj h
        exact ARun.loadOne hx hb hs he ht ha hv hd hg n
       ·cases h
      ·cases h
     ·cases h
    ·rename_i hx
     split at h
     ·rename_i v hv
      rw [forceA_eq] at h
      obtain rfl := Option.some.inj h
      exact ARun.loadOne_rp hx ht ha hv hd hg n
     ·cases h
    ·cases h
  ·cases h
 ·split at h
  ·rename_i ti ht
   split at h
   ·rename_i fs hk
    cases hz : ti.zero.all Value.oneCell' with
    | false => rw [hz] at h; cases h
    | true =>
     rw [hz] at h
     simp only [cond_true] at h
     split at h
     ·rename_i es hb
      rw [forceL_eq] at h
      obtain rfl := Option.some.inj h
      exact ARun.build ht hk hz (buildF_spec hb) hd hg n
     ·cases h
   ·rename_i nn e hk
    split at h
    ·rename_i te hte
     cases hz : ti.zero.all Value.oneCell' with
     | false => rw [hz] at h; cases h
     | true =>
      rw [hz] at h
      simp only [cond_true] at h
      split at h
      ·rename_i es hb
       rw [forceL_eq] at h
       obtain rfl := Option.some.inj h
       exact ARun.buildArr ht hk hte hz (buildF_spec hb) hd hg n
      ·cases h
    ·cases h
   ·cases h
  ·cases h
 ·split at h
  ·rename_i ti ht
   split at h
   ·rename_i e hk
    split at h
    ·rename_i tk tsz tb tz hte
     cases hz : (tz.all Value.oneCell' && Nat.beq tz.length tsz && Nat.blt 0 tsz && Nat.ble (_ * tsz) 16777216) with
     | false => rw [hz] at h; cases h
     | true =>
      rw [hz] at h
      simp only [cond_true] at h
      simp only [Bool.and_eq_true] at hz
      obtain ⟨⟨⟨z1, z2⟩, z3⟩, z4⟩ := hz
      split at h
      ·rename_i els hb
       rw [forceEE_eq] at h
       obtain rfl := Option.some.inj h
       exact ARun.buildSlice ht hk hte z1 (Nat.eq_of_beq_eq_true z2) z3 z4 (buildSF_spec hb) hd hg n
      ·cases h
    ·cases h
   ·cases h
  ·cases h
 ·split at h
  ·rename_i si di ks m hts htd hx
   split at h
   ·rename_i kk hk
    have e : (⟨(d, .val (arith kk m).1) :: fr, hp, [], [], (arith kk m).2⟩ : Out) = out := Option.some.inj h
    subst e
    have n' := n
    dsimp only at n'
    rw [arith_spec hs] at n'
    exact ARun.convInt hx hts htd hk hd hg n'
   ·cases h
  ·cases h
 ·exact aopLen_good hd hg h hs n
 ·cases h
theorem aopS_good {op : Op} {out : Out} (hg : guardIs ops ⟨fr, hp, gc⟩ ⟨none, op, ty, pos, after, gd⟩ true) (h : aopS C.T fr hp op = some out) : Good C ops K k rest fr hp gc fps ⟨none, op, ty, pos, after, gd⟩ out := by
 intro hs n
 unfold aopS at h
 split at h
 ·split at h
  ·rename_i ti ht
   cases hz : Nat.blt 0 ti.size with
   | false => rw [hz] at h; cases h
   | true =>
    rw [hz] at h
    simp only [cond_true] at h
    split at h
    ·rename_i hx
     split at h
     ·rename_i gen sz els hb
      split at h
      ·rename_i el he
       split at h
       ·rename_i cs hc
        cases hl : Nat.beq cs.length ti.size with
        | false => rw [hl] at h; cases h
        | true =>
         rw [hl] at h
         simp only [cond_true] at h
         split at h
         ·rename_i el' hs'
          rw [forceL_eq] at h
          split at h
          ·rename_i els' hse
           obtain rfl := Option.some.inj h
           have hset := (setEl_spec hse).spec.2
           subst hset
           exact ARun.store hx hb hs he ht hc (Nat.eq_of_beq_eq_true hl) hz (setF_spec hs') hg n
          ·cases h
         ·cases h
       ·cases h
      ·cases h
     ·cases h
    ·cases h
  ·cases h
 ·cases h
theorem ARun.op {o : Oper} {fr' : List (Nat × AV)} {hp' : List (Nat × Option Blk)} {r w : List Nat} {side : Prop} (h : opF C.T C.n ops (gc + k) fr hp o = some ⟨fr', hp', r, w, side⟩) (hs : side)
  (n : ARun C ops K (k + 1) rest ⟨fr', hp', gc⟩ (fps ++ [(r, w)])) : ARun C ops K k (o :: rest) ⟨fr, hp, gc⟩ fps := by
 obtain ⟨dst, op, ty, pos, after, gd⟩ := o
 unfold opF at h
 split at h
 ·cases h
 ·rename_i hg
  cases dst <;>
  ·simp only [Option.some.injEq, Out.mk.injEq] at h
   obtain ⟨rfl, rfl, rfl, rfl, rfl⟩ := h
   exact ARun.off (guardF_spec hg) n
 ·rename_i hg
  simp only at h
  cases dst with
  | none => exact aopS_good (guardF_spec hg) h hs n
  | some d =>
   simp only at h
   cases hd : Nat.blt d C.n with
   | false => rw [hd] at h; cases h
   | true =>
    rw [hd] at h
    exact aopV_good hd (guardF_spec hg) h hs n
theorem ARun.plain {o : Oper} {on : Bool} (_h : guardF ops fr o = some on) (n : ARun C ops K k (o :: rest) ⟨fr, hp, gc⟩ fps) : ARun C ops K k (o :: rest) ⟨fr, hp, gc⟩ fps := n
theorem ARun.fork {draw : Bool} {l0 : List Oper} {Q : Exit → AS → Prop} {dst : Option Nat} {op : Op} {j : Nat} {want b : Bool} {oj : Oper} {e : Nat} (h1 : ops[j]? = some oj) (h2 : oj.dst = some e) (h3 : lkA fr e = .val (.bool b))
  (ht : b = true → ARun C ops (regK draw l0 Q) k (⟨dst, op, ty, pos, after, some (j, want)⟩ :: rest) ⟨(e, .val (.bool true)) :: fr, hp, gc⟩ fps) (hf : b = false → ARun C ops (regK draw l0 Q) k (⟨dst, op, ty, pos, after, some (j, want)⟩ :: rest) ⟨(e, .val (.bool false)) :: fr, hp, gc⟩ fps) :
  ARun C ops (regK draw l0 Q) k (⟨dst, op, ty, pos, after, some (j, want)⟩ :: rest) ⟨fr, hp, gc⟩ fps := by
 have hq : ∀ b', b = b' → AS.eqv ⟨(e, .val (.bool b')) :: fr, hp, gc⟩ ⟨fr, hp, gc⟩ := by
  intro b' hb
  refine ⟨fun t => ?_, fun _ => rfl, rfl⟩
  simp only [lkA_cons]
  split
  ·rename_i he
   subst he
   rw [h3, hb]
  ·rfl
 cases b
 ·exact ARun.eqv _ (hf rfl) (hq false rfl)
 ·exact ARun.eqv _ (ht rfl) (hq true rfl)
end
end Go.Proofs.Ytkmlmboclegpcaa
namespace Go.Proofs.Ytkmlmboclegpcaa
open Go Go.RowKit
theorem awp_condT {C : ACtx} {s : AS} {Q : Exit → AS → Prop} {x : Operand} {c d : Code} {b : Bool} (hv : s.ev x = .val (.bool b)) (hb : b = true) (h : awp C c s Q) : awp C (.cond x c d) s Q := awp_cond hv (fun _ => h) (fun h' => by rw [hb] at h'; cases h')
theorem awp_condF {C : ACtx} {s : AS} {Q : Exit → AS → Prop} {x : Operand} {c d : Code} {b : Bool} (hv : s.ev x = .val (.bool b)) (hb : b = false) (h : awp C d s Q) : awp C (.cond x c d) s Q := awp_cond hv (fun h' => by rw [hb] at h'; cases h') (fun _ => h)
theorem closed_map {α : Type} {sz : Nat} {full : Bool} {f : α → List AV} {l : List α} (h : ∀ a x, x ∈ f a → Closed x) : Closed (.sl sz full (l.map f)) := .sl (fun el x hel hx => by
 obtain ⟨a, _, rfl⟩ := List.mem_map.1 hel
 exact h a x hx)
def toK (draw : Bool) (l : List Oper) (S : AS) : AS → List (List Nat × List Nat) → Prop := fun s fps => (draw = true → regOk l fps = true) ∧ FrLe s.fr S.fr ∧ HpLe s.hp S.hp ∧ s.gc + l.length ≤ S.gc
theorem FrLe.congr {l l2 : List (Nat × AV)} (h : ∀ t, lkA l t = lkA l2 t) : ∀ {l' : List (Nat × AV)}, FrLe l l' → FrLe l2 l'
 | [], _ => trivial
 | (t, _) :: _, k => ⟨(h t).symm.trans k.1, FrLe.congr h k.2⟩
theorem HpLe.congr {l l2 : List (Nat × Option Blk)} (h : ∀ t, lkH l t = lkH l2 t) : ∀ {l' : List (Nat × Option Blk)}, HpLe l l' → HpLe l2 l'
 | [], _ => trivial
 | (t, _) :: _, k => ⟨(h t).symm.trans k.1, HpLe.congr h k.2⟩
theorem toK.eqv {draw : Bool} {l : List Oper} {S s s' : AS} {fps : List (List Nat × List Nat)} (h : toK draw l S s fps) (e : s.eqv s') : toK draw l S s' fps :=
 ⟨h.1, FrLe.congr e.fr h.2.1, HpLe.congr e.hp h.2.2.1, by rw [← e.gc]; exact h.2.2.2⟩
theorem ARun.mono {C : ACtx} {ops : Array Oper} {K K' : AS → List (List Nat × List Nat) → Prop} (hK : ∀ s fps, K s fps → K' s fps) : ∀ (l : List Oper) {k : Nat} {s : AS} {fps : List (List Nat × List Nat)}, ARun C ops K k l s fps → ARun C ops K' k l s fps
 | [], _, _, _, h => hK _ _ h
 | o :: l, k, s, fps, ⟨it, h1, h2, h3, h4⟩ => ⟨it, h1, h2, h3, ARun.mono hK l h4⟩
section
variable {C : ACtx} {ops : Array Oper} {k : Nat} {rest : List Oper} {fr : List (Nat × AV)} {hp : List (Nat × Option Blk)} {gc : Nat} {fps : List (List Nat × List Nat)}
 {ty : TypeId} {pos : String} {after : Array Edge} {draw : Bool} {l0 : List Oper} {S : AS}
end
section
variable {C : ACtx} {ops : Array Oper} {k : Nat} {rest : List Oper} {fr : List (Nat × AV)} {hp : List (Nat × Option Blk)} {gc : Nat} {fps : List (List Nat × List Nat)}
 {ty : TypeId} {pos : String} {after : Array Edge} {draw : Bool} {l0 : List Oper} {Q : Exit → AS → Prop}
theorem ARun.knowT {dst : Option Nat} {op : Op} {j : Nat} {want b : Bool} {oj : Oper} {e : Nat} (h1 : ops[j]? = some oj) (h2 : oj.dst = some e) (h3 : lkA fr e = .val (.bool b)) (hb : b = true)
  (ht : ARun C ops (regK draw l0 Q) k (⟨dst, op, ty, pos, after, some (j, want)⟩ :: rest) ⟨(e, .val (.bool true)) :: fr, hp, gc⟩ fps) :
  ARun C ops (regK draw l0 Q) k (⟨dst, op, ty, pos, after, some (j, want)⟩ :: rest) ⟨fr, hp, gc⟩ fps := ARun.fork h1 h2 h3 (fun _ => ht) (fun h => absurd (hb.symm.trans h) (by decide))
theorem ARun.knowF {dst : Option Nat} {op : Op} {j : Nat} {want b : Bool} {oj : Oper} {e : Nat} (h1 : ops[j]? = some oj) (h2 : oj.dst = some e) (h3 : lkA fr e = .val (.bool b)) (hb : b = false)
  (hf : ARun C ops (regK draw l0 Q) k (⟨dst, op, ty, pos, after, some (j, want)⟩ :: rest) ⟨(e, .val (.bool false)) :: fr, hp, gc⟩ fps) :
  ARun C ops (regK draw l0 Q) k (⟨dst, op, ty, pos, after, some (j, want)⟩ :: rest) ⟨fr, hp, gc⟩ fps := ARun.fork h1 h2 h3 (fun h => absurd (hb.symm.trans h) (by decide)) (fun _ => hf)
end
end Go.Proofs.Ytkmlmboclegpcaa
namespace Go.Proofs.Ytkmlmboclegpcaa
open Go Go.RowKit
def kindsOf (P : Program) : Nat → List Field → Option (List Nat)
 | _, [] => some []
 | j, f :: fs =>
  if f.offset = j ∧ f.name ≠ "_" then
   match P.underlying f.type with
   | some (.int _) => (kindsOf P (j + 1) fs).map (0 :: ·)
   | some .bool => (kindsOf P (j + 1) fs).map (1 :: ·)
   | some .string => (kindsOf P (j + 1) fs).map (2 :: ·)
   | _ => none
  else none
def flatOf (P : Program) (t : TypeId) : Option (List Nat) :=
 if P.stoodInHeld t || P.eqGuardType P.depth t then none else
 match P.underlying t with
 | some (.struct fs) => kindsOf P 0 fs.toList
 | _ => none
def eqK : List Nat → List AV → List AV → Option Bool
 | [], [], [] => some true
 | k :: ks, .val p :: es, .val q :: es' =>
  match k, p, q with
  | 0, .int ka a, .int kb b => bif sameK ka kb then (match eqK ks es es' with | some c => some ((a == b) && c) | none => none) else none
  | 1, .bool a, .bool b => (match eqK ks es es' with | some c => some ((a == b) && c) | none => none)
  | 2, .string a, .string b => (match eqK ks es es' with | some c => some ((a.toList == b.toList) && c) | none => none)
  | _, _, _ => none
 | _, _, _ => none
theorem eqK_run {P : Program} {w : World} {c : RC} {d : Nat} : ∀ (fs : List Field) (j : Nat) (ks : List Nat) (es es' : List AV) (xs ys : Array Value) (b : Bool), kindsOf P j fs = some ks → eqK ks es es' = some b →
  (∀ (i : Nat) (x : AV), es[i]? = some x → ∃ u, xs[j + i]? = some u ∧ Rep c w x u) → (∀ (i : Nat) (x : AV), es'[i]? = some x → ∃ u, ys[j + i]? = some u ∧ Rep c w x u) →
  (Op.eqFields (d + 1) xs ys fs).run P w = .ok b w
 | [], j, ks, es, es', xs, ys, b, hk, he, hx, hy => by
  obtain rfl := Option.some.inj hk
  unfold eqK at he
  split at he
  ·obtain rfl := Option.some.inj he; rfl
  ·rename_i h; cases h
  ·cases he
 | f :: fs, j, ks, es, es', xs, ys, b, hk, he, hx, hy => by
  unfold kindsOf at hk
  split at hk
  ·rename_i hf
   obtain ⟨hoff, hname⟩ := hf
   have tail : ∀ (k : Nat) (p q : Value) (es1 es1' : List AV) (ks1 : List Nat) (b1 r : Bool), es = .val p :: es1 → es' = .val q :: es1' → kindsOf P (j + 1) fs = some ks1 → eqK ks1 es1 es1' = some b1 → (∀ u, P.underlying f.type = some u → (∀ x, u ≠ .struct x) ∧ (∀ n e, u ≠ .array n e)) → (P.underlying f.type).isSome = true →
     (Op.equalIn (d + 1) f.type p q).run P w = .ok r w → (Op.eqFields (d + 1) xs ys (f :: fs)).run P w = .ok (r && b1) w := by
    intro k p q es1 es1' ks1 b1 r h1 h2 h3 h4 h5 h6 h7
    subst h1
    subst h2
    obtain ⟨u, hu, ru⟩ := hx 0 _ rfl
    obtain ⟨v, hv, rv⟩ := hy 0 _ rfl
    obtain rfl := ru.val_inv
    obtain rfl := rv.val_inv
    have ih := eqK_run (w := w) (c := c) (d := d) fs (j + 1) ks1 es1 es1' xs ys b1 h3 h4 (fun i x hi => by
     have := hx (i + 1) x (by simpa using hi)
     rwa [show j + (i + 1) = j + 1 + i by omega] at this) (fun i x hi => by
     have := hy (i + 1) x (by simpa using hi)
     rwa [show j + (i + 1) = j + 1 + i by omega] at this)
    obtain ⟨ud, hud⟩ := Option.isSome_iff_exists.1 h6
    have hagg : (isAgg f.type).run P w = .ok false w := by
     unfold isAgg
     rw [Sem.run_bind, run_underlying hud]
     obtain ⟨n1, n2⟩ := h5 ud hud
     cases ud <;> first
      | rfl
      | exact absurd rfl (n1 _)
      | exact absurd rfl (n2 _ _)
    rw [Nat.add_zero] at hu hv
    have p1 : (part f.type xs f.offset).run P w = .ok u w := by simp [part, hagg, hoff, hu]
    have p2 : (part f.type ys f.offset).run P w = .ok v w := by simp [part, hagg, hoff, hv]
    rw [Op.eqFields, if_pos hname, Sem.run_bind, p1, Result.andThen_ok, Sem.run_bind, p2, Result.andThen_ok, Sem.run_bind, h7, Result.andThen_ok]
    cases r with
    | false => simp
    | true => simpa using ih
   have core : ∀ (k : Nat) (ks1 : List Nat), ks = k :: ks1 → ∃ p q es1 es1', es = .val p :: es1 ∧ es' = .val q :: es1' ∧ ∃ b1, eqK ks1 es1 es1' = some b1 ∧
     ((k = 0 ∧ ∃ ka a b', p = .int ka a ∧ q = .int ka b' ∧ b = ((a == b') && b1)) ∨ (k = 1 ∧ ∃ a b', p = .bool a ∧ q = .bool b' ∧ b = ((a == b') && b1)) ∨ (k = 2 ∧ ∃ a b', p = .string a ∧ q = .string b' ∧ b = ((a.toList == b'.toList) && b1))) := by
    intro k ks1 hks
    subst hks
    unfold eqK at he
    split at he
    ·rename_i h; cases h
    ·rename_i k' ks' p es1 q es1' heq
     obtain ⟨rfl, rfl⟩ := List.cons.inj heq
     split at he
     ·rename_i ka a kb b'
      cases hsk : sameK ka kb with
      | false => rw [hsk] at he; cases he
      | true =>
       rw [hsk] at he
       obtain rfl := sameK_eq hsk
       simp only [cond_true] at he
       split at he
       ·rename_i c' hc'
        exact ⟨_, _, _, _, rfl, rfl, c', hc', .inl ⟨rfl, _, _, _, rfl, rfl, (Option.some.inj he).symm⟩⟩
       ·cases he
     ·split at he
      ·rename_i c' hc'
       exact ⟨_, _, _, _, rfl, rfl, c', hc', .inr (.inl ⟨rfl, _, _, rfl, rfl, (Option.some.inj he).symm⟩)⟩
      ·cases he
     ·split at he
      ·rename_i c' hc'
       exact ⟨_, _, _, _, rfl, rfl, c', hc', .inr (.inr ⟨rfl, _, _, rfl, rfl, (Option.some.inj he).symm⟩)⟩
      ·cases he
     ·cases he
    ·cases he
   split at hk
   ·rename_i kk hu
    cases hks : kindsOf P (j + 1) fs with
    | none => rw [hks] at hk; cases hk
    | some ks1 =>
     rw [hks] at hk
     obtain ⟨p, q, es1, es1', e1, e2, b1, e3, e4 | e4 | e4⟩ := core 0 ks1 (Option.some.inj hk).symm
     ·obtain ⟨_, ka, a, b', rfl, rfl, rfl⟩ := e4
      exact tail 0 _ _ es1 es1' ks1 b1 _ e1 e2 hks e3 (fun u h => by rw [hu] at h; obtain rfl := Option.some.inj h; exact ⟨(fun _ h => by cases h), (fun _ _ h => by cases h)⟩) (by rw [hu]; rfl) (run_equalIn_int w d f.type ka kk a b' hu)
     ·exact absurd e4.1 (by decide)
     ·exact absurd e4.1 (by decide)
   ·rename_i hu
    cases hks : kindsOf P (j + 1) fs with
    | none => rw [hks] at hk; cases hk
    | some ks1 =>
     rw [hks] at hk
     obtain ⟨p, q, es1, es1', e1, e2, b1, e3, e4 | e4 | e4⟩ := core 1 ks1 (Option.some.inj hk).symm
     ·exact absurd e4.1 (by decide)
     ·obtain ⟨_, a, b', rfl, rfl, rfl⟩ := e4
      exact tail 1 _ _ es1 es1' ks1 b1 _ e1 e2 hks e3 (fun u h => by rw [hu] at h; obtain rfl := Option.some.inj h; exact ⟨(fun _ h => by cases h), (fun _ _ h => by cases h)⟩) (by rw [hu]; rfl) (Go.run_equalIn_bool w d f.type a b' hu)
     ·exact absurd e4.1 (by decide)
   ·rename_i hu
    cases hks : kindsOf P (j + 1) fs with
    | none => rw [hks] at hk; cases hk
    | some ks1 =>
     rw [hks] at hk
     obtain ⟨p, q, es1, es1', e1, e2, b1, e3, e4 | e4 | e4⟩ := core 2 ks1 (Option.some.inj hk).symm
     ·exact absurd e4.1 (by decide)
     ·exact absurd e4.1 (by decide)
     ·obtain ⟨_, a, b', rfl, rfl, rfl⟩ := e4
      exact tail 2 _ _ es1 es1' ks1 b1 _ e1 e2 hks e3 (fun u h => by rw [hu] at h; obtain rfl := Option.some.inj h; exact ⟨(fun _ h => by cases h), (fun _ _ h => by cases h)⟩) (by rw [hu]; rfl) (run_equalIn_string w d f.type a b' hu)
   ·cases hk
  ·cases hk
theorem run_eqAgg {P : Program} {w : World} {c : RC} {t : TypeId} {ks : List Nat} {es es' : List AV} {xs ys : Array Value} {b : Bool} (hf : flatOf P t = some ks) (he : eqK ks es es' = some b) (hx : Rep c w (.agg es) (.agg xs)) (hy : Rep c w (.agg es') (.agg ys)) :
  (Op.equalIn 10000 t (.agg xs) (.agg ys)).run P w = .ok b w ∧ P.eqGuardType P.depth t = false := by
 unfold flatOf at hf
 split at hf
 ·cases hf
 ·rename_i hn
  have hn1 : P.stoodInHeld t = false := by cases h : P.stoodInHeld t <;> simp [h] at hn ⊢
  have hn2 : P.eqGuardType P.depth t = false := by cases h : P.eqGuardType P.depth t <;> simp [h] at hn ⊢
  split at hf
  ·rename_i fs hu
   have hu' : P.underlying t = some (.struct (P.fieldsOf t)) := by
    unfold Program.fieldsOf
    rw [hu]
   have e : P.fieldsOf t = fs := by
    unfold Program.fieldsOf
    rw [hu]
   refine ⟨?_, hn2⟩
   rw [show (10000 : Nat) = 9999 + 1 from rfl, run_equalIn_struct w 9999 t xs ys hu' hn1, e]
   have conv : ∀ (es : List AV) (xs : Array Value), Rep c w (.agg es) (.agg xs) → ∀ (i : Nat) (x : AV), es[i]? = some x → ∃ u, xs[0 + i]? = some u ∧ Rep c w x u := by
    intro es xs h i x hi
    generalize hz : Value.agg xs = z at h
    cases h with
    | agg _ us hl h1 hr =>
     obtain rfl := Value.agg.inj hz
     have hlt : i < us.length := by rw [hl]; exact (List.getElem?_eq_some_iff.1 hi).1
     exact ⟨us[i], by simp [hlt], hr i x _ hi (List.getElem?_eq_getElem hlt)⟩
   exact eqK_run (c := c) (d := 9998) fs.toList 0 ks es es' xs ys b hf he (conv es xs hx) (conv es' ys hy)
  ·cases hf
section
variable {C : ACtx} {ops : Array Oper} {K : AS → List (List Nat × List Nat) → Prop} {k : Nat} {rest : List Oper} {fr : List (Nat × AV)} {hp : List (Nat × Option Blk)} {gc : Nat} {fps : List (List Nat × List Nat)}
 {d : Nat} {ty : TypeId} {pos : String} {after : Array Edge} {gd : Option (Nat × Bool)} {x y : Operand}
theorem agg_inv {c : RC} {w : World} {es : List AV} {u : Value} (h : Rep c w (.agg es) u) : ∃ xs, u = .agg xs := by cases h; exact ⟨_, rfl⟩
theorem ARun.neAgg {t yt : TypeId} {ks : List Nat} {es es' : List AV} {b : Bool} (hf : flatOf C.P t = some ks) (hx : evA fr x = .agg es) (hy : evA fr y = .agg es') (he : eqK ks es es' = some b)
  (hd : Nat.blt d C.n = true) (hg : guardIs ops ⟨fr, hp, gc⟩ ⟨some d, .binOp .neq t x y yt, ty, pos, after, gd⟩ true)
  (n : ARun C ops K (k + 1) rest ⟨(d, .val (.bool (!b))) :: fr, hp, gc⟩ (fps ++ [([], [])])) : ARun C ops K k (⟨some d, .binOp .neq t x y yt, ty, pos, after, gd⟩ :: rest) ⟨fr, hp, gc⟩ fps :=
 ARun.quiet hd hg [] (by simp) (fun s c a w hS hev _ => by
  have h1 := hev x (by simp [Op.operands])
  have h2 := hev y (by simp [Op.operands])
  rw [hx] at h1
  rw [hy] at h2
  obtain ⟨xs, hu⟩ := agg_inv h1
  obtain ⟨ys, hv⟩ := agg_inv h2
  rw [hu] at h1
  rw [hv] at h2
  obtain ⟨q1, q2⟩ := run_eqAgg hf he h1 h2
  refine ⟨.bool (!b), ?_, .val _⟩
  simp [execOp, hu, hv, run_eqGuard_agg w .neq t x y xs ys q2, run_neq_struct, q1]) n
end
section
variable {P : Program} {T : Nat → Option TI} {ok : ∀ t ti, T t = some ti → tiOf P t = some ti} {nn : Nat} {w0 : World} {st0 lent : Nat → Prop} {rdd : Option Nat × Bool} {c00 : RC} {ops : Array Oper} {K : AS → List (List Nat × List Nat) → Prop} {k : Nat} {rest : List Oper} {fr : List (Nat × AV)} {hp : List (Nat × Option Blk)} {gc : Nat} {fps : List (List Nat × List Nat)}
 {d : Nat} {ty : TypeId} {pos : String} {after : Array Edge} {gd : Option (Nat × Bool)} {x y : Operand} {v : AV}
theorem callX {fx : Operand} {args : Array Operand} {ats : Array TypeId} {f : FuncId} {avs : List AV} (hF : FnC P f avs v) (hf : evA fr fx = .val (.func (.func f) #[] #[])) (ha : args.toList.map (evA fr) = avs)
  (hd : Nat.blt d nn = true) (hg : guardF ops fr ⟨some d, .call ⟨.value fx, args, ats⟩, ty, pos, after, gd⟩ = some true)
  (nx : ARun ⟨P, T, ok, nn, w0, st0, lent, rdd, c00⟩ ops K (k + 1) rest ⟨(d, v) :: fr, hp, gc⟩ (fps ++ [([], [])])) : ARun ⟨P, T, ok, nn, w0, st0, lent, rdd, c00⟩ ops K k (⟨some d, .call ⟨.value fx, args, ats⟩, ty, pos, after, gd⟩ :: rest) ⟨fr, hp, gc⟩ fps :=
 ARun.call hF hf ha hd (guardF_spec hg) nx
theorem neX {t yt : TypeId} {ks : List Nat} {es es' : List AV} {b : Bool} (hf : flatOf P t = some ks) (hx : evA fr x = .agg es) (hy : evA fr y = .agg es') (he : eqK ks es es' = some b)
  (hd : Nat.blt d nn = true) (hg : guardF ops fr ⟨some d, .binOp .neq t x y yt, ty, pos, after, gd⟩ = some true)
  (n : ARun ⟨P, T, ok, nn, w0, st0, lent, rdd, c00⟩ ops K (k + 1) rest ⟨(d, .val (.bool (!b))) :: fr, hp, gc⟩ (fps ++ [([], [])])) : ARun ⟨P, T, ok, nn, w0, st0, lent, rdd, c00⟩ ops K k (⟨some d, .binOp .neq t x y yt, ty, pos, after, gd⟩ :: rest) ⟨fr, hp, gc⟩ fps :=
 ARun.neAgg hf hx hy he hd (guardF_spec hg) n
end
end Go.Proofs.Ytkmlmboclegpcaa
namespace Go.Proofs.Ytkmlmboclegpcaa
open Go Go.RowKit
theorem own_to_sl {C : ACtx} {s : AS} {c c' : RC} {a : Act} {w : World} (hS : Sim C s c a w) {b g sz : Nat} {els : List (List AV)} {u : Value} (hb : lkH s.hp b = some ⟨g, sz, els⟩) (hcl : ∀ el x, el ∈ els → x ∈ el → Closed x)
  (hst : ∀ β, c.st β → c'.st β) (hst' : ∀ o β, c.own b g = some o → o.loc = some β → c'.st β) (r : Rep c w (.own b g 0 els.length) u) : Rep c' w (.sl sz false els) u := by
 obtain ⟨o, h1, hB⟩ := hS.hp b _ hb
 simp only at h1
 generalize hn : els.length = n at r
 cases r with
 | own _ _ _ _ A m cap hu hp =>
  obtain ⟨rfl, k2, k3, k4, k0, k5⟩ := hp o h1
  obtain ⟨h2, h3, h4⟩ := hB.row k0
  simp only at h2 h3 h4
  subst hn
  rcases k5 with hcap | ⟨β, k5, k6, k7⟩
  ·subst hcap
   have he : els = [] := List.eq_nil_of_length_eq_zero (by omega)
   subst he
   exact .sl sz false [] A 0 0 0 (fun _ _ => undef) (by simp) (by simp [maxLen]) (by simp) (fun _ => rfl) (by simp) (fun h => absurd rfl h) (fun i el f x hi => by simp at hi) (fun i el f x hi => by simp at hi)
  ·rw [k5] at h4
   obtain ⟨cur, e, q1, q2, q3⟩ := h4
   rw [Nat.zero_mul] at k6
   refine .sl sz false els A cap β 0 (fun i f => (cur[i * sz + f]?).getD undef) k2 k3 (by simp) k4 h3 (fun _ => ⟨k6, fun _ => hst' o β h1 k5⟩) (fun i el f x hi hx => ?_) (fun i el f x hi hx => ?_)
   ·obtain ⟨z, r1, r2, r3⟩ := q3 i el f x hi hx
    rw [r1]
    refine ⟨?_, r2⟩
    rw [cell_row q1, Nat.zero_add]
    exact r1
   ·obtain ⟨z, r1, r2, r3⟩ := q3 i el f x hi hx
    rw [r1]
    exact r3.closed (hcl el x (List.mem_of_getElem? hi) (List.mem_of_getElem? hx)) c' (fun β' hb' => ⟨hst β' hb', rfl⟩)
def FrFz (fr : List (Nat × AV)) (b g sz : Nat) (els : List (List AV)) : List (Nat × AV) → Prop
 | [] => True
 | (t, v) :: r => (lkA fr t = v ∨ (∃ n, lkA fr t = .own b g 0 n ∧ n = els.length ∧ v = .sl sz false els)) ∧ FrFz fr b g sz els r
def HpFz (hp : List (Nat × Option Blk)) (b : Nat) : List (Nat × Option Blk) → Prop
 | [] => True
 | (t, v) :: r => (lkH hp t = v ∧ Nat.beq t b = false) ∧ HpFz hp b r
theorem FrFz.spec {fr : List (Nat × AV)} {b g sz : Nat} {els : List (List AV)} : ∀ {l : List (Nat × AV)}, FrFz fr b g sz els l → ∀ t, lkA l t = lkA fr t ∨ (lkA fr t = .own b g 0 els.length ∧ lkA l t = .sl sz false els) ∨ lkA l t = .dead
 | [], _, _ => .inr (.inr rfl)
 | (k, v) :: r, h, t => by
  rw [lkA_cons]
  split
  ·rename_i e
   subst e
   rcases h.1 with h1 | ⟨n, h1, h2, h3⟩
   ·exact .inl h1.symm
   ·subst h2
    exact .inr (.inl ⟨h1, h3⟩)
  ·exact FrFz.spec h.2 t
theorem HpFz.spec {hp : List (Nat × Option Blk)} {b : Nat} : ∀ {l : List (Nat × Option Blk)}, HpFz hp b l → ∀ t, (lkH l t = lkH hp t ∧ t ≠ b) ∨ lkH l t = none
 | [], _, _ => .inr rfl
 | (k, v) :: r, h, t => by
  rw [lkH_cons]
  split
  ·rename_i e
   subst e
   refine .inl ⟨h.1.1.symm, fun e => ?_⟩
   have := h.1.2
   rw [e, Nat.beq_refl] at this
   cases this
  ·exact HpFz.spec h.2 t
theorem awp_freeze {C : ACtx} {fr fr' : List (Nat × AV)} {hp hp' : List (Nat × Option Blk)} {gc : Nat} {c : Code} {Q : Exit → AS → Prop} (b g sz : Nat) (els : List (List AV)) (hb : lkH hp b = some ⟨g, sz, els⟩) (hcl : ∀ el x, el ∈ els → x ∈ el → Closed x)
  (h1 : FrFz fr b g sz els fr') (h2 : HpFz hp b hp') (k : awp C c ⟨fr', hp', gc⟩ Q) : awp C c ⟨fr, hp, gc⟩ Q := by
 refine awp_weaken (fun a w ⟨c0, hS, hu⟩ => ?_) k
 classical
 let c' : RC := ⟨fun b' g' => if lkH hp' b' = none then none else c0.own b' g', c0.used, fun β => c0.st β ∨ ∃ o, c0.own b g = some o ∧ o.loc = some β⟩
 have hst1 : ∀ β, c0.st β → c'.st β := fun β hβ => .inl hβ
 have hm : Mono c0 c' w w := ⟨fun β hb => ⟨hst1 β hb, rfl⟩, fun g hg => hg, fun b g o _ ho => by
  simp only [c'] at ho
  split at ho
  ·cases ho
  ·exact ho⟩
 have hne : ∀ b', lkH hp' b' ≠ none → lkH hp' b' = lkH hp b' ∧ b' ≠ b := by
  intro b' hb'
  rcases h2.spec b' with e | e
  ·exact e
  ·exact absurd e hb'
 refine ⟨c', ⟨hS.nd.step (fun _ hb => ⟨.inl hb, rfl⟩), hS.sz, fun t => ?_, fun b' blk hb' => ?_, fun b' g' o ho => ?_, fun b1 g1 o1 b2 g2 o2 β q1 q2 q3 q4 => ?_, fun β hβ => ?_, fun β hβ => .inl (hS.st0 β hβ), hS.old, hS.mo.trans hm⟩, hu⟩
 ·rcases h1.spec t with e | ⟨e1, e2⟩ | e
  ·simp only [e]; exact (hS.fr t).mono hm
  ·simp only [e2]
   have := hS.fr t
   simp only [e1] at this
   exact own_to_sl hS hb hcl hst1 (fun o β ho hβ => .inr ⟨o, ho, hβ⟩) this
  ·simp only [e]; exact .dead _
 ·have hb'' : lkH hp' b' = some blk := hb'
  obtain ⟨e1, e2⟩ := hne b' (by rw [hb'']; simp)
  obtain ⟨o, q1, q2⟩ := hS.hp b' blk (by simp only; rw [← e1]; exact hb'')
  refine ⟨o, ?_, q2.mono hm (fun _ _ => rfl)⟩
  simp only [c']
  rw [if_neg (by rw [hb'']; simp)]
  exact q1
 ·simp only [c'] at ho
  split at ho
  ·cases ho
  ·rename_i hn
   obtain ⟨e1, e2⟩ := hne b' hn
   obtain ⟨q1, ⟨blk, q2, q3⟩, q4⟩ := hS.al b' g' o ho
   refine ⟨q1, ⟨blk, e1.trans q2, q3⟩, fun β hβ => ?_⟩
   obtain ⟨r1, r2, r3⟩ := q4 β hβ
   refine ⟨r1, fun hs => ?_, r3⟩
   rcases hs with hs | ⟨o', ho', hl'⟩
   ·exact r2 hs
   ·exact e2 (hS.inj b' g' o b g o' β ho ho' hβ hl').1
 ·simp only [c'] at q1 q2
  split at q1
  ·cases q1
  ·split at q2
   ·cases q2
   ·exact hS.inj b1 g1 o1 b2 g2 o2 β q1 q2 q3 q4
 ·rcases hβ with hβ | ⟨o, ho, hl⟩
  ·exact hS.st β hβ
  ·obtain ⟨r1, r2, r3⟩ := (hS.al b g o ho).2.2 β hl
   exact ⟨r1, .inr r3⟩
theorem awp_region_ne {C : ACtx} {s : AS} {Q : Exit → AS → Prop} {id : Nat} {l : List Oper} {draw : Bool} (m : Nat) (_ : Nat.beq id m = false) (hm : draw = true → C.P.follows .mixedOrders = true) (h : ARun C l.toArray (regK draw l Q) 0 l s []) : awp C (.region id l.toArray draw) s Q := awp_region hm h
theorem own_closed_map {α : Type} {f : α → List AV} {l : List α} (h : ∀ a x, x ∈ f a → Closed x) : ∀ el x, el ∈ l.map f → x ∈ el → Closed x := fun el x hel hx => by
 obtain ⟨a, _, rfl⟩ := List.mem_map.1 hel
 exact h a x hx
end Go.Proofs.Ytkmlmboclegpcaa
namespace Go.Proofs.Ytkmlmboclegpcaa
open Go Go.RowKit
inductive Wk : AV → AV → Prop where
 | same (v : AV) : Wk v v
 | nil (sz sz' : Nat) (full : Bool) : Wk (.sl sz full []) (.sl sz' false [])
 | weak (sz : Nat) (full : Bool) (els : List (List AV)) : Wk (.sl sz full els) (.sl sz false els)
 | agg {es es' : List AV} (hl : es'.length = es.length) (hr : ∀ (i : Nat) (x x' : AV), es[i]? = some x → es'[i]? = some x' → Wk x x') : Wk (.agg es) (.agg es')
theorem Wk.rep {c : RC} {w : World} {v v' : AV} (h : Wk v v') : ∀ {u : Value}, Rep c w v u → Rep c w v' u := by
 induction h with
 | same v => exact fun r => r
 | nil sz sz' full =>
  intro u r
  cases r with
  | sl _ _ _ A cap β o us hn hm hf h0 hz hA hc hr => exact .sl sz' false [] A cap β o us hn hm (by simp) h0 (by simp) (fun h => absurd rfl h) (fun i el f x hi => by simp at hi) (fun i el f x hi => by simp at hi)
 | weak sz full els =>
  intro u r
  cases r with
  | sl _ _ _ A cap β o us hn hm hf h0 hz hA hc hr => exact .sl sz false els A cap β o us hn hm (by simp) h0 hz hA hc hr
 | @agg es es' hl _ ih =>
  intro u r
  cases r with
  | agg _ us hl' h1 hr =>
   refine .agg es' us (hl'.trans hl.symm) h1 (fun i x' u hx hu => ?_)
   have hi : i < es.length := by rw [← hl]; exact (List.getElem?_eq_some_iff.1 hx).1
   exact ih i es[i] x' (List.getElem?_eq_getElem hi) hx (hr i _ u (List.getElem?_eq_getElem hi) hu)
def WkL (es es' : List AV) : Prop := es'.length = es.length ∧ ∀ (i : Nat) (x x' : AV), es[i]? = some x → es'[i]? = some x' → Wk x x'
theorem WkL.nil : WkL [] [] := ⟨rfl, fun i x x' h => by simp at h⟩
theorem WkL.cons {x x' : AV} {es es' : List AV} (h : Wk x x') (t : WkL es es') : WkL (x :: es) (x' :: es') :=
 ⟨by simp [t.1], fun i y y' hy hy' => by
  cases i with
  | zero =>
   simp only [List.getElem?_cons_zero, Option.some.injEq] at hy hy'
   subst hy
   subst hy'
   exact h
  | succ i => exact t.2 i y y' (by simpa using hy) (by simpa using hy')⟩
theorem Wk.aggL {es es' : List AV} (h : WkL es es') : Wk (.agg es) (.agg es') := .agg h.1 h.2
theorem Wk.nilSl {sz sz' : Nat} {full : Bool} : Wk (.sl sz full []) (.sl sz' false []) := .nil sz sz' full
theorem FnC.wk {P : Program} {f : FuncId} {avs avs' : List AV} {v : AV} (h : FnC P f avs v) (hw : WkL avs' avs) : FnC P f avs' v := by
 obtain ⟨h1, h2⟩ := h
 refine ⟨h1, fun w st us hst hl hr => h2 w st us hst (hl.trans hw.1.symm) (fun i x u hx hu => ?_)⟩
 have hi : i < avs'.length := by rw [← hw.1]; exact (List.getElem?_eq_some_iff.1 hx).1
 exact (hw.2 i avs'[i] x (List.getElem?_eq_getElem hi) hx).rep (hr i _ u (List.getElem?_eq_getElem hi) hu)
section
variable {P : Program} {T : Nat → Option TI} {ok : ∀ t ti, T t = some ti → tiOf P t = some ti} {nn : Nat} {w0 : World} {st0 lent : Nat → Prop} {rdd : Option Nat × Bool} {c00 : RC} {ops : Array Oper} {K : AS → List (List Nat × List Nat) → Prop} {k : Nat} {rest : List Oper} {fr : List (Nat × AV)} {hp : List (Nat × Option Blk)} {gc : Nat} {fps : List (List Nat × List Nat)}
 {d : Nat} {ty : TypeId} {pos : String} {after : Array Edge} {gd : Option (Nat × Bool)} {v : AV}
end
end Go.Proofs.Ytkmlmboclegpcaa
namespace Go.Proofs.Ytkmlmboclegpcaa
open Go Go.RowKit Go.ChangeShapes Go.WideShapes Go.Deep
def CR (c : RC) (w : World) (es : List AV) (cs : List Value) : Prop := cs.length = es.length ∧ (∀ u, u ∈ cs → u.oneCell' = true) ∧ ∀ (i : Nat) (x : AV) (u : Value), es[i]? = some x → cs[i]? = some u → Rep c w x u
theorem CR.one {c : RC} {w : World} {x : AV} {u : Value} (h1 : u.oneCell' = true) (h : Rep c w x u) : CR c w [x] [u] :=
 ⟨rfl, fun v hv => by rw [List.mem_singleton.1 hv]; exact h1, fun i x' u' hx hu => by
  cases i with
  | zero =>
   simp only [List.getElem?_cons_zero, Option.some.injEq] at hx hu
   rw [← hx, ← hu]
   exact h
  | succ i => simp at hx⟩
theorem CR.app {c : RC} {w : World} {es es' : List AV} {cs cs' : List Value} (h : CR c w es cs) (k : CR c w es' cs') : CR c w (es ++ es') (cs ++ cs') :=
 ⟨by rw [List.length_append, List.length_append, h.1, k.1], fun u hu => (List.mem_append.1 hu).elim (h.2.1 u) (k.2.1 u), fun i x u hx hu => by
  by_cases hi : i < es.length
  ·rw [List.getElem?_append_left hi] at hx
   rw [List.getElem?_append_left (by rw [h.1]; exact hi)] at hu
   exact h.2.2 i x u hx hu
  ·rw [List.getElem?_append_right (by omega)] at hx
   rw [List.getElem?_append_right (by rw [h.1]; omega), h.1] at hu
   exact k.2.2 _ x u hx hu⟩
theorem CR.agg {c : RC} {w : World} {es : List AV} {cs : List Value} (h : CR c w es cs) : Rep c w (.agg es) (.agg cs.toArray) := .agg es cs h.1 h.2.1 h.2.2
theorem CR.val {c : RC} {w : World} {x : AV} {u : Value} (h : CR c w [x] [u]) : Rep c w x u := h.2.2 0 x u rfl rfl
theorem wf64 {n : Int} (h : (Lit.int .i64 n).wf = true) : -9223372036854775808 ≤ n ∧ n ≤ 9223372036854775807 := by
 simpa [Lit.wf, IntKind.min, IntKind.max, IntKind.bits, IntKind.signed] using h
theorem wf8u {n : Int} (h : (Lit.int .u8 n).wf = true) : 0 ≤ n ∧ n ≤ 255 := by
 simpa [Lit.wf, IntKind.min, IntKind.max, IntKind.bits, IntKind.signed] using h
theorem listOf {α : Type} (Q : Nat → α → Prop) : ∀ n : Nat, (∀ i, i < n → ∃ y, Q i y) → ∃ l : List α, l.length = n ∧ ∀ i x, l[i]? = some x → Q i x
 | 0, _ => ⟨[], rfl, fun i x h => by simp at h⟩
 | n + 1, h => by
  obtain ⟨l, hl, hq⟩ := listOf Q n (fun i hi => h i (by omega))
  obtain ⟨y, hy⟩ := h n (by omega)
  refine ⟨l ++ [y], by simp [hl], fun i x hx => ?_⟩
  by_cases hi : i < n
  ·rw [List.getElem?_append_left (by omega)] at hx
   exact hq i x hx
  ·rw [List.getElem?_append_right (by omega), hl] at hx
   have : i - n = 0 := by
    have := (List.getElem?_eq_some_iff.1 hx).1
    simp at this
    omega
   rw [this] at hx
   simp at hx
   subst hx
   have : i = n := by omega
   subst this
   exact hy
theorem spot_none {w : World} {p : Addr} {u : Value} (h : w.cell? p = some u) : p.spot = none := by
 unfold World.cell? at h
 split at h
 ·split at h
  ·cases h
  ·rename_i hs
   simpa using hs
 ·cases h
theorem add_add (a : Addr) (i j : Nat) : (a.add i).add j = a.add (i + j) := by
 unfold Addr.add
 by_cases hi : i = 0 <;> by_cases hj : j = 0 <;> simp [hi, hj, Nat.add_assoc]
section
variable {H : Type} {encT : TypeId × Value → H} {P : Program} {w : World} {base : Nat} {spare : Nat → Bool} {held : Bool}
abbrev still (w : World) : RC := RC.pure (fun β => β < w.heap.size)
def Opens (encT : TypeId × Value → H) (P : Program) (w : World) (base : Nat) (spare : Nat → Bool) (held : Bool) (t : TypeId) {α : Type} (enc : α → List AV) (Q : α → Prop) : Prop :=
 ∀ n cs x, DataW.trod encT P w base spare held n t cs = some x → ∃ y : α, CR (still w) w (enc y) cs ∧ Q y
def encI (n : Int) : List AV := [.val (.int .i64 n)]
def encU8 (n : Int) : List AV := [.val (.int .u8 n)]
def encBo (b : Bool) : List AV := [.val (.bool b)]
def In64 (n : Int) : Prop := -9223372036854775808 ≤ n ∧ n ≤ 9223372036854775807
theorem opens_int {t : TypeId} (ht : P.underlying t = some (.int .i64)) : Opens encT P w base spare held t encI In64 := fun n cs x h => by
 obtain ⟨a, e, _, hw⟩ := DataW.trod_int ht h
 subst e
 exact ⟨a, .one rfl (.val _), wf64 hw⟩
theorem opens_u8 {t : TypeId} (ht : P.underlying t = some (.int .u8)) : Opens encT P w base spare held t encU8 (fun n => 0 ≤ n ∧ n ≤ 255) := fun n cs x h => by
 obtain ⟨a, e, _, hw⟩ := DataW.trod_int ht h
 subst e
 exact ⟨a, .one rfl (.val _), wf8u hw⟩
theorem opens_bool {t : TypeId} (ht : P.underlying t = some .bool) : Opens encT P w base spare held t encBo (fun _ => True) := fun n cs x h => by
 obtain ⟨a, e, _⟩ := DataW.trod_bool ht h
 subst e
 exact ⟨a, .one rfl (.val _), trivial⟩
def encL {α : Type} (sz : Nat) (enc : α → List AV) (l : List α) : List AV := [.sl sz false (l.map enc)]
theorem opens_slice {α : Type} {sz : Nat} {enc : α → List AV} {Q : α → Prop} {t e : TypeId} (ht : P.underlying t = some (.slice e)) (hC : P.cellsOf e = sz) (hsz : 0 < sz) (henc : ∀ y, (enc y).length = sz)
  (el : Opens encT P w base spare held e enc Q) : Opens encT P w base spare held t (encL sz enc) (fun l => l.length ≤ maxLen ∧ ∀ y, y ∈ l → Q y) := fun fuel cs x h => by
 rcases open_slice ht h with ⟨rfl, _⟩ | ⟨a, len, cap, m, n, D, Pl, rfl, hb, hl, hm, hmm, _, hi⟩
 ·exact ⟨[], .one rfl (.sl sz false [] none 0 0 0 (fun _ _ => undef) (by simp) (by simp [maxLen]) (by simp) (fun _ => rfl) (by simp) (fun h => absurd rfl h) (fun i el f x hi => by simp at hi) (fun i el f x hi => by simp at hi)), by simp [maxLen], fun y hy => by cases hy⟩
 ·have hlm : len ≤ m := by rw [hmm]; split <;> omega
  obtain ⟨l, hlen, hq⟩ := listOf (fun i (y : α) => Q y ∧ ∃ cs', w.cells? base (a.add (i * sz)) sz = some cs' ∧ CR (still w) w (enc y) cs') len (fun i hil => by
   obtain ⟨cs', h1, h2⟩ := hi i (by omega)
   rw [hC] at h1
   obtain ⟨y, h3, h4⟩ := el _ _ _ h2
   exact ⟨y, h4, cs', h1, h3⟩)
  subst hlen
  have hcell : ∀ (i : Nat) (y : α), l[i]? = some y → ∃ cs', cs'.length = sz ∧ CR (still w) w (enc y) cs' ∧ ∀ (f : Nat) (u : Value), cs'[f]? = some u → w.cell? (a.add (i * sz + f)) = some u := fun i y hy => by
   obtain ⟨_, cs', h1, h2⟩ := hq i y hy
   obtain ⟨_, hcl, hat⟩ := World.cells?_some h1
   refine ⟨cs', hcl, h2, fun f u hu => ?_⟩
   have hf : f < sz := by rw [← hcl]; exact (List.getElem?_eq_some_iff.1 hu).1
   have := hat f hf
   rw [add_add] at this
   rw [this, hu]
  have hspa : ∀ y, l[0]? = some y → a.spot = none ∧ a.block < w.heap.size := fun y hy => by
   obtain ⟨cs', h1, h2, h3⟩ := hcell 0 y hy
   have hc0 : cs'[0]? = some (cs'[0]'(by omega)) := List.getElem?_eq_getElem _
   have h4 := h3 0 _ hc0
   have he : a.add (0 * sz + 0) = a := by simp [Addr.add]
   rw [he] at h4
   exact ⟨spot_none h4, World.block_lt_of_cell? w a h4⟩
  cases hl0 : l with
  | nil =>
   refine ⟨[], .one rfl ?_, by simp [maxLen], fun y hy => by cases hy⟩
   rw [hl0] at hl
   exact .sl sz false [] (some a) cap 0 0 (fun _ _ => undef) (by simp) hm (by simp) (fun h => by cases h) (by simp) (fun h => absurd rfl h) (fun i el f x hi => by simp at hi) (fun i el f x hi => by simp at hi)
  | cons y0 l' =>
   obtain ⟨hs1, hs2⟩ := hspa y0 (by rw [hl0]; rfl)
   rw [← hl0]
   refine ⟨l, .one rfl ?_, by omega, fun y hy => ?_⟩
   ·obtain ⟨b, o, sp⟩ := a
    simp only at hs1 hs2
    subst hs1
    have key : ∀ (i : Nat) (el : List AV) (f : Nat) (x : AV), (l.map enc)[i]? = some el → el[f]? = some x → ∃ u, w.cell? ⟨b, o + i * sz + f, none⟩ = some u ∧ u.oneCell' = true ∧ Rep (still w) w x u := fun i el f x hi hx => by
     rw [List.getElem?_map] at hi
     cases hy : l[i]? with
     | none => rw [hy] at hi; cases hi
     | some y =>
      rw [hy] at hi
      simp only [Option.map_some, Option.some.injEq] at hi
      subst hi
      obtain ⟨cs', h1, h2, h3⟩ := hcell i y hy
      have hf : f < cs'.length := by rw [h2.1]; exact (List.getElem?_eq_some_iff.1 hx).1
      have h4 := h3 f _ (List.getElem?_eq_getElem hf)
      rw [Addr.add_lit, ← Nat.add_assoc] at h4
      exact ⟨_, h4, h2.2.1 _ (List.getElem_mem hf), h2.2.2 f x _ hx (List.getElem?_eq_getElem hf)⟩
    have hln : (l.map enc).length = l.length := List.length_map ..
    rw [← hln]
    refine .sl sz false (l.map enc) (some ⟨b, o, none⟩) cap b o (fun i f => (w.cell? ⟨b, o + i * sz + f, none⟩).getD undef) (by omega) hm (by simp) (fun h => by cases h) (fun el hel => ?_) (fun _ => ⟨rfl, fun _ => hs2⟩) (fun i el f x hi hx => ?_) (fun i el f x hi hx => ?_)
    ·obtain ⟨y, _, rfl⟩ := List.mem_map.1 hel
     exact henc y
    ·obtain ⟨u, k1, k2, k3⟩ := key i el f x hi hx
     rw [k1]
     exact ⟨rfl, k2⟩
    ·obtain ⟨u, k1, k2, k3⟩ := key i el f x hi hx
     rw [k1]
     exact k3
   ·obtain ⟨i, hil⟩ := List.getElem?_of_mem hy
    exact (hq i y hil).1
theorem arg_struct {α : Type} {enc : α → List AV} {Q : α → Prop} {t : TypeId} {fs : Array Field} {r : Reach} {b0 : Nat} {v : Value} {d : DataW H} {p : List MemPlace} (hs : P.underlying t = some (.struct fs)) (hv : Value.okWide P w r b0 t v)
  (h : DataW.Trod encT P w base spare held t v d p) (ho : Opens encT P w base spare held t enc Q) : ∃ y, Rep (still w) w (.agg (enc y)) v ∧ Q y := by
 obtain ⟨cs, rfl, hsz⟩ := okWide_struct hs hv
 obtain ⟨fuel, hf⟩ := h
 obtain ⟨y, h1, h2⟩ := ho _ _ _ hf
 exact ⟨y, by simpa [Value.cells] using h1.agg, h2⟩
theorem arg_one {α : Type} {enc : α → AV} {Q : α → Prop} {t : TypeId} {v : Value} {d : DataW H} {p : List MemPlace} (hv : v.cells = #[v])
  (h : DataW.Trod encT P w base spare held t v d p) (ho : Opens encT P w base spare held t (fun y => [enc y]) Q) : ∃ y, Rep (still w) w (enc y) v ∧ Q y := by
 obtain ⟨fuel, hf⟩ := h
 rw [hv] at hf
 obtain ⟨y, h1, h2⟩ := ho _ _ _ hf
 exact ⟨y, CR.val (by simpa using h1), h2⟩
end
section
variable {H : Type} {encT : TypeId × Value → H} {P : Program} {w : World} {base : Nat} {spare : Nat → Bool} {held : Bool}
theorem arg_slice {α : Type} {sz : Nat} {enc : α → List AV} {Q : List α → Prop} {t e : TypeId} {r : Reach} {b0 : Nat} {v : Value} {d : DataW H} {p : List MemPlace} (ht : P.underlying t = some (.slice e)) (hv : Value.okWide P w r b0 t v)
  (h : DataW.Trod encT P w base spare held t v d p) (ho : Opens encT P w base spare held t (encL sz enc) Q) : ∃ l, Rep (still w) w (.sl sz false (l.map enc)) v ∧ Q l := by
 obtain ⟨a, len, cap, rfl⟩ := okWide_slice ht hv
 exact arg_one (enc := fun l => .sl sz false (List.map enc l)) rfl h ho
theorem arg_u8 {t : TypeId} {r : Reach} {b0 : Nat} {v : Value} {d : DataW H} {p : List MemPlace} (ht : P.underlying t = some (.int .u8)) (hv : Value.okWide P w r b0 t v)
  (h : DataW.Trod encT P w base spare held t v d p) : ∃ n, Rep (still w) w (.val (.int .u8 n)) v ∧ 0 ≤ n ∧ n ≤ 255 := by
 obtain ⟨n, rfl⟩ := okWide_int ht hv
 exact arg_one (enc := fun n => .val (.int .u8 n)) rfl h (opens_u8 ht)
theorem arg_int {t : TypeId} {r : Reach} {b0 : Nat} {v : Value} {d : DataW H} {p : List MemPlace} (ht : P.underlying t = some (.int .i64)) (hv : Value.okWide P w r b0 t v)
  (h : DataW.Trod encT P w base spare held t v d p) : ∃ n, Rep (still w) w (.val (.int .i64 n)) v ∧ In64 n := by
 obtain ⟨n, rfl⟩ := okWide_int ht hv
 exact arg_one (enc := fun n => .val (.int .i64 n)) rfl h (opens_int ht)
def encU16 (n : Int) : List AV := [.val (.int .u16 n)]
theorem wf16u {n : Int} (h : (Lit.int .u16 n).wf = true) : 0 ≤ n ∧ n ≤ 65535 := by
 simp [Lit.wf, IntKind.min, IntKind.max, IntKind.signed, IntKind.bits] at h
 omega
theorem opens_u16 {t : TypeId} (ht : P.underlying t = some (.int .u16)) : Opens encT P w base spare held t encU16 (fun n => 0 ≤ n ∧ n ≤ 65535) := fun n cs x h => by
 obtain ⟨a, e, _, hw⟩ := DataW.trod_int ht h
 subst e
 exact ⟨a, .one rfl (.val _), wf16u hw⟩
def OpensFs (encT : TypeId × Value → H) (P : Program) (w : World) (base : Nat) (spare : Nat → Bool) (held : Bool) (fs : List Field) (off N : Nat) {α : Type} (enc : α → List AV) (Q : α → Prop) : Prop :=
 ∀ (n : Nat) (cs : List Value) (xs : List (DataW H × List MemPlace)), cs.length = N → xs.length = fs.length → (∀ (i : Nat) (f : Field), fs[i]? = some f → DataW.trod encT P w base spare held n f.type ((cs.drop f.offset).take (P.cellsOf f.type)) = xs[i]?) → ∃ y : α, CR (still w) w (enc y) (cs.drop off) ∧ Q y
theorem OpensFs.nil {N : Nat} : OpensFs encT P w base spare held [] N N (fun _ : Unit => []) (fun _ => True) := fun n cs xs h1 h2 h3 =>
 ⟨(), ⟨by simp [h1], fun u hu => by simp [List.drop_eq_nil_of_le (Nat.le_of_eq h1)] at hu, fun i x u hx => by simp at hx⟩, trivial⟩
theorem OpensFs.cons {f : Field} {fs : List Field} {off N sz : Nat} {α β : Type} {enc : α → List AV} {Q : α → Prop} {enc' : β → List AV} {Q' : β → Prop} (ho : f.offset = off) (hC : P.cellsOf f.type = sz) (el : Opens encT P w base spare held f.type enc Q) (t : OpensFs encT P w base spare held fs (off + sz) N enc' Q') :
  OpensFs encT P w base spare held (f :: fs) off N (fun y : α × β => enc y.1 ++ enc' y.2) (fun y => Q y.1 ∧ Q' y.2) := fun n cs xs h1 h2 h3 => by
 match xs, h2 with
 | x :: xs, h2 =>
  have h0 := h3 0 f rfl
  simp only [List.getElem?_cons_zero] at h0
  obtain ⟨y, k1, k2⟩ := el _ _ _ h0
  obtain ⟨z, k3, k4⟩ := t n cs xs h1 (by simpa using h2) (fun i g hg => by
   have := h3 (i + 1) g (by simpa using hg)
   simpa using this)
  refine ⟨(y, z), ?_, k2, k4⟩
  rw [ho, hC] at k1
  have e : cs.drop off = (cs.drop off).take sz ++ cs.drop (off + sz) := by rw [← List.drop_drop, List.take_append_drop]
  rw [e]
  exact k1.app k3
theorem opens_struct {t : TypeId} {fs : Array Field} {N : Nat} {α : Type} {enc : α → List AV} {Q : α → Prop} (ht : P.underlying t = some (.struct fs)) (hN : P.cellsOf t = N) (h : OpensFs encT P w base spare held fs.toList 0 N enc Q) : Opens encT P w base spare held t enc Q := fun n cs x hx => by
 obtain ⟨xs, m, _, _, hlen, hyl, hf⟩ := DataW.trod_struct ht hx
 obtain ⟨y, h1, h2⟩ := h m cs xs (hlen.trans hN) (by simpa using hyl) (fun i f hi => hf i f (by simpa using hi))
 exact ⟨y, by simpa using h1, h2⟩
end
theorem FnC.law {P : Program} {f : FuncId} {avs : List AV} (h : FnC P f avs (.val (.bool true))) {w : World} {us : List Value} (hl : us.length = avs.length) (hr : ∀ (i : Nat) (x : AV) (u : Value), avs[i]? = some x → us[i]? = some u → Rep (still w) w x u) :
  Calls P f us.toArray w (fun e w' => e = .returned (.bool true) ∧ Below w.heap.size w w') := by
 refine (h.2 w _ us (fun β hb => hb) hl hr).mono (fun e w' ⟨r, St, he, hb, _, _, hrep⟩ => ?_)
 have := (hrep (fun _ _ => none) (fun _ => True)).val_inv
 subst this
 exact ⟨he, hb⟩
end Go.Proofs.Ytkmlmboclegpcaa
