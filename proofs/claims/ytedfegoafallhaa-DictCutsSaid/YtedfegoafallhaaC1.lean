/- What is read of arguments, as abstract values. -/
import Derived.Test.YtedfegoafallhaaB7
import Derived.ProofKit
import Derived.OpenShut
import Derived.Deep.Slices
import Derived.Deep.Fields
import Derived.Lib.SmallJoins
namespace Go.Proofs.Ytedfegoafallhaa
set_option linter.unusedVariables false
set_option linter.unusedSimpArgs false
open Go Go.RowKit Go.ChangeShapes Go.WideShapes Go.Deep

/-- Cells that read as abstract values. -/
def CR (c : RC) (w : World) (es : List AV) (cs : List Value) : Prop := cs.length = es.length ∧ (∀ u, u ∈ cs → u.oneCell' = true) ∧ ∀ (i : Nat) (x : AV) (u : Value), es[i]? = some x → cs[i]? = some u → Rep c w x u
theorem CR.one {c : RC} {w : World} {x : AV} {u : Value} (h1 : u.oneCell' = true) (h : Rep c w x u) : CR c w [x] [u] :=
  ⟨rfl, fun v hv => by rw [List.mem_singleton.1 hv]; exact h1, fun i x' u' hx hu => by
    cases i with
    | zero =>
      simp only [List.getElem?_cons_zero, Option.some.injEq] at hx hu
      rw [← hx, ← hu]
      exact h
    | succ i => simp at hx⟩
theorem CR.app {c : RC} {w : World} {es es' : List AV} {cs cs' : List Value} (h : CR c w es cs) (k : CR c w es' cs') : CR c w (es ++ es') (cs ++ cs') :=
  ⟨by rw [List.length_append, List.length_append, h.1, k.1], fun u hu => (List.mem_append.1 hu).elim (h.2.1 u) (k.2.1 u), fun i x u hx hu => by
    by_cases hi : i < es.length
    · rw [List.getElem?_append_left hi] at hx
      rw [List.getElem?_append_left (by rw [h.1]; exact hi)] at hu
      exact h.2.2 i x u hx hu
    · rw [List.getElem?_append_right (by omega)] at hx
      rw [List.getElem?_append_right (by rw [h.1]; omega), h.1] at hu
      exact k.2.2 _ x u hx hu⟩
theorem CR.agg {c : RC} {w : World} {es : List AV} {cs : List Value} (h : CR c w es cs) : Rep c w (.agg es) (.agg cs.toArray) := .agg es cs h.1 h.2.1 h.2.2
theorem CR.val {c : RC} {w : World} {x : AV} {u : Value} (h : CR c w [x] [u]) : Rep c w x u := h.2.2 0 x u rfl rfl

theorem wf64 {n : Int} (h : (Lit.int .i64 n).wf = true) : -9223372036854775808 ≤ n ∧ n ≤ 9223372036854775807 := by
  simpa [Lit.wf, IntKind.min, IntKind.max, IntKind.bits, IntKind.signed] using h
theorem wf8u {n : Int} (h : (Lit.int .u8 n).wf = true) : 0 ≤ n ∧ n ≤ 255 := by
  simpa [Lit.wf, IntKind.min, IntKind.max, IntKind.bits, IntKind.signed] using h

theorem listOf {α : Type} (Q : Nat → α → Prop) : ∀ n : Nat, (∀ i, i < n → ∃ y, Q i y) → ∃ l : List α, l.length = n ∧ ∀ i x, l[i]? = some x → Q i x
  | 0, _ => ⟨[], rfl, fun i x h => by simp at h⟩
  | n + 1, h => by
    obtain ⟨l, hl, hq⟩ := listOf Q n (fun i hi => h i (by omega))
    obtain ⟨y, hy⟩ := h n (by omega)
    refine ⟨l ++ [y], by simp [hl], fun i x hx => ?_⟩
    by_cases hi : i < n
    · rw [List.getElem?_append_left (by omega)] at hx
      exact hq i x hx
    · rw [List.getElem?_append_right (by omega), hl] at hx
      have : i - n = 0 := by
        have := (List.getElem?_eq_some_iff.1 hx).1
        simp at this
        omega
      rw [this] at hx
      simp at hx
      subst hx
      have : i = n := by omega
      subst this
      exact hy
theorem spot_none {w : World} {p : Addr} {u : Value} (h : w.cell? p = some u) : p.spot = none := by
  unfold World.cell? at h
  split at h
  · split at h
    · cases h
    · rename_i hs
      simpa using hs
  · cases h
theorem add_add (a : Addr) (i j : Nat) : (a.add i).add j = a.add (i + j) := by
  unfold Addr.add
  by_cases hi : i = 0 <;> by_cases hj : j = 0 <;> simp [hi, hj, Nat.add_assoc]

section
variable {H : Type} {encT : TypeId × Value → H} {P : Program} {w : World} {base : Nat} {spare : Nat → Bool} {held : Bool}
/-- All that is there is still. -/
abbrev still (w : World) : RC := RC.pure (fun β => β < w.heap.size)
/-- What is read of a type. -/
def Opens (encT : TypeId × Value → H) (P : Program) (w : World) (base : Nat) (spare : Nat → Bool) (held : Bool) (t : TypeId) {α : Type} (enc : α → List AV) (Q : α → Prop) : Prop :=
  ∀ n cs x, DataW.trod encT P w base spare held n t cs = some x → ∃ y : α, CR (still w) w (enc y) cs ∧ Q y
def encI (n : Int) : List AV := [.val (.int .i64 n)]
def encU8 (n : Int) : List AV := [.val (.int .u8 n)]
def encBo (b : Bool) : List AV := [.val (.bool b)]
def In64 (n : Int) : Prop := -9223372036854775808 ≤ n ∧ n ≤ 9223372036854775807
theorem opens_int {t : TypeId} (ht : P.underlying t = some (.int .i64)) : Opens encT P w base spare held t encI In64 := fun n cs x h => by
  obtain ⟨a, e, _, hw⟩ := DataW.trod_int ht h
  subst e
  exact ⟨a, .one rfl (.val _), wf64 hw⟩
theorem opens_u8 {t : TypeId} (ht : P.underlying t = some (.int .u8)) : Opens encT P w base spare held t encU8 (fun n => 0 ≤ n ∧ n ≤ 255) := fun n cs x h => by
  obtain ⟨a, e, _, hw⟩ := DataW.trod_int ht h
  subst e
  exact ⟨a, .one rfl (.val _), wf8u hw⟩
theorem opens_bool {t : TypeId} (ht : P.underlying t = some .bool) : Opens encT P w base spare held t encBo (fun _ => True) := fun n cs x h => by
  obtain ⟨a, e, _⟩ := DataW.trod_bool ht h
  subst e
  exact ⟨a, .one rfl (.val _), trivial⟩
def encL {α : Type} (sz : Nat) (enc : α → List AV) (l : List α) : List AV := [.sl sz false (l.map enc)]
theorem opens_slice {α : Type} {sz : Nat} {enc : α → List AV} {Q : α → Prop} {t e : TypeId} (ht : P.underlying t = some (.slice e)) (hC : P.cellsOf e = sz) (hsz : 0 < sz) (henc : ∀ y, (enc y).length = sz)
    (el : Opens encT P w base spare held e enc Q) : Opens encT P w base spare held t (encL sz enc) (fun l => l.length ≤ maxLen ∧ ∀ y, y ∈ l → Q y) := fun fuel cs x h => by
  rcases open_slice ht h with ⟨rfl, _⟩ | ⟨a, len, cap, m, n, D, Pl, rfl, hb, hl, hm, hmm, _, hi⟩
  · exact ⟨[], .one rfl (.sl sz false [] none 0 0 0 (fun _ _ => undef) (by simp) (by simp [maxLen]) (by simp) (fun _ => rfl) (by simp) (fun h => absurd rfl h) (fun i el f x hi => by simp at hi) (fun i el f x hi => by simp at hi)), by simp [maxLen], fun y hy => by cases hy⟩
  · have hlm : len ≤ m := by rw [hmm]; split <;> omega
    obtain ⟨l, hlen, hq⟩ := listOf (fun i (y : α) => Q y ∧ ∃ cs', w.cells? base (a.add (i * sz)) sz = some cs' ∧ CR (still w) w (enc y) cs') len (fun i hil => by
      obtain ⟨cs', h1, h2⟩ := hi i (by omega)
      rw [hC] at h1
      obtain ⟨y, h3, h4⟩ := el _ _ _ h2
      exact ⟨y, h4, cs', h1, h3⟩)
    subst hlen
    have hcell : ∀ (i : Nat) (y : α), l[i]? = some y → ∃ cs', cs'.length = sz ∧ CR (still w) w (enc y) cs' ∧ ∀ (f : Nat) (u : Value), cs'[f]? = some u → w.cell? (a.add (i * sz + f)) = some u := fun i y hy => by
      obtain ⟨_, cs', h1, h2⟩ := hq i y hy
      obtain ⟨_, hcl, hat⟩ := World.cells?_some h1
      refine ⟨cs', hcl, h2, fun f u hu => ?_⟩
      have hf : f < sz := by rw [← hcl]; exact (List.getElem?_eq_some_iff.1 hu).1
      have := hat f hf
      rw [add_add] at this
      rw [this, hu]
    have hspa : ∀ y, l[0]? = some y → a.spot = none ∧ a.block < w.heap.size := fun y hy => by
      obtain ⟨cs', h1, h2, h3⟩ := hcell 0 y hy
      have hc0 : cs'[0]? = some (cs'[0]'(by omega)) := List.getElem?_eq_getElem _
      have h4 := h3 0 _ hc0
      have he : a.add (0 * sz + 0) = a := by simp [Addr.add]
      rw [he] at h4
      exact ⟨spot_none h4, World.block_lt_of_cell? w a h4⟩
    cases hl0 : l with
    | nil =>
      refine ⟨[], .one rfl ?_, by simp [maxLen], fun y hy => by cases hy⟩
      rw [hl0] at hl
      exact .sl sz false [] (some a) cap 0 0 (fun _ _ => undef) (by simp) hm (by simp) (fun h => by cases h) (by simp) (fun h => absurd rfl h) (fun i el f x hi => by simp at hi) (fun i el f x hi => by simp at hi)
    | cons y0 l' =>
      obtain ⟨hs1, hs2⟩ := hspa y0 (by rw [hl0]; rfl)
      rw [← hl0]
      refine ⟨l, .one rfl ?_, by omega, fun y hy => ?_⟩
      · obtain ⟨b, o, sp⟩ := a
        simp only at hs1 hs2
        subst hs1
        have key : ∀ (i : Nat) (el : List AV) (f : Nat) (x : AV), (l.map enc)[i]? = some el → el[f]? = some x → ∃ u, w.cell? ⟨b, o + i * sz + f, none⟩ = some u ∧ u.oneCell' = true ∧ Rep (still w) w x u := fun i el f x hi hx => by
          rw [List.getElem?_map] at hi
          cases hy : l[i]? with
          | none => rw [hy] at hi; cases hi
          | some y =>
            rw [hy] at hi
            simp only [Option.map_some, Option.some.injEq] at hi
            subst hi
            obtain ⟨cs', h1, h2, h3⟩ := hcell i y hy
            have hf : f < cs'.length := by rw [h2.1]; exact (List.getElem?_eq_some_iff.1 hx).1
            have h4 := h3 f _ (List.getElem?_eq_getElem hf)
            rw [Addr.add_lit, ← Nat.add_assoc] at h4
            exact ⟨_, h4, h2.2.1 _ (List.getElem_mem hf), h2.2.2 f x _ hx (List.getElem?_eq_getElem hf)⟩
        have hln : (l.map enc).length = l.length := List.length_map ..
        rw [← hln]
        refine .sl sz false (l.map enc) (some ⟨b, o, none⟩) cap b o (fun i f => (w.cell? ⟨b, o + i * sz + f, none⟩).getD undef) (by omega) hm (by simp) (fun h => by cases h) (fun el hel => ?_) (fun _ => ⟨rfl, fun _ => hs2⟩) (fun i el f x hi hx => ?_) (fun i el f x hi hx => ?_)
        · obtain ⟨y, _, rfl⟩ := List.mem_map.1 hel
          exact henc y
        · obtain ⟨u, k1, k2, k3⟩ := key i el f x hi hx
          rw [k1]
          exact ⟨rfl, k2⟩
        · obtain ⟨u, k1, k2, k3⟩ := key i el f x hi hx
          rw [k1]
          exact k3
      · obtain ⟨i, hil⟩ := List.getElem?_of_mem hy
        exact (hq i y hil).1
theorem arg_struct {α : Type} {enc : α → List AV} {Q : α → Prop} {t : TypeId} {fs : Array Field} {r : Reach} {b0 : Nat} {v : Value} {d : DataW H} {p : List MemPlace} (hs : P.underlying t = some (.struct fs)) (hv : Value.okWide P w r b0 t v)
    (h : DataW.Trod encT P w base spare held t v d p) (ho : Opens encT P w base spare held t enc Q) : ∃ y, Rep (still w) w (.agg (enc y)) v ∧ Q y := by
  obtain ⟨cs, rfl, hsz⟩ := okWide_struct hs hv
  obtain ⟨fuel, hf⟩ := h
  obtain ⟨y, h1, h2⟩ := ho _ _ _ hf
  exact ⟨y, by simpa [Value.cells] using h1.agg, h2⟩
theorem arg_one {α : Type} {enc : α → AV} {Q : α → Prop} {t : TypeId} {v : Value} {d : DataW H} {p : List MemPlace} (hv : v.cells = #[v])
    (h : DataW.Trod encT P w base spare held t v d p) (ho : Opens encT P w base spare held t (fun y => [enc y]) Q) : ∃ y, Rep (still w) w (enc y) v ∧ Q y := by
  obtain ⟨fuel, hf⟩ := h
  rw [hv] at hf
  obtain ⟨y, h1, h2⟩ := ho _ _ _ hf
  exact ⟨y, CR.val (by simpa using h1), h2⟩
end

section
variable {H : Type} {encT : TypeId × Value → H} {P : Program} {w : World} {base : Nat} {spare : Nat → Bool} {held : Bool}
theorem arg_slice {α : Type} {sz : Nat} {enc : α → List AV} {Q : List α → Prop} {t e : TypeId} {r : Reach} {b0 : Nat} {v : Value} {d : DataW H} {p : List MemPlace} (ht : P.underlying t = some (.slice e)) (hv : Value.okWide P w r b0 t v)
    (h : DataW.Trod encT P w base spare held t v d p) (ho : Opens encT P w base spare held t (encL sz enc) Q) : ∃ l, Rep (still w) w (.sl sz false (l.map enc)) v ∧ Q l := by
  obtain ⟨a, len, cap, rfl⟩ := okWide_slice ht hv
  exact arg_one (enc := fun l => .sl sz false (List.map enc l)) rfl h ho
theorem arg_u8 {t : TypeId} {r : Reach} {b0 : Nat} {v : Value} {d : DataW H} {p : List MemPlace} (ht : P.underlying t = some (.int .u8)) (hv : Value.okWide P w r b0 t v)
    (h : DataW.Trod encT P w base spare held t v d p) : ∃ n, Rep (still w) w (.val (.int .u8 n)) v ∧ 0 ≤ n ∧ n ≤ 255 := by
  obtain ⟨n, rfl⟩ := okWide_int ht hv
  exact arg_one (enc := fun n => .val (.int .u8 n)) rfl h (opens_u8 ht)
theorem arg_int {t : TypeId} {r : Reach} {b0 : Nat} {v : Value} {d : DataW H} {p : List MemPlace} (ht : P.underlying t = some (.int .i64)) (hv : Value.okWide P w r b0 t v)
    (h : DataW.Trod encT P w base spare held t v d p) : ∃ n, Rep (still w) w (.val (.int .i64 n)) v ∧ In64 n := by
  obtain ⟨n, rfl⟩ := okWide_int ht hv
  exact arg_one (enc := fun n => .val (.int .i64 n)) rfl h (opens_int ht)
def encSt (s : ByteArray) : List AV := [.val (.string s)]
theorem opens_str {t : TypeId} (ht : P.underlying t = some .string) : Opens encT P w base spare held t encSt (fun s => s.size ≤ maxLen) := fun n cs x h => by
  obtain ⟨s, e, _, hw⟩ := DataW.trod_string ht h
  subst e
  exact ⟨s, .one rfl (.val _), hw⟩
def encU16 (n : Int) : List AV := [.val (.int .u16 n)]
theorem wf16u {n : Int} (h : (Lit.int .u16 n).wf = true) : 0 ≤ n ∧ n ≤ 65535 := by
  simp [Lit.wf, IntKind.min, IntKind.max, IntKind.signed, IntKind.bits] at h
  omega
theorem opens_u16 {t : TypeId} (ht : P.underlying t = some (.int .u16)) : Opens encT P w base spare held t encU16 (fun n => 0 ≤ n ∧ n ≤ 65535) := fun n cs x h => by
  obtain ⟨a, e, _, hw⟩ := DataW.trod_int ht h
  subst e
  exact ⟨a, .one rfl (.val _), wf16u hw⟩
/-- The fields of a struct, from a place on. -/
def OpensFs (encT : TypeId × Value → H) (P : Program) (w : World) (base : Nat) (spare : Nat → Bool) (held : Bool) (fs : List Field) (off N : Nat) {α : Type} (enc : α → List AV) (Q : α → Prop) : Prop :=
  ∀ (n : Nat) (cs : List Value) (xs : List (DataW H × List MemPlace)), cs.length = N → xs.length = fs.length → (∀ (i : Nat) (f : Field), fs[i]? = some f → DataW.trod encT P w base spare held n f.type ((cs.drop f.offset).take (P.cellsOf f.type)) = xs[i]?) → ∃ y : α, CR (still w) w (enc y) (cs.drop off) ∧ Q y
theorem OpensFs.nil {N : Nat} : OpensFs encT P w base spare held [] N N (fun _ : Unit => []) (fun _ => True) := fun n cs xs h1 h2 h3 =>
  ⟨(), ⟨by simp [h1], fun u hu => by simp [List.drop_eq_nil_of_le (Nat.le_of_eq h1)] at hu, fun i x u hx => by simp at hx⟩, trivial⟩
theorem OpensFs.cons {f : Field} {fs : List Field} {off N sz : Nat} {α β : Type} {enc : α → List AV} {Q : α → Prop} {enc' : β → List AV} {Q' : β → Prop} (ho : f.offset = off) (hC : P.cellsOf f.type = sz) (el : Opens encT P w base spare held f.type enc Q) (t : OpensFs encT P w base spare held fs (off + sz) N enc' Q') :
    OpensFs encT P w base spare held (f :: fs) off N (fun y : α × β => enc y.1 ++ enc' y.2) (fun y => Q y.1 ∧ Q' y.2) := fun n cs xs h1 h2 h3 => by
  match xs, h2 with
  | x :: xs, h2 =>
    have h0 := h3 0 f rfl
    simp only [List.getElem?_cons_zero] at h0
    obtain ⟨y, k1, k2⟩ := el _ _ _ h0
    obtain ⟨z, k3, k4⟩ := t n cs xs h1 (by simpa using h2) (fun i g hg => by
      have := h3 (i + 1) g (by simpa using hg)
      simpa using this)
    refine ⟨(y, z), ?_, k2, k4⟩
    rw [ho, hC] at k1
    have e : cs.drop off = (cs.drop off).take sz ++ cs.drop (off + sz) := by rw [← List.drop_drop, List.take_append_drop]
    rw [e]
    exact k1.app k3
theorem opens_struct {t : TypeId} {fs : Array Field} {N : Nat} {α : Type} {enc : α → List AV} {Q : α → Prop} (ht : P.underlying t = some (.struct fs)) (hN : P.cellsOf t = N) (h : OpensFs encT P w base spare held fs.toList 0 N enc Q) : Opens encT P w base spare held t enc Q := fun n cs x hx => by
  obtain ⟨xs, m, _, _, hlen, hyl, hf⟩ := DataW.trod_struct ht hx
  obtain ⟨y, h1, h2⟩ := h m cs xs (hlen.trans hN) (by simpa using hyl) (fun i f hi => hf i f (by simpa using hi))
  exact ⟨y, by simpa using h1, h2⟩
end

/-- A contract, at the arguments of a law. -/
theorem FnC.law {P : Program} {f : FuncId} {avs : List AV} (h : FnC P f avs (.val (.bool true))) {w : World} {us : List Value} (hl : us.length = avs.length) (hr : ∀ (i : Nat) (x : AV) (u : Value), avs[i]? = some x → us[i]? = some u → Rep (still w) w x u) :
    Calls P f us.toArray w (fun e w' => e = .returned (.bool true) ∧ Below w.heap.size w w') := by
  refine (h.2 w _ us (fun β hb => hb) hl hr).mono (fun e w' ⟨r, St, he, hb, _, _, hrep⟩ => ?_)
  have := (hrep (fun _ _ => none) (fun _ => True)).val_inv
  subst this
  exact ⟨he, hb⟩
end Go.Proofs.Ytedfegoafallhaa
