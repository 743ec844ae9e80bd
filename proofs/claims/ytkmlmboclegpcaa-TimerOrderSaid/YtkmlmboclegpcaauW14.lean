/- uA19, uU1, uU3. -/
import Derived.Test.YtkmlmboclegpcaaW1
import Derived.Test.YtkmlmboclegpcaaW2
import Derived.Test.YtkmlmboclegpcaaW3
import Derived.Test.YtkmlmboclegpcaaW4
import Derived.Test.YtkmlmboclegpcaauW5
import Derived.Test.YtkmlmboclegpcaauW6
import Derived.Test.YtkmlmboclegpcaauW7
import Derived.Test.YtkmlmboclegpcaauW8
import Derived.Test.YtkmlmboclegpcaauW9
import Derived.Test.YtkmlmboclegpcaauW10
import Derived.Test.YtkmlmboclegpcaauW11
import Derived.Test.YtkmlmboclegpcaauW12
import Derived.Test.YtkmlmboclegpcaauW13
set_option linter.unusedVariables false
set_option linter.unusedSimpArgs false
namespace Go.Proofs.Ytkmlmboclegpcaa
open Go Go.RowKit
set_option maxRecDepth 100000
theorem flatTm : flatOf Try.prog 44 = some [0, 0, 0, 0, 0, 0] := by kernel_rfl
theorem tm_refl (a b c d e f : Int) : (!((a == a) && ((b == b) && ((c == c) && ((d == d) && ((e == e) && ((f == f) && true))))))) = false := by simp
theorem flt_comm (p q : Tmr → Bool) (l : List Tmr) : (l.filter p).filter q = (l.filter q).filter p := by
 rw [List.filter_filter, List.filter_filter]
 exact List.filter_congr (fun t _ => Bool.and_comm _ _)
attribute [local irreducible] Decidable.decide awp ARun regK toK
set_option maxHeartbeats 4000000 in
theorem same19_c (l : List Tmr) (hl : l.length ≤ 1000000) : FnC Try.prog 19 [encTs l, encTs l] (.val (.bool true)) := by
 have em : (((l.map encTm).length : Nat) : Int) = l.length := by rw [List.length_map]
 have d1 : ((((l.map encTm).length : Nat) : Int) != (((l.map encTm).length : Nat) : Int)) = false := by simp
 refine goF Try.func19 (closedL_cons (closed_ts l) (closedL_cons (closed_ts l) closedL_nil)) (fun w0 st0 => ?_)
 dsimp only [frOf]
 (repeat' (first | refine goA ?_ | refine goB ?_ | fail))
 refine awp_loopT (T := Nat × Nat) (fun t => ⟨[(0, encTs l), (1, encTs l), (5, .val (.int .i64 (t.1 : Nat)))], [], t.2⟩) (fun t => t.1 ≤ l.length) (fun t => l.length - t.1) (0, _) (Nat.zero_le _) ⟨⟨rfl, rfl, rfl, trivial⟩, trivial, Nat.le_refl _⟩ (fun t ht => ?_)
 obtain ⟨k, gc⟩ := t
 dsimp only at ht ⊢
 clear d1
 by_cases hlt : k < l.length
 ·have d2 : decide (((k : Nat) : Int) < ((l.map encTm).length : Nat)) = true := decide_eq_true (by omega)
  obtain ⟨y, hy⟩ : ∃ y, l[k]? = some y := ⟨_, List.getElem?_eq_getElem hlt⟩
  have hp : (l.map encTm)[((k : Nat) : Int).toNat]? = some (encTm y) := map_at hy
  have d3 := tm_refl y.id y.due y.each y.rank y.hand y.arg
  (repeat' (first | refine goA ?_ | refine ARun.indexAddr rfl rfl (by omega) (by with_reducible exact hp) rfl rfl rfl rfl rfl (guardF_spec rfl) ?_ | refine neX flatTm rfl rfl rfl rfl rfl ?_ | refine goB ?_ | fail))
  exact ⟨(k + 1, _), ⟨⟨rfl, rfl, rfl, trivial⟩, trivial, Nat.le_refl _⟩, hlt, (by dsimp only; omega)⟩
 ·have d2 : decide (((k : Nat) : Int) < ((l.map encTm).length : Nat)) = false := decide_eq_false (by omega)
  (repeat' (first | refine goA ?_ | refine goB ?_ | fail))
  exact awp_ret ⟨_, ResL.cons (ResA.tmp (.val _)) .nil, rfl⟩
end Go.Proofs.Ytkmlmboclegpcaa
namespace Go.Proofs.Ytkmlmboclegpcaa
open Go Go.RowKit
set_option maxRecDepth 100000
def agT (t : Tmr) : Tmr := ⟨t.id, t.due + t.each, t.each, t.rank, t.hand, t.arg⟩
def agB (t : Tmr) : Bool := !(t.each == 0)
def agL (l : List Tmr) : List Tmr := (l.filter agB).map agT
def putL (w : Wh) (q : List Tmr) : Wh := q.foldl putD w
def insL (l q : List Tmr) : List Tmr := q.foldl (fun c t => insT t c) l
def nextW (w : Wh) (l : List Tmr) : Wh := putL (tickW w) (agL (l.filter (dueB (w.now + 1))))
def nextL (n : Int) (l : List Tmr) : List Tmr := insL (l.filter (fun t => !dueB (n + 1) t)) (agL (l.filter (dueB (n + 1))))
def EachOk (l : List Tmr) : Prop := ∀ t, t ∈ l → 0 ≤ t.each ∧ t.each ≤ 4294967295
theorem insL_len (l q : List Tmr) : (insL l q).length = l.length + q.length := foldl_len q l
theorem insL_mem {a : Tmr} : ∀ {q l : List Tmr}, a ∈ insL l q ↔ a ∈ l ∨ a ∈ q
 | [], l => by show a ∈ l ↔ _; simp
 | t :: q, l => by
  show a ∈ insL (insT t l) q ↔ _
  rw [insL_mem (q := q), insT_mem, List.mem_cons]
  constructor
  ·rintro ((h | h) | h)
   ·exact .inr (.inl h)
   ·exact .inl h
   ·exact .inr (.inr h)
  ·rintro (h | h | h)
   ·exact .inl (.inr h)
   ·exact .inl (.inl h)
   ·exact .inr h
theorem putL_now : ∀ (q : List Tmr) (w : Wh), (putL w q).now = w.now
 | [], _ => rfl
 | t :: q, w => putL_now q (putD w t)
theorem agL_len (l : List Tmr) : (agL l).length ≤ l.length := by
 unfold agL
 rw [List.length_map]
 exact List.length_filter_le _ _
theorem WR.puts : ∀ {q : List Tmr} {w : Wh} {l : List Tmr}, WR w l → (∀ t, t ∈ q → w.now < t.due ∧ t.due < w.now + 4294967296) → l.length + q.length ≤ 900 → WR (putL w q) (insL l q)
 | [], _, _, h, _, _ => h
 | t :: q, w, l, h, hq, hl => by
  rw [List.length_cons] at hl
  have k := h.add (t := t) (hq t List.mem_cons_self).1 (hq t List.mem_cons_self).2 (by omega)
  exact WR.puts (q := q) k (fun u hu => hq u (List.mem_cons_of_mem _ hu)) (by rw [insT_len]; omega)
theorem agL_in {l : List Tmr} {n : Int} (he : EachOk l) (hd : ∀ t, t ∈ l → t.due = n) {t : Tmr} (ht : t ∈ agL l) : n < t.due ∧ t.due < n + 4294967296 := by
 unfold agL at ht
 obtain ⟨u, hu, rfl⟩ := List.mem_map.1 ht
 obtain ⟨h1, h2⟩ := List.mem_filter.1 hu
 have h3 := he u h1
 have h4 := hd u h1
 have h5 : u.each ≠ 0 := by
  intro e
  unfold agB at h2
  rw [e] at h2
  cases h2
 show n < u.due + u.each ∧ u.due + u.each < _
 omega
theorem due_in {n : Int} {l : List Tmr} : ∀ t, t ∈ l.filter (dueB n) → t.due = n := fun t ht => by
 have := (List.mem_filter.1 ht).2
 unfold dueB at this
 exact beq_iff_eq.1 this
theorem EachOk.filter {l : List Tmr} (h : EachOk l) (p : Tmr → Bool) : EachOk (l.filter p) := fun t ht => h t (List.mem_filter.1 ht).1
theorem EachOk.ag {l : List Tmr} (h : EachOk l) : EachOk (agL l) := fun t ht => by
 unfold agL at ht
 obtain ⟨u, hu, rfl⟩ := List.mem_map.1 ht
 exact h u (List.mem_filter.1 hu).1
theorem EachOk.ins {l q : List Tmr} (h : EachOk l) (hq : EachOk q) : EachOk (insL l q) := fun t ht => (insL_mem.1 ht).elim (h t) (hq t)
theorem part_len : ∀ (l : List Tmr) (p : Tmr → Bool), (l.filter p).length + (l.filter (fun t => !p t)).length = l.length
 | [], _ => rfl
 | x :: l, p => by
  have ih := part_len l p
  rw [List.filter_cons, List.filter_cons]
  cases hb : p x with
  | true => rw [if_pos (by decide), if_neg (by decide), List.length_cons, List.length_cons]; omega
  | false => rw [if_neg (by decide), if_pos (by decide), List.length_cons, List.length_cons]; omega
theorem nextL_len (n : Int) (l : List Tmr) : (nextL n l).length + (l.filter (dueB (n + 1))).length = l.length + (agL (l.filter (dueB (n + 1)))).length := by
 unfold nextL
 rw [insL_len]
 have := part_len l (dueB (n + 1))
 omega
theorem nextL_le (n : Int) (l : List Tmr) : (nextL n l).length ≤ l.length := by
 have h1 := nextL_len n l
 have h2 := agL_len (l.filter (dueB (n + 1)))
 omega
structure PR (w : Wh) (l : List Tmr) : Prop where
 r : WR w l
 e : EachOk l
theorem PR.next {w : Wh} {l : List Tmr} (h : PR w l) (hn : w.now + 1 ≤ 4000000000000000000) : PR (nextW w l) (nextL w.now l) := by
 have h1 := h.r.tick hn
 have h2 := tick_now h.r
 have h3 := part_len l (dueB (w.now + 1))
 have h4 := agL_len (l.filter (dueB (w.now + 1)))
 have h5 := h.r.ln
 refine ⟨?_, (h.e.filter _).ins (h.e.filter _).ag⟩
 unfold nextW nextL
 refine h1.puts (fun t ht => ?_) (by omega)
 rw [h2]
 exact agL_in (h.e.filter _) due_in ht
theorem next_now {w : Wh} {l : List Tmr} (h : PR w l) : (nextW w l).now = w.now + 1 := by
 unfold nextW
 rw [putL_now]
 exact tick_now h.r
theorem PR.cut {w : Wh} {l : List Tmr} (h : PR w l) (i : Int) : PR (cutW w i) (l.filter (fun t => !idB i t)) := ⟨h.r.cut i, h.e.filter _⟩
theorem PR.add {w : Wh} {l : List Tmr} (h : PR w l) {t : Tmr} (h1 : w.now < t.due) (h2 : t.due < w.now + 4294967296) (hl : l.length < 900) (he : 0 ≤ t.each ∧ t.each ≤ 4294967295) : PR (putD w t) (insT t l) := ⟨h.r.add h1 h2 hl, fun u hu => (insT_mem.1 hu).elim (fun e => by rw [e]; exact he) (h.e u)⟩
theorem agL_take {l : List Tmr} {k : Nat} {x : Tmr} (h : l[k]? = some x) : agL (l.take (k + 1)) = if agB x = true then agL (l.take k) ++ [agT x] else agL (l.take k) := by
 unfold agL
 rw [take_succ' h, List.filter_append, List.map_append]
 cases hb : agB x with
 | true => rw [if_pos rfl, List.filter_cons, if_pos hb]; rfl
 | false => rw [if_neg (by decide), List.filter_cons, if_neg (by rw [hb]; decide)]; exact List.append_nil _
theorem putL_snoc (w : Wh) (q : List Tmr) (t : Tmr) : putL w (q ++ [t]) = putD (putL w q) t := by unfold putL; rw [List.foldl_append]; rfl
theorem insL_snoc (l q : List Tmr) (t : Tmr) : insL l (q ++ [t]) = insT t (insL l q) := by unfold insL; rw [List.foldl_append]; rfl
theorem cut_one {i : Int} : ∀ {l : List Tmr}, l.any (idB i) = false → l.filter (fun t => !idB i t) = l := fun {l} h => List.filter_eq_self.2 (fun y hy => by
 have := List.any_eq_false.1 h y hy
 simpa using this)
end Go.Proofs.Ytkmlmboclegpcaa
namespace Go.Proofs.Ytkmlmboclegpcaa
open Go Go.RowKit
set_option maxRecDepth 100000
section
variable {C : ACtx} {ops : Array Oper} {K : AS → List (List Nat × List Nat) → Prop} {k : Nat} {rest : List Oper} {fr : List (Nat × AV)} {hp : List (Nat × Option Blk)} {gc : Nat} {fps : List (List Nat × List Nat)}
 {d : Nat} {ty : TypeId} {pos : String} {after : Array Edge} {gd : Option (Nat × Bool)} {x y z : Operand} {v : AV}
theorem build2S {t i j off sz off2 : Nat} {ti : TI} {fs : List (Nat × Nat)} {cs es es' es'' : List AV} (ht : C.T t = some ti) (hk : ti.k = .struct fs) (hz1 : ti.zero.all Value.oneCell' = true) (hi : fs[i]? = some (off, sz)) (hx : evA fr x = .agg cs) (hcl : cs.length = sz) (hj : fs[j]? = some (off2, 1)) (hy : cellsA (evA fr y) = some [v]) (he : ti.zero.map zv = es) (hs : setF es off cs = some es') (hs2 : setF es' off2 [v] = some es'') (hd : Nat.blt d C.n = true) (hg : guardF ops fr ⟨some d, .build t #[(i, x), (j, y)], ty, pos, after, gd⟩ = some true) (nx : ARun C ops K (k + 1) rest ⟨(d, .agg es'') :: fr, hp, gc⟩ (fps ++ [([], [])])) : ARun C ops K k (⟨some d, .build t #[(i, x), (j, y)], ty, pos, after, gd⟩ :: rest) ⟨fr, hp, gc⟩ fps := by
 subst he
 exact ARun.build ht hk hz1 (.cons hi (by rw [hx]; rfl) hcl (setF_spec hs) (.cons hj hy rfl (setF_spec hs2) (.nil _))) hd (guardF_spec hg) nx
theorem storeS {t : Nat} {ti : TI} {b g gen sz f : Nat} {el el' cs : List AV} (hx : evA fr x = .ptr b g 0 f) (hb : lkH hp b = some ⟨gen, sz, [el]⟩) (hgg : gen = g) (ht : C.T t = some ti) (hc : evA fr y = .agg cs) (hl : cs.length = ti.size) (h0 : Nat.blt 0 ti.size = true) (hs : setF el f cs = some el') (hg : guardF ops fr ⟨none, .store t x y, ty, pos, after, gd⟩ = some true) (nx : ARun C ops K (k + 1) rest ⟨fr, (b, some ⟨gen, sz, [el']⟩) :: hp, gc⟩ (fps ++ [([b], [b])])) : ARun C ops K k (⟨none, .store t x y, ty, pos, after, gd⟩ :: rest) ⟨fr, hp, gc⟩ fps :=
 ARun.storeAt hx hb hgg rfl ht (by rw [hc]; rfl) hl h0 hs rfl (guardF_spec hg) nx
theorem loadS {t : Nat} {ti : TI} {b g gen sz f : Nat} {el cs : List AV} (hx : evA fr x = .ptr b g 0 f) (hb : lkH hp b = some ⟨gen, sz, [el]⟩) (hgg : gen = g) (ht : C.T t = some ti) (ha : ti.k.agg = true) (hc : loadCs el f ti.size = some cs) (hd : Nat.blt d C.n = true) (hg : guardF ops fr ⟨some d, .load t x, ty, pos, after, gd⟩ = some true) (nx : ARun C ops K (k + 1) rest ⟨(d, .agg cs) :: fr, hp, gc⟩ (fps ++ [([b], [])])) : ARun C ops K k (⟨some d, .load t x, ty, pos, after, gd⟩ :: rest) ⟨fr, hp, gc⟩ fps :=
 ARun.loadAgg hx hb hgg rfl ht ha hc hd (guardF_spec hg) nx
end
def encP (W : List AV) (m r : Int) : List AV := W ++ [.val (.int .i64 m), .val (.int .i64 r)]
def encF (W : List AV) (m r f : Int) : List AV := W ++ [.val (.int .i64 m), .val (.int .i64 r), .val (.int .i64 f)]
section
variable {W W' : List AV} {m r f : Int}
theorem encP_len (h : W.length = 1025) : (encP W m r).length = 1027 := by unfold encP; rw [List.length_append, h]; rfl
theorem encF_len (h : W.length = 1025) : (encF W m r f).length = 1028 := by unfold encF; rw [List.length_append, h]; rfl
theorem closed_two (a b : Int) : ∀ x, x ∈ [AV.val (.int .i64 a), .val (.int .i64 b)] → Closed x := closedL_cons (.val _) (closedL_cons (.val _) closedL_nil)
theorem encP_closed (h : ∀ x, x ∈ W → Closed x) : ∀ x, x ∈ encP W m r → Closed x := fun x hx => by
 unfold encP at hx
 exact (List.mem_append.1 hx).elim (h x) (closed_two m r x)
theorem encF_closed (h : ∀ x, x ∈ W → Closed x) : ∀ x, x ∈ encF W m r f → Closed x := fun x hx => by
 unfold encF at hx
 exact (List.mem_append.1 hx).elim (h x) (closedL_cons (.val _) (closedL_cons (.val _) (closedL_cons (.val _) closedL_nil)) x)
theorem app_load {W T : List AV} (h : W.length = 1025) : loadCs (W ++ T) 0 1025 = some W := loadCs_at (by rw [List.length_append, h]; omega) (by rw [List.drop_zero, ← h, List.take_left])
theorem p_wheel (h : W.length = 1025) : loadCs (encP W m r) (0 + 0) 1025 = some W := app_load h
theorem f_wheel (h : W.length = 1025) : loadCs (encF W m r f) (0 + 0 + 0) 1025 = some W := app_load h
theorem app_at {W T : List AV} (h : W.length = 1025) (i : Nat) : (W ++ T)[1025 + i]? = T[i]? := by rw [List.getElem?_append_right (by omega), h]; congr 1; omega
theorem p_many (h : W.length = 1025) : (encP W m r)[0 + 1025]? = some (.val (.int .i64 m)) := app_at h 0
theorem p_room (h : W.length = 1025) : (encP W m r)[0 + 1026]? = some (.val (.int .i64 r)) := app_at h 1
theorem f_free (h : W.length = 1025) : (encF W m r f)[1027]? = some (.val (.int .i64 f)) := app_at h 2
theorem app_now {W T : List AV} {v : AV} (h : W[0]? = some v) : (W ++ T)[0]? = some v := by
 rw [List.getElem?_append_left (List.getElem?_eq_some_iff.1 h).1, h]
theorem p_set (h : W.length = 1025) (m' : Int) : setF (encP W m r) (0 + 1025) [.val (.int .i64 m')] = some (encP W m' r) := by
 rw [setF_one (by rw [encP_len h]; omega)]
 unfold encP
 rw [List.set_append_right _ _ (by omega), h]
 rfl
theorem app_setw {W W' T : List AV} (h : W.length = 1025) (h' : W'.length = 1025) : setF (W ++ T) 0 W' = some (W' ++ T) := by
 rw [setF_of (by rw [List.length_append, h, h']; omega), List.take_zero, List.nil_append, Nat.zero_add, h', ← h, List.drop_left]
theorem p_setw (h : W.length = 1025) (h' : W'.length = 1025) : setF (encP W m r) (0 + 0) W' = some (encP W' m r) := app_setw h h'
end
theorem zPall : zBig30.all Value.oneCell' = true := by kernel_rfl
def zP : List AV := zBig30.map zv
theorem zP_len : zP.length = 1027 := by kernel_rfl
theorem zP_eq : zBig30.map zv = zP := rfl
theorem zP_cons : zP = zW ++ [.val (.int .i64 0), .val (.int .i64 0)] := by kernel_rfl
theorem zFall : zBig95.all Value.oneCell' = true := by kernel_rfl
def zF : List AV := zBig95.map zv
theorem zF_len : zF.length = 1028 := by kernel_rfl
theorem zF_eq : zBig95.map zv = zF := rfl
theorem zF_cons : zF = zP ++ [.val (.int .i64 0)] := by kernel_rfl
theorem zP_setw {W : List AV} (h : W.length = 1025) : setF zP 0 W = some (encP W 0 0) := by rw [zP_cons]; exact app_setw zW_len h
theorem zP_room {W : List AV} (h : W.length = 1025) (r : Int) : setF (encP W 0 0) 1026 [.val (.int .i64 r)] = some (encP W 0 r) := by
 rw [setF_one (by rw [encP_len h]; omega)]
 unfold encP
 rw [List.set_append_right _ _ (by omega), h]
 rfl
theorem zF_setp {W : List AV} (h : W.length = 1025) (m r : Int) : setF zF 0 (encP W m r) = some (encF W m r 0) := by
 rw [zF_cons, setF_of (by rw [encP_len h, List.length_append, zP_len]; show 0 + 1027 ≤ 1028; omega), List.take_zero, List.nil_append, Nat.zero_add, encP_len h, ← zP_len, List.drop_left]
 unfold encP encF
 rw [List.append_assoc]
 rfl
theorem zF_free {W : List AV} (h : W.length = 1025) (m r f : Int) : setF (encF W m r 0) 1027 [.val (.int .i64 f)] = some (encF W m r f) := by
 rw [setF_one (by rw [encF_len h]; omega)]
 unfold encF
 rw [List.set_append_right _ _ (by omega), h]
 rfl
theorem rl_app {s : AS} {a b c d : List AV} (h : RL s a b) (h2 : RL s c d) : RL s (a ++ c) (b ++ d) := ⟨by rw [List.length_append, List.length_append, h.1, h2.1], fun i x y hx hy => by
 by_cases q : i < a.length
 ·rw [List.getElem?_append_left q] at hx
  rw [List.getElem?_append_left (by rw [h.1]; exact q)] at hy
  exact h.2 i x y hx hy
 ·rw [List.getElem?_append_right (by omega)] at hx
  rw [List.getElem?_append_right (by rw [h.1]; omega), h.1] at hy
  exact h2.2 _ x y hx hy⟩
theorem rl_zP (s : AS) : RL s zP (encP (encWh (wNew 0)) 0 0) := by
 rw [zP_cons]
 exact rl_app (rl_new0 s) (RL.cons (Reif.val _) (RL.cons (Reif.val _) (RL.nil _)))
attribute [local irreducible] Decidable.decide awp ARun regK toK zW zP zF encP encF zBig28 zBig30 zBig95
def pnewB (n r : Int) : Prop := (0 ≤ n ∧ n ≤ 2305843009213693952) ∧ 0 ≤ r ∧ r ≤ 64
set_option maxHeartbeats 4000000 in
theorem pnew_no {n r : Int} (h : ¬ pnewB n r) : FnC Try.prog 11 [.val (.int .i64 n), .val (.int .i64 r)] (.tup [.agg (encP (encWh (wNew 0)) 0 0), .val (.int .i64 (-24))]) := by
 have lz := zW_len
 have lp := zP_len
 by_cases h1 : 0 ≤ n ∧ n ≤ 2305843009213693952
 ·obtain ⟨c1, hw⟩ := new_yes h1
  have lw := hw.len
  generalize encWh (wNew n) = W at *
  have z1 : ((0 : Int) != 0) = false := by simp
  by_cases h2 : r < 0
  ·have d1 : decide (r < 0) = true := decide_eq_true h2
   refine goF Try.func11 (closedL_cons (.val _) (closedL_cons (.val _) closedL_nil)) (fun w0 st0 => ?_)
   dsimp only [frOf]
   (repeat' (first | refine storeW (t := 30) rfl rfl rfl rfl rfl (by assumption) (by assumption) rfl rfl ?_ | refine build0 (t := 30) rfl rfl zPall zP_eq rfl rfl ?_ | refine storeW (t := 28) rfl rfl rfl rfl rfl (by assumption) (by assumption) rfl rfl ?_ | refine allocW (t := 28) rfl zall zW_eq zW_len rfl rfl rfl ?_ | refine allocW (t := 30) rfl zPall zP_eq zP_len rfl rfl rfl ?_ | refine goA ?_ | refine cX c1 ?_ | refine goB ?_ | fail))
   exact awp_ret ⟨_, ResL.cons (ResA.agg rfl rfl rfl rfl rfl rfl (loadCs_all zP_len) (rl_zP _)) (ResL.cons (ResA.tmp (.val _)) .nil), rfl⟩
  ·have d1 : decide (r < 0) = false := decide_eq_false h2
   have d2 : decide (64 < r) = true := decide_eq_true (by unfold pnewB at h; omega)
   refine goF Try.func11 (closedL_cons (.val _) (closedL_cons (.val _) closedL_nil)) (fun w0 st0 => ?_)
   dsimp only [frOf]
   (repeat' (first | refine storeW (t := 30) rfl rfl rfl rfl rfl (by assumption) (by assumption) rfl rfl ?_ | refine build0 (t := 30) rfl rfl zPall zP_eq rfl rfl ?_ | refine storeW (t := 28) rfl rfl rfl rfl rfl (by assumption) (by assumption) rfl rfl ?_ | refine allocW (t := 28) rfl zall zW_eq zW_len rfl rfl rfl ?_ | refine allocW (t := 30) rfl zPall zP_eq zP_len rfl rfl rfl ?_ | refine goA ?_ | refine cX c1 ?_ | refine goB ?_ | fail))
   exact awp_ret ⟨_, ResL.cons (ResA.agg rfl rfl rfl rfl rfl rfl (loadCs_all zP_len) (rl_zP _)) (ResL.cons (ResA.tmp (.val _)) .nil), rfl⟩
 ·have c1 := new_no h1
  have lw : (encWh (wNew 0)).length = 1025 := encWh_len (wNew_len 0)
  have hz := rl_zP
  generalize encWh (wNew 0) = W at *
  have z1 : ((-24 : Int) != 0) = true := by simp
  refine goF Try.func11 (closedL_cons (.val _) (closedL_cons (.val _) closedL_nil)) (fun w0 st0 => ?_)
  dsimp only [frOf]
  (repeat' (first | refine storeW (t := 30) rfl rfl rfl rfl rfl (by assumption) (by assumption) rfl rfl ?_ | refine build0 (t := 30) rfl rfl zPall zP_eq rfl rfl ?_ | refine storeW (t := 28) rfl rfl rfl rfl rfl (by assumption) (by assumption) rfl rfl ?_ | refine allocW (t := 28) rfl zall zW_eq zW_len rfl rfl rfl ?_ | refine allocW (t := 30) rfl zPall zP_eq zP_len rfl rfl rfl ?_ | refine goA ?_ | refine cX c1 ?_ | refine goB ?_ | fail))
  exact awp_ret ⟨_, ResL.cons (ResA.agg rfl rfl rfl rfl rfl rfl (loadCs_all zP_len) (hz _)) (ResL.cons (ResA.tmp (.val _)) .nil), rfl⟩
set_option maxHeartbeats 4000000 in
theorem pnew_yes {n r : Int} (h : pnewB n r) : FnC Try.prog 11 [.val (.int .i64 n), .val (.int .i64 r)] (.tup [.agg (encP (encWh (wNew n)) 0 r), .val (.int .i64 0)]) ∧ PR (wNew n) [] := by
 obtain ⟨c1, hw⟩ := new_yes h.1
 refine ⟨?_, ⟨hw, fun t ht => by cases ht⟩⟩
 have lz := zW_len
 have lp := zP_len
 have lw := hw.len
 have hcl := encWh_closed (wNew n)
 generalize encWh (wNew n) = W at *
 have z1 : ((0 : Int) != 0) = false := by simp
 have d1 : decide (r < 0) = false := decide_eq_false (by have := h.2; omega)
 have d2 : decide (64 < r) = false := decide_eq_false (by have := h.2; omega)
 have g1 := zP_setw lw
 have g2 := zP_room lw r
 have l2 : (encP W 0 r).length = 1027 := encP_len lw
 refine goF Try.func11 (closedL_cons (.val _) (closedL_cons (.val _) closedL_nil)) (fun w0 st0 => ?_)
 dsimp only [frOf]
 (repeat' (first | refine storeW (t := 30) rfl rfl rfl rfl rfl (by assumption) (by assumption) rfl rfl ?_ | refine build2S (t := 30) rfl rfl zPall rfl rfl lw rfl rfl zP_eq g1 g2 rfl rfl ?_ | refine loadW (t := 28) rfl rfl rfl rfl rfl (by assumption) rfl rfl ?_ | refine storeW (t := 28) rfl rfl rfl rfl rfl (by assumption) (by assumption) rfl rfl ?_ | refine allocW (t := 28) rfl zall zW_eq zW_len rfl rfl rfl ?_ | refine allocW (t := 30) rfl zPall zP_eq zP_len rfl rfl rfl ?_ | refine goA ?_ | refine cX c1 ?_ | refine goB ?_ | fail))
 exact awp_ret ⟨_, ResL.cons (ResA.agg rfl rfl rfl rfl rfl rfl (loadCs_all l2) (RL.allClosed (encP_closed hcl))) (ResL.cons (ResA.tmp (.val _)) .nil), rfl⟩
theorem of_c {W : List AV} (lw : W.length = 1025) (hcl : ∀ x, x ∈ W → Closed x) (m r : Int) (hm : 0 ≤ m ∧ m ≤ 1000) (hr : 0 ≤ r ∧ r ≤ 1000) : FnC Try.prog 37 [.agg (encP W m r)] (.agg (encF W m r (r - m))) := by
 have lf := zF_len
 have l2 : (encP W m r).length = 1027 := encP_len lw
 have l3 : (encF W m r (r - m)).length = 1028 := encF_len lw
 have g1 := p_many (m := m) (r := r) lw
 have g2 := p_room (m := m) (r := r) lw
 have g3 := zF_setp lw m r
 have g4 := zF_free lw m r (r - m)
 have hcp := encP_closed (m := m) (r := r) hcl
 have hcf := encF_closed (m := m) (r := r) (f := r - m) hcl
 refine goF Try.func37 (closedL_cons (.agg hcp) closedL_nil) (fun w0 st0 => ?_)
 dsimp only [frOf]
 (repeat' (first | refine storeW (t := 95) rfl rfl rfl rfl rfl (by assumption) (by assumption) rfl rfl ?_ | refine build2S (t := 95) rfl rfl zFall rfl rfl l2 rfl rfl zF_eq g3 g4 rfl rfl ?_ | refine loadW (t := 30) rfl rfl rfl rfl rfl (by assumption) rfl rfl ?_ | refine boxW (t := 30) rfl l2 rfl rfl rfl ?_ | refine allocW (t := 95) rfl zFall zF_eq zF_len rfl rfl rfl ?_ | refine goA ?_ | refine loadC rfl rfl rfl rfl rfl g1 rfl rfl ?_ | refine loadC rfl rfl rfl rfl rfl g2 rfl rfl ?_ | refine goB ?_ | fail))
 exact awp_ret ⟨_, ResL.cons (ResA.agg rfl rfl rfl rfl rfl rfl (loadCs_all l3) (RL.allClosed hcf)) .nil, rfl⟩
theorem free_c {W : List AV} (lw : W.length = 1025) (hcl : ∀ x, x ∈ W → Closed x) (m r : Int) (hm : 0 ≤ m ∧ m ≤ 1000) (hr : 0 ≤ r ∧ r ≤ 1000) : FnC Try.prog 20 [.agg (encP W m r)] (.val (.int .i64 (r - m))) := by
 have c1 := of_c lw hcl m r hm hr
 have l2 : (encP W m r).length = 1027 := encP_len lw
 have g1 := f_free (m := m) (r := r) (f := r - m) lw
 have hcp := encP_closed (m := m) (r := r) hcl
 refine goF Try.func20 (closedL_cons (.agg hcp) closedL_nil) (fun w0 st0 => ?_)
 dsimp only [frOf]
 (repeat' (first | refine loadW (t := 30) rfl rfl rfl rfl rfl (by assumption) rfl rfl ?_ | refine boxW (t := 30) rfl l2 rfl rfl rfl ?_ | refine goA ?_ | refine cX c1 ?_ | refine ARun.fld rfl Try.underlying95 rfl rfl (.inr ⟨rfl, g1⟩) rfl (guardF_spec rfl) ?_ | refine goB ?_ | fail))
 exact awp_ret ⟨_, ResL.cons (ResA.tmp (.val _)) .nil, rfl⟩
theorem pall_c {N : Nat} (hs : SortOk N) {w : Wh} {l : List Tmr} (h : WR w l) (hl : l.length < N) (m r : Int) : FnC Try.prog 22 [.agg (encP (encWh w) m r)] (encTs l) := by
 have c1 := all_s hs h hl
 have lw := h.len
 have hcl := encWh_closed w
 generalize encWh w = W at *
 have l2 : (encP W m r).length = 1027 := encP_len lw
 have g1 := p_wheel (m := m) (r := r) lw
 have hcp := encP_closed (m := m) (r := r) hcl
 refine goF Try.func22 (closedL_cons (.agg hcp) closedL_nil) (fun w0 st0 => ?_)
 dsimp only [frOf]
 (repeat' (first | refine loadS (t := 28) rfl rfl rfl rfl rfl g1 rfl rfl ?_ | refine loadW (t := 30) rfl rfl rfl rfl rfl (by assumption) rfl rfl ?_ | refine boxW (t := 30) rfl l2 rfl rfl rfl ?_ | refine goA ?_ | refine cX c1 ?_ | refine goB ?_ | fail))
 exact awp_ret ⟨_, ResL.cons (ResA.tmp (.closed _ (closed_ts l))) .nil, rfl⟩
theorem has1_c (i : Int) : IsIdF 52 i := fun t => by
 refine goF Try.func52 (closedL_cons (.agg (encTm_closed t)) (closedL_cons (.rp (closedL_cons (.val _) closedL_nil)) closedL_nil)) (fun w0 st0 => ?_)
 dsimp only [frOf]
 (repeat' (first | refine goA ?_ | refine ARun.loadOne_rp rfl rfl rfl rfl rfl (guardF_spec rfl) ?_ | refine goB ?_ | fail))
 exact awp_ret ⟨_, ResL.cons (ResA.tmp (.val _)) .nil, rfl⟩
end Go.Proofs.Ytkmlmboclegpcaa
