/- yG7, yG8, yG9, yG10, yG11. -/
import Derived.Test.YtfphgelollhdhaaGreatW1
import Derived.Test.YtfphgelollhdhaaGreatW2
import Derived.Test.YtfphgelollhdhaaGreatW3
import Derived.Test.YtfphgelollhdhaaGreatW4
import Derived.Test.YtfphgelollhdhaaGreatyW5
import Derived.Test.YtfphgelollhdhaaGreatyW6
import Derived.Test.YtfphgelollhdhaaGreatyW7
import Derived.Test.YtfphgelollhdhaaGreatyW8
import Derived.Test.YtfphgelollhdhaaGreatyW9
import Derived.Test.YtfphgelollhdhaaGreatyW10
set_option linter.unusedVariables false
set_option linter.unusedSimpArgs false
namespace Go.Proofs.YtfphgelollhdhaaGreat
open Go Go.RowKit
open Dict (St Bs bs_eq)
open Mem (encBs closed_bs)
set_option maxRecDepth 100000
attribute [local irreducible] Decidable.decide awp ARun regK toK
def FrOk (x : Fr) : Prop := (0 ≤ x.d ∧ x.d ≤ 256) ∧ 0 ≤ x.r ∧ x.r ≤ 256
def FramedP (l : List Fr) : Prop := (∀ x, x ∈ l → FrOk x) ∧ l.length ≤ 64
def HandP (l : List Hn) : Prop := (∀ x, x ∈ l → 0 ≤ x.fuel) ∧ l.length ≤ 64
open Classical in
noncomputable def pD (p : Prop) : Bool := if p then true else false
theorem pD_yes {p : Prop} (h : p) : pD p = true := by unfold pD; exact if_pos h
theorem pD_no {p : Prop} (h : ¬ p) : pD p = false := by unfold pD; exact if_neg h
theorem pD_congr {p q : Prop} (h : p ↔ q) : pD p = pD q := by
 by_cases hp : p
 ·rw [pD_yes hp, pD_yes (h.1 hp)]
 ·rw [pD_no hp, pD_no (fun e => hp (h.2 e))]
def PicP (b : Bs) (o : Bool) : Prop := b.length ≤ 130 ∧ (o = true ∨ b.length = 0)
end Go.Proofs.YtfphgelollhdhaaGreat
namespace Go.Proofs.YtfphgelollhdhaaGreat
open Go Go.RowKit
open Dict (St Bs bs_eq Wd encW encWs closed_ws)
open Mem (Mm encM encBs closed_bs encP encP_closed)
open Stk (encS closed_s)
set_option maxRecDepth 100000
def RoomP (v : V) : Prop := FitsP v.cf ∧ Mem.RightM v.m ∧ (v.m.b.length : Int) = v.cf.mem ∧ 1368 ≤ v.here ∧ v.here ≤ v.cf.mem
def StackP (v : V) : Prop := (v.d.length : Int) ≤ v.cf.data ∧ (v.r.length : Int) ≤ v.cf.ret ∧ FramedP v.f
def WordP (v : V) : Prop := Dict.RightW v.dict ∧ (v.dict.length : Int) ≤ v.cf.words ∧ (v.out.length : Int) ≤ v.cf.out ∧ PicP v.pb v.po
def RestP (v : V) : Prop := v.req.length ≤ 16 ∧ (0 ≤ v.free ∧ v.free ≤ 64) ∧ (0 ≤ v.next ∧ v.next ≤ 4611686018427387904) ∧ HandP v.hand
def RightV (v : V) : Prop := RoomP v ∧ StackP v ∧ WordP v ∧ RestP v
structure Held (v : V) : Prop where
 mb : v.m.b.length ≤ 1000000
 mo : v.m.old.length ≤ 1000000
 dl : v.d.length ≤ 1000000
 rl : v.r.length ≤ 1000000
 fl : v.f.length ≤ 1000000
 wl : v.dict.length ≤ 1000000
 wi : Dict.InW v.dict
 ol : v.out.length ≤ 1000000
 pl : v.pb.length ≤ 1000000
 ql : v.req.length ≤ 1000000
 hl : v.hand.length ≤ 1000000
attribute [local irreducible] Decidable.decide awp ARun regK toK
end Go.Proofs.YtfphgelollhdhaaGreat
namespace Go.Proofs.YtfphgelollhdhaaGreat
open Go Go.RowKit
open Dict (St Bs bs_eq Wd encW encWs closed_ws)
open Mem (Mm encM encBs closed_bs encP encP_closed)
open Stk (encS closed_s)
set_option maxRecDepth 100000
structure Sizes (v : V) : Prop where
 s1 : (v.d.length : Int) ≤ v.cf.data
 s2 : (v.r.length : Int) ≤ v.cf.ret
 s3 : v.f.length ≤ 64
 s4 : (v.dict.length : Int) ≤ v.cf.words
 s5 : (v.out.length : Int) ≤ v.cf.out
 s6 : v.req.length ≤ 16
 s7 : 0 ≤ v.free
 s8 : v.free ≤ 64
 s9 : 0 ≤ v.next
 s10 : v.next ≤ 4611686018427387904
 s11 : v.hand.length ≤ 64
theorem Sizes.right {v : V} (h : Sizes v) (hr : RoomP v) (hw : Dict.RightW v.dict) (hp : PicP v.pb v.po) (hf : ∀ x, x ∈ v.f → FrOk x) (hh : ∀ x, x ∈ v.hand → 0 ≤ x.fuel) : RightV v :=
 ⟨hr, ⟨h.s1, h.s2, hf, h.s3⟩, ⟨hw, h.s4, h.s5, hp⟩, h.s6, ⟨h.s7, h.s8⟩, ⟨h.s9, h.s10⟩, hh, h.s11⟩
attribute [local irreducible] Decidable.decide awp ARun regK toK
end Go.Proofs.YtfphgelollhdhaaGreat
namespace Go.Proofs.YtfphgelollhdhaaGreat
open Go Go.RowKit
open Dict (St Bs bs_eq Wd encW encWs closed_ws)
open Mem (Mm encM encBs closed_bs encP encP_closed)
open Stk (encS closed_s)
set_option maxRecDepth 100000
theorem dec_pD (p : Prop) [Decidable p] : decide p = pD p := by
 by_cases h : p
 ·rw [pD_yes h, decide_eq_true h]
 ·rw [pD_no h, decide_eq_false h]
theorem V.ext' {a b : V} (h1 : a.cf = b.cf) (h2 : a.m = b.m) (h3 : a.here = b.here) (h4 : a.d = b.d) (h5 : a.r = b.r) (h6 : a.f = b.f) (h7 : a.dict = b.dict) (h8 : a.last = b.last) (h9 : a.out = b.out) (h10 : a.po = b.po ∧ a.pb = b.pb) (h11 : a.req = b.req) (h12 : a.free = b.free) (h13 : a.next = b.next) (h14 : a.arg = b.arg) (h15 : a.self = b.self) (h16 : a.now = b.now) (h17 : a.hand = b.hand) : a = b := by
 cases a
 cases b
 simp only at h1 h2 h3 h4 h5 h6 h7 h8 h9 h10 h11 h12 h13 h14 h15 h16 h17
 obtain ⟨h10, h10'⟩ := h10
 subst h1 h2 h3 h4 h5 h6 h7 h8 h9 h10 h10' h11 h12 h13 h14 h15 h16 h17
 rfl
attribute [local irreducible] Decidable.decide awp ARun regK toK
end Go.Proofs.YtfphgelollhdhaaGreat
namespace Go.Proofs.YtfphgelollhdhaaGreat
open Go Go.RowKit
open Dict (St Bs bs_eq Wd encW encWs closed_ws)
open Mem (Mm encM encBs closed_bs encP encP_closed fetchD)
open Stk (encS closed_s pushD popD popD_nil popD_snoc snoc_of snoc_ix pushD_ok pushD_over encI_closed)
set_option maxRecDepth 100000
theorem RL.allClosed {s : AS} {es : List AV} (h : ∀ x, x ∈ es → Closed x) : RL s es es := ⟨rfl, fun i x x' h1 h2 => by
 rw [h1] at h2
 obtain rfl := Option.some.inj h2
 exact .closed x (h x (List.mem_of_getElem? h1))⟩
def encVE (r : V × Int) : AV := .tup [.agg (encV r.1), .val (.int .i64 r.2)]
def kindD (v : V) (xt : Int) : Int × Int := if (fetchD v.m xt).2 ≠ 0 then (0, (fetchD v.m xt).2) else if (0 ≤ (fetchD v.m xt).1 ∧ (fetchD v.m xt).1 ≤ 129) ∨ (256 ≤ (fetchD v.m xt).1 ∧ (fetchD v.m xt).1 ≤ 260) ∨ (300 ≤ (fetchD v.m xt).1 ∧ (fetchD v.m xt).1 ≤ 336) then ((fetchD v.m xt).1, 0) else (0, -9)
attribute [local irreducible] Decidable.decide awp ARun regK toK
end Go.Proofs.YtfphgelollhdhaaGreat
