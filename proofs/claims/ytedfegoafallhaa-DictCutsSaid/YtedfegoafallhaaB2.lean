/- One operation, reckoned: what the frame and the call's own memory become, and what must hold for it. -/
import Derived.Test.YtedfegoafallhaaB1
namespace Go.Proofs.Ytedfegoafallhaa
set_option linter.unusedVariables false
set_option linter.unusedSimpArgs false
open Go Go.RowKit

structure Out where
  fr : List (Nat × AV)
  hp : List (Nat × Option Blk)
  r : List Nat
  w : List Nat
  side : Prop

def forceA (v : AV) (k : AV → Option Out) : Option Out :=
  match v with
  | .val v => k (.val v)
  | .ptr b g i f => k (.ptr b g i f)
  | .rp es => k (.rp es)
  | .sl sz full els => k (.sl sz full els)
  | .own b g lo n => k (.own b g lo n)
  | .agg es => k (.agg es)
  | .tup es => k (.tup es)
  | .clo f a b => k (.clo f a b)
  | .it b g => k (.it b g)
  | .mo b g => k (.mo b g)
  | .mp ks vs => k (.mp ks vs)
  | .bany => k .bany
  | .dead => k .dead
theorem forceA_eq (v : AV) (k : AV → Option Out) : forceA v k = k v := by cases v <;> rfl
def forceL : List AV → (List AV → Option Out) → Option Out
  | [], k => k []
  | x :: l, k => forceA x fun x => forceL l fun l => k (x :: l)
theorem forceL_eq : ∀ (l : List AV) (k : List AV → Option Out), forceL l k = k l
  | [], _ => rfl
  | x :: l, k => by rw [forceL, forceA_eq, forceL_eq l]

def forceEE : List (List AV) → (List (List AV) → Option Out) → Option Out
  | [], k => k []
  | e :: l, k => forceL e fun e => forceEE l fun l => k (e :: l)
theorem forceEE_eq : ∀ (l : List (List AV)) (k : List (List AV) → Option Out), forceEE l k = k l
  | [], _ => rfl
  | x :: l, k => by rw [forceEE, forceL_eq, forceEE_eq l]

theorem SetAts.of_le : ∀ (l : List AV) (n : Nat) (cs : List AV), n + cs.length ≤ l.length → SetAts l n cs (l.take n ++ cs ++ l.drop (n + cs.length))
  | l, 0, [], _ => by simpa using SetAts.done l
  | [], 0, c :: cs, h => by simp at h
  | x :: l, 0, c :: cs, h => by
    have := SetAts.of_le l 0 cs (by simp only [List.length_cons] at h; omega)
    simp only [List.take_zero, List.nil_append, Nat.zero_add] at this ⊢
    rw [List.length_cons, List.drop_succ_cons]
    exact .here this
  | [], n + 1, cs, h => by simp at h
  | x :: l, n + 1, cs, h => by
    have := SetAts.of_le l n cs (by simp only [List.length_cons] at h; omega)
    rw [show n + 1 + cs.length = (n + cs.length) + 1 by omega, List.take_succ_cons, List.drop_succ_cons]
    exact .skip this
def setF (el : List AV) (f : Nat) (cs : List AV) : Option (List AV) := bif Nat.ble (f + cs.length) el.length then some (el.take f ++ (cs ++ el.drop (f + cs.length))) else none
theorem setF_spec {el cs el' : List AV} {f : Nat} (h : setF el f cs = some el') : SetAts el f cs el' := by
  unfold setF at h
  cases hb : Nat.ble (f + cs.length) el.length with
  | false => rw [hb] at h; cases h
  | true =>
    rw [hb] at h
    obtain rfl := Option.some.inj h
    have := SetAts.of_le el f cs (Nat.le_of_ble_eq_true hb)
    rwa [List.append_assoc] at this

def buildF (place : Nat → Option (Nat × Nat)) (fr : List (Nat × AV)) : List (Nat × Operand) → List AV → Option (List AV)
  | [], es => some es
  | (i, x) :: ps, es =>
    match place i with
    | none => none
    | some (off, sz) =>
      match cellsA (evA fr x) with
      | none => none
      | some cs => bif Nat.beq cs.length sz then (match setF es off cs with | none => none | some es' => buildF place fr ps es') else none
theorem buildF_spec {place : Nat → Option (Nat × Nat)} {fr : List (Nat × AV)} : ∀ {ps : List (Nat × Operand)} {es es' : List AV}, buildF place fr ps es = some es' → BuildL place fr ps es es'
  | [], es, es', h => by
    obtain rfl := Option.some.inj h
    exact .nil es
  | (i, x) :: ps, es, es', h => by
    rw [buildF] at h
    cases hp : place i with
    | none => rw [hp] at h; cases h
    | some p =>
      obtain ⟨off, sz⟩ := p
      rw [hp] at h
      simp only at h
      cases hc : cellsA (evA fr x) with
      | none => rw [hc] at h; cases h
      | some cs =>
        rw [hc] at h
        simp only at h
        cases hb : Nat.beq cs.length sz with
        | false => rw [hb] at h; cases h
        | true =>
          rw [hb] at h
          simp only [cond_true] at h
          cases hs : setF es off cs with
          | none => rw [hs] at h; cases h
          | some es1 =>
            rw [hs] at h
            exact .cons hp hc (Nat.eq_of_beq_eq_true hb) (setF_spec hs) (buildF_spec h)
def setEl {α : Type} : List α → Nat → α → Option (List α)
  | [], _, _ => none
  | _ :: l, 0, y => some (y :: l)
  | x :: l, n + 1, y => match setEl l n y with | none => none | some l' => some (x :: l')
theorem setEl_spec {α : Type} {y : α} : ∀ {l : List α} {n : Nat} {l' : List α}, setEl l n y = some l' → SetEl l n y l'
  | [], _, _, h => by cases h
  | _ :: l, 0, _, h => by
    obtain rfl := Option.some.inj h
    exact .here
  | x :: l, n + 1, _, h => by
    rw [setEl] at h
    cases hs : setEl l n y with
    | none => rw [hs] at h; cases h
    | some l1 =>
      rw [hs] at h
      obtain rfl := Option.some.inj h
      exact .there (setEl_spec hs)
def buildSF (sz : Nat) (fr : List (Nat × AV)) : List (Nat × Operand) → List (List AV) → Option (List (List AV))
  | [], els => some els
  | (i, x) :: ps, els =>
    match cellsA (evA fr x) with
    | none => none
    | some cs => bif Nat.beq cs.length sz then (match setEl els i cs with | none => none | some els' => buildSF sz fr ps els') else none
theorem buildSF_spec {sz : Nat} {fr : List (Nat × AV)} : ∀ {ps : List (Nat × Operand)} {els els' : List (List AV)}, buildSF sz fr ps els = some els' → BuildS sz fr ps els els'
  | [], els, els', h => by
    obtain rfl := Option.some.inj h
    exact .nil els
  | (i, x) :: ps, els, els', h => by
    rw [buildSF] at h
    cases hc : cellsA (evA fr x) with
    | none => rw [hc] at h; cases h
    | some cs =>
      rw [hc] at h
      simp only at h
      cases hb : Nat.beq cs.length sz with
      | false => rw [hb] at h; cases h
      | true =>
        rw [hb] at h
        simp only [cond_true] at h
        cases hs : setEl els i cs with
        | none => rw [hs] at h; cases h
        | some es1 =>
          rw [hs] at h
          exact .cons hc (Nat.eq_of_beq_eq_true hb) (setEl_spec hs) (buildSF_spec h)

def inR (n : Int) : Prop := -9223372036854775808 ≤ n ∧ n ≤ 9223372036854775807
def isI64 : IntKind → Bool
  | .i64 => true
  | _ => false
def sameK : IntKind → IntKind → Bool
  | .i8, .i8 => true
  | .i16, .i16 => true
  | .i32, .i32 => true
  | .i64, .i64 => true
  | .u8, .u8 => true
  | .u16, .u16 => true
  | .u32, .u32 => true
  | .u64, .u64 => true
  | _, _ => false
theorem sameK_eq {a b : IntKind} (h : sameK a b = true) : a = b := by cases a <;> cases b <;> first | rfl | cases h
def arith (k : IntKind) (n : Int) : Value × Prop := bif isI64 k then (.int .i64 n, inR n) else (.int k (k.wrap n), True)
theorem arith_spec {k : IntKind} {n : Int} (h : (arith k n).2) : (arith k n).1 = .int k (k.wrap n) := by
  unfold arith at *
  cases k <;> simp only [isI64, cond_true, cond_false] at h ⊢
  rw [IntWalk.i64_in _ h]
/-- Bits of two numbers. -/
def bitsV (op : BinOp) (k : IntKind) (a b : Int) : Int :=
  match op with
  | .and => k.wrap (BitVec.ofInt k.bits a &&& BitVec.ofInt k.bits b).toNat
  | .or => k.wrap (BitVec.ofInt k.bits a ||| BitVec.ofInt k.bits b).toNat
  | .xor => k.wrap (BitVec.ofInt k.bits a ^^^ BitVec.ofInt k.bits b).toNat
  | _ => k.wrap (BitVec.ofInt k.bits a &&& ~~~(BitVec.ofInt k.bits b)).toNat
def shlV (k : IntKind) (a b : Int) : Int := k.wrap (a * 2 ^ (min b.toNat k.bits))
def shrV (k : IntKind) (a b : Int) : Int := a.fdiv (2 ^ (min b.toNat k.bits))
def binInt (op : BinOp) (k : IntKind) (a b : Int) : Option (Value × Prop) :=
  match op with
  | .eql => some (.bool (a == b), True)
  | .neq => some (.bool (a != b), True)
  | .lss => some (.bool (decide (a < b)), True)
  | .leq => some (.bool (decide (a ≤ b)), True)
  | .gtr => some (.bool (decide (b < a)), True)
  | .geq => some (.bool (decide (b ≤ a)), True)
  | .add => some (arith k (a + b))
  | .sub => some (arith k (a - b))
  | .mul => some (arith k (a * b))
  | .rem => some (.int k (a.tmod b), b ≠ 0)
  | .quo => some (.int k (k.wrap (a.tdiv b)), b ≠ 0)
  | .and => some (.int k (bitsV .and k a b), True)
  | .or => some (.int k (bitsV .or k a b), True)
  | .xor => some (.int k (bitsV .xor k a b), True)
  | .andNot => some (.int k (bitsV .andNot k a b), True)
  | _ => none
theorem binInt_spec {P : Program} {op : BinOp} {t : TypeId} {k : IntKind} {a b : Int} {r : Value × Prop} (h : binInt op k a b = some r) (hs : r.2) : BinR P op t (.int k a) (.int k b) r.1 := by
  cases op <;> simp only [binInt, Option.some.injEq, reduceCtorEq] at h
  case eql => subst h; exact bin_eq
  case neq => subst h; exact bin_ne
  case lss => subst h; exact bin_lt
  case leq => subst h; exact bin_le
  case gtr => subst h; exact bin_gt
  case geq => subst h; exact bin_ge
  case add => subst h; rw [arith_spec hs]; exact bin_add
  case sub => subst h; rw [arith_spec hs]; exact bin_sub
  case mul => subst h; rw [arith_spec hs]; exact bin_mul
  case and => subst h; exact bin_wrap (fun w => by simp [binOp, Op.intBits, bitsV])
  case or => subst h; exact bin_wrap (fun w => by simp [binOp, Op.intBits, bitsV])
  case xor => subst h; exact bin_wrap (fun w => by simp [binOp, Op.intBits, bitsV])
  case andNot => subst h; exact bin_wrap (fun w => by simp [binOp, Op.intBits, bitsV])
  case quo => subst h; exact bin_wrap (fun w => by simp only at hs; simp [binOp, Op.intDiv, hs])
  case rem => subst h; exact bin_wrap (fun w => by simp only at hs; simp [binOp, Op.intDiv, hs])
def isBool (T : Nat → Option TI) (t : Nat) : Bool := match T t with | some ti => (match ti.k with | .bool => true | _ => false) | none => false
def binV (T : Nat → Option TI) (op : BinOp) (t : Nat) (p q : Value) : Option (Value × Prop) :=
  match p, q with
  | .int k a, .int k' b => (match op with
    | .shl => some (.int k (shlV k a b), 0 ≤ b)
    | .shr => some (.int k (shrV k a b), 0 ≤ b)
    | op => bif sameK k k' then binInt op k a b else none)
  | .bool a, .bool b => bif isBool T t then (match op with | .eql => some (.bool (a == b), True) | .neq => some (.bool (!(a == b)), True) | _ => none) else none
  | .string a, .string b => (match op with | .add => some (.string (a ++ b), ((a.size + b.size : Nat) : Int) ≤ 9223372036854775807) | .lss => some (.bool (Op.bytesLess a.toList b.toList), True) | .eql => some (.bool (a.toList == b.toList), True) | .neq => some (.bool (!(a.toList == b.toList)), True) | _ => none)
  | _, _ => none
theorem isBool_spec {C : ACtx} {t : Nat} (h : isBool C.T t = true) : C.P.underlying t = some .bool := by
  unfold isBool at h
  split at h
  · rename_i ti ht
    split at h
    · rename_i hk
      exact und_bool ht hk
    · cases h
  · cases h
theorem binV_spec {C : ACtx} {op : BinOp} {t : TypeId} {p q : Value} {r : Value × Prop} (h : binV C.T op t p q = some r) (hs : r.2) : BinR C.P op t p q r.1 := by
  unfold binV at h
  split at h
  · rename_i k a k' b
    split at h
    · obtain rfl := Option.some.inj h
      refine bin_guard (fun _ h => by cases h) (fun h => by cases h) (fun w => ?_)
      have hn : ¬ (b < 0) := by simp only at hs; omega
      simp [binOp, Op.shift, hn, shlV]
    · obtain rfl := Option.some.inj h
      refine bin_guard (fun _ h => by cases h) (fun h => by cases h) (fun w => ?_)
      have hn : ¬ (b < 0) := by simp only at hs; omega
      simp [binOp, Op.shift, hn, shrV]
    · cases hk : sameK k k' with
      | false => rw [hk] at h; cases h
      | true =>
        rw [hk] at h
        obtain rfl := sameK_eq hk
        exact binInt_spec h hs
  · cases hb : isBool C.T t with
    | false => rw [hb] at h; cases h
    | true =>
      rw [hb] at h
      have hu := isBool_spec hb
      simp only [cond_true] at h
      split at h
      · obtain rfl := Option.some.inj h; exact bin_beq hu
      · obtain rfl := Option.some.inj h; exact bin_bne hu
      · cases h
  · rename_i a b
    split at h
    · obtain rfl := Option.some.inj h
      refine bin_guard (fun _ h => by cases h) (fun h => by cases h) (fun w => ?_)
      have hn : ¬ (9223372036854775807 < (a.size : Int) + (b.size : Int)) := by simp only at hs; omega
      simp [binOp, Op.stringOp, hn]
    · obtain rfl := Option.some.inj h
      exact bin_guard (fun _ h => by cases h) (fun h => by cases h) (fun w => by simp [binOp, Op.stringOp])
    · obtain rfl := Option.some.inj h
      exact bin_guard (fun _ h => by cases h) (fun h => by cases h) (fun w => by simp [binOp, Op.stringOp])
    · obtain rfl := Option.some.inj h
      exact bin_guard (fun _ h => by cases h) (fun h => by cases h) (fun w => by simp [binOp, Op.stringOp])
    · cases h
  · cases h

section
variable {C : ACtx} {ops : Array Oper} {K : AS → List (List Nat × List Nat) → Prop} {k : Nat} {rest : List Oper} {fr : List (Nat × AV)} {hp : List (Nat × Option Blk)} {gc : Nat} {fps : List (List Nat × List Nat)}
  {d : Nat} {ty : TypeId} {pos : String} {after : Array Edge} {gd : Option (Nat × Bool)} {x : Operand}
theorem ARun.convInt {ts td : Nat} {si di : TI} {kk ks : IntKind} {n : Int} (hx : evA fr x = .val (.int ks n)) (hs : C.T ts = some si) (ht : C.T td = some di) (hk : di.k = .int kk) (hd : Nat.blt d C.n = true) (hg : guardIs ops ⟨fr, hp, gc⟩ ⟨some d, .convert ts td x, ty, pos, after, gd⟩ true)
    (nx : ARun C ops K (k + 1) rest ⟨(d, .val (.int kk (kk.wrap n))) :: fr, hp, gc⟩ (fps ++ [([], [])])) : ARun C ops K k (⟨some d, .convert ts td x, ty, pos, after, gd⟩ :: rest) ⟨fr, hp, gc⟩ fps :=
  ARun.quiet hd hg [] (by simp) (fun s c a w hS hev _ => by
    have h1 := hev x (by simp [Op.operands])
    rw [hx] at h1
    have h1 := h1.val_inv
    obtain ⟨u, i, z, hu, hi, hz, _⟩ := ti_get hs
    have g1 := run_underlying' hu w
    have g2 := run_underlying' (und_int ht hk) w
    refine ⟨.int kk (kk.wrap n), ?_, .val _⟩
    have : (convert ts td (.int ks n)).run C.P w = .ok (.int kk (kk.wrap n)) w := by
      unfold convert
      rw [Sem.run_bind, g1]
      simp only [Result.andThen]
      rw [Sem.run_bind, g2]
      simp only [Result.andThen]
      rfl
    simp [execOp, h1, this]) nx
end
end Go.Proofs.Ytedfegoafallhaa
