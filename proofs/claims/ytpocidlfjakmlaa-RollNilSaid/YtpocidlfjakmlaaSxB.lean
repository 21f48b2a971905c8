/-
  SxB: quiet operations: what each yields, as a total function on values, with what must hold for it.
-/
import Derived.WalkKit
import Derived.WalkSpells
import Derived.Test.YtpocidlfjakmlaaSxA
namespace Go.Sx
open Go

def isInt (k : IntKind) : Value → Bool
  | .int k' _ => decide (k' = k)
  | _ => false
def isAnyInt : Value → Bool
  | .int _ _ => true
  | _ => false
def isBool : Value → Bool
  | .bool _ => true
  | _ => false
def isStr : Value → Bool
  | .string _ => true
  | _ => false
def isPtr : Value → Bool
  | .pointer (some _) => true
  | _ => false
def isNilable : Value → Bool
  | .pointer _ => true
  | _ => false
def vBool : Value → Bool
  | .bool b => b
  | _ => false
def vInt : Value → Int
  | .int _ n => n
  | _ => 0
def vLen : Value → Nat
  | .slice _ n _ => n
  | .string s => s.size
  | _ => 0

theorem isInt_elim {k : IntKind} {v : Value} (h : isInt k v = true) : ∃ n, v = .int k n := by
  cases v <;> simp [isInt] at h
  exact ⟨_, by rw [h]⟩
theorem isAnyInt_elim {v : Value} (h : isAnyInt v = true) : ∃ k n, v = .int k n := by
  cases v <;> simp [isAnyInt] at h
  exact ⟨_, _, rfl⟩
theorem isBool_elim {v : Value} (h : isBool v = true) : ∃ b, v = .bool b := by
  cases v <;> simp [isBool] at h
  exact ⟨_, rfl⟩
theorem isStr_elim {v : Value} (h : isStr v = true) : ∃ b, v = .string b := by
  cases v <;> simp [isStr] at h
  exact ⟨_, rfl⟩
theorem isPtr_elim {v : Value} (h : isPtr v = true) : ∃ a, v = .pointer (some a) := by
  cases v with
  | pointer a => cases a with
    | none => simp [isPtr] at h
    | some a => exact ⟨a, rfl⟩
  | _ => simp [isPtr] at h

/-- Cells, one behind the other. -/
def rd (w : World) (a : Addr) : Nat → Option (List Value)
  | 0 => some []
  | n + 1 => match w.cell? a, rd w (a.add 1) n with
    | some v, some l => some (v :: l)
    | _, _ => none

inductive U1 where
  | nilc | off (n : Nat) | conv (k : IntKind) | same | bnot | neg (k : IntKind) | lenS | lenL
  | fld (o n : Nat) | fld1 (o : Nat) | ext (i : Nat) | load (n : Nat) | load1 | sz (n : Nat) | nilq (neg : Bool) | nils (neg : Bool)
  deriving Inhabited

def U1.val (w : World) : U1 → Value → Value
  | .nilc, v => v
  | .same, v => v
  | .sz _, v => v
  | .off n, .pointer (some a) => .pointer (some (a.add n))
  | .conv k, .int _ n => .int k (k.wrap n)
  | .bnot, .bool b => .bool (!b)
  | .neg k, .int _ n => .int k (k.wrap (0 - n))
  | .lenS, .string s => .int .i64 s.size
  | .lenL, .slice _ n _ => .int .i64 n
  | .fld o n, .agg cs => .agg (cs.extract o (o + n))
  | .fld1 o, .agg cs => cs[o]?.getD undef
  | .ext i, .tuple vs => vs[i]?.getD undef
  | .load n, .pointer (some a) => .agg ((rd w a n).getD []).toArray
  | .load1, .pointer (some a) => (w.cell? a).getD undef
  | .nilq false, .pointer p => .bool p.isNone
  | .nilq true, .pointer p => .bool (!p.isNone)
  | .nils false, .slice p _ _ => .bool p.isNone
  | .nils true, .slice p _ _ => .bool (!p.isNone)
  | _, _ => undef

def U1.ok (w : World) : U1 → Value → Prop
  | .nilc, v => isPtr v = true
  | .same, _ => True
  | .sz n, v => v.cells.size = n
  | .off _, v => isPtr v = true
  | .conv _, v => isAnyInt v = true
  | .bnot, v => isBool v = true
  | .neg k, v => isInt k v = true
  | .lenS, v => isStr v = true
  | .lenL, .slice _ _ _ => True
  | .fld _ _, .agg _ => True
  | .fld1 o, .agg cs => o < cs.size
  | .ext i, .tuple vs => i < vs.size
  | .load n, .pointer (some a) => a.block < w.heap.size ∧ (rd w a n).isSome = true
  | .load1, .pointer (some a) => (w.cell? a).isSome = true
  | .nilq _, .pointer _ => True
  | .nils _, .slice _ _ _ => True
  | _, _ => False

def U1.isLoad : U1 → Bool
  | .load _ | .load1 => true
  | _ => false

inductive U2 where
  | ib (op : BinOp) (k : IntKind) | sh (l : Bool) (k k' : IntKind) | bb (neg : Bool) | sb (op : BinOp) | idxA (sz : Nat) | idxP (len sz : Nat) | idxS | idxV (len sz : Nat) (agg : Bool) | mm (max : Bool) (k : IntKind) | app
  deriving Inhabited

def ibVal (op : BinOp) (k : IntKind) (a b : Int) : Value := match op with
  | .add => .int k (k.wrap (a + b))
  | .sub => .int k (k.wrap (a - b))
  | .mul => .int k (k.wrap (a * b))
  | .quo => .int k (k.wrap (a.tdiv b))
  | .rem => .int k (a.tmod b)
  | .and => .int k (k.wrap (BitVec.ofInt k.bits a &&& BitVec.ofInt k.bits b).toNat)
  | .or => .int k (k.wrap (BitVec.ofInt k.bits a ||| BitVec.ofInt k.bits b).toNat)
  | .xor => .int k (k.wrap (BitVec.ofInt k.bits a ^^^ BitVec.ofInt k.bits b).toNat)
  | .andNot => .int k (k.wrap (BitVec.ofInt k.bits a &&& ~~~ BitVec.ofInt k.bits b).toNat)
  | .eql => .bool (decide (a = b))
  | .neq => .bool (!decide (a = b))
  | .lss => .bool (decide (a < b))
  | .leq => .bool (decide (a ≤ b))
  | .gtr => .bool (decide (a > b))
  | .geq => .bool (decide (a ≥ b))
  | .shl | .shr => undef
def ibOk (op : BinOp) (b : Int) : Prop := match op with
  | .quo | .rem => b ≠ 0
  | .shl | .shr => False
  | _ => True

def sbVal (op : BinOp) (a b : ByteArray) : Value := match op with
  | .add => .string (a ++ b)
  | .eql => .bool (decide (a.data.toList = b.data.toList))
  | .neq => .bool (!decide (a.data.toList = b.data.toList))
  | .lss => .bool (Op.bytesLess a.toList b.toList)
  | _ => undef
def sbOk (op : BinOp) (a b : ByteArray) : Prop := match op with
  | .add => a.size + b.size ≤ 9223372036854775807
  | .eql | .neq | .lss => True
  | _ => False

def U2.val : U2 → Value → Value → Value
  | .ib op k, .int _ a, .int _ b => ibVal op k a b
  | .sh true k _, .int _ a, .int _ b => .int k (k.wrap (a * 2 ^ (min b.toNat k.bits)))
  | .sh false k _, .int _ a, .int _ b => .int k (a.fdiv (2 ^ (min b.toNat k.bits)))
  | .bb false, .bool a, .bool b => .bool (a == b)
  | .bb true, .bool a, .bool b => .bool (a != b)
  | .sb op, .string a, .string b => sbVal op a b
  | .idxA sz, .slice (some a) _ _, .int _ i => .pointer (some (a.add (i.toNat * sz)))
  | .idxP _ sz, .pointer (some a), .int _ i => .pointer (some (a.add (i.toNat * sz)))
  | .idxS, .string s, .int _ i => .int .u8 ((s.data.toList.getD i.toNat 0).toNat : Int)
  | .idxV _ sz true, .agg cs, .int _ i => .agg (cs.extract (i.toNat * sz) (i.toNat * sz + sz))
  | .idxV _ sz false, .agg cs, .int _ i => cs[i.toNat * sz]?.getD undef
  | .mm true k, .int _ a, .int _ b => .int k (max a b)
  | .mm false k, .int _ a, .int _ b => .int k (min a b)
  | .app, .agg a, v => .agg (a ++ v.cells)
  | _, _, _ => undef

def U2.ok : U2 → Value → Value → Prop
  | .ib op k, x, y => isInt k x = true ∧ isInt k y = true ∧ ibOk op (vInt y)
  | .sh _ k k', x, y => isInt k x = true ∧ isInt k' y = true ∧ 0 ≤ vInt y
  | .bb _, x, y => isBool x = true ∧ isBool y = true
  | .sb op, .string a, .string b => sbOk op a b
  | .idxA _, .slice (some _) n _, .int _ i => 0 ≤ i ∧ i < n
  | .idxP len _, .pointer (some _), .int _ i => 0 ≤ i ∧ i < len
  | .idxS, .string s, .int _ i => 0 ≤ i ∧ i < s.size
  | .idxV len _ true, .agg _, .int _ i => 0 ≤ i ∧ i < len
  | .idxV len sz false, .agg cs, .int _ i => 0 ≤ i ∧ i < len ∧ i.toNat * sz < cs.size
  | .mm _ k, x, y => isInt k x = true ∧ isInt k y = true
  | .app, .agg _, _ => True
  | _, _, _ => False

inductive U3 where
  | slS | slL (sz : Nat)
  deriving Inhabited

def U3.val : U3 → Value → Value → Value → Value
  | .slS, .string s, .int _ l, .int _ h => .string (s.extract l.toNat h.toNat)
  | .slL sz, .slice a _ c, .int _ l, .int _ h => .slice (if c = l.toNat then a else a.map (·.add (l.toNat * sz))) (h.toNat - l.toNat) (c - l.toNat)
  | _, _, _, _ => undef
def U3.ok : U3 → Value → Value → Value → Prop
  | .slS, .string s, .int _ l, .int _ h => 0 ≤ l ∧ l ≤ h ∧ h ≤ s.size
  | .slL _, .slice _ _ c, .int _ l, .int _ h => 0 ≤ l ∧ l ≤ h ∧ h ≤ c
  | _, _, _, _ => False

/-- What a quiet operation is, over operands of a kind. -/
inductive Q (α : Type) where
  | q0 (x : α)
  | q1 (u : U1) (x : α)
  | q2 (u : U2) (x y : α)
  | q3 (u : U3) (x y z : α)
  | qlo (u : U3) (l : U1) (x : α) (lo hi : Option α)
  | ite (c a b : α)
  | qn (segs : List (List Value × Option (Nat × α)))

section
variable (P : Program)

def aggB (t : TypeId) : Option Bool := match P.underlying t with
  | some (.struct _) => some true
  | some (.array _ _) => some true
  | some _ => some false
  | none => none
def sizeB (t : TypeId) : Option Nat := (P.info? t).map (·.size)
def zeroB (t : TypeId) : Option (List Value) := (P.info? t).bind fun i => i.zero.map (·.cells.toList)
def intB (t : TypeId) : Option IntKind := match P.underlying t with
  | some (.int k) => some k
  | _ => none

/-- The zero cells between parts, and the parts. -/
def segs (zero : List Value) : Nat → List (Nat × Nat × Operand) → Option (List (List Value × Option (Nat × Operand)))
  | pos, [] => some [(zero.drop pos, none)]
  | pos, (o, n, x) :: r => if pos ≤ o ∧ o + n ≤ zero.length then (segs zero (o + n) r).map ((((zero.drop pos).take (o - pos)), some (n, x)) :: ·) else none

def placesB (t : TypeId) : Option (List (Nat × Nat)) := match P.underlying t with
  | some (.struct fs) => fs.toList.mapM fun f => (sizeB P f.type).map fun n => (f.offset, n)
  | some (.array len e) => (sizeB P e).map fun n => (List.range len).map fun i => (i * n, n)
  | _ => none

def partsAt (places : List (Nat × Nat)) (parts : List (Nat × Operand)) : Option (List (Nat × Nat × Operand)) :=
  parts.mapM fun (i, x) => (places[i]?).map fun (o, n) => (o, n, x)

def cqCall (c : Call) : Option (Q Operand) := match c.callee, c.args.toList, c.argTypes.toList with
  | .builtin .len, [x], [t] => match P.underlying t with
    | some .string => some (.q1 .lenS x)
    | some (.slice _) => some (.q1 .lenL x)
    | _ => none
  | .builtin .max, [x, y], [t, _] => (intB P t).map fun k => .q2 (.mm true k) x y
  | .builtin .min, [x, y], [t, _] => (intB P t).map fun k => .q2 (.mm false k) x y
  | _, _, _ => none

def cq (o : Oper) : Option (Q Operand) := match o.op with
  | .move x | .assign x => some (.q0 x)
  | .pick c a b => some (.ite c a b)
  | .nilCheck x => some (.q1 .nilc x)
  | .fieldAddr s x f => match P.underlying s with
    | some (.struct fs) => match fs[f]? with
      | some fd => match sizeB P fd.type with
        | some 0 => none
        | some _ => some (.q1 (.off fd.offset) x)
        | none => none
      | none => none
    | _ => none
  | .field s x f => match P.underlying s with
    | some (.struct fs) => match fs[f]? with
      | some fd => match sizeB P fd.type, aggB P fd.type with
        | some n, some true => some (.q1 (.fld fd.offset n) x)
        | some _, some false => some (.q1 (.fld1 fd.offset) x)
        | _, _ => none
      | none => none
    | _ => none
  | .load t x => match sizeB P t, aggB P t with
    | some n, some true => some (.q1 (.load n) x)
    | some _, some false => some (.q1 .load1 x)
    | _, _ => none
  | .extract x i => some (.q1 (.ext i) x)
  | .unOp .not _ x => some (.q1 .bnot x)
  | .unOp .neg t x => (intB P t).map fun k => .q1 (.neg k) x
  | .convert s d x => match P.underlying s, P.underlying d with
    | some (.int _), some (.int k) => some (.q1 (.conv k) x)
    | _, _ => none
  | .binOp op t x y t' => match P.underlying t with
    | some (.int k) => match op with
      | .shl => (intB P t').map fun k' => .q2 (.sh true k k') x y
      | .shr => (intB P t').map fun k' => .q2 (.sh false k k') x y
      | _ => some (.q2 (.ib op k) x y)
    | some .bool => match op with
      | .eql => some (.q2 (.bb false) x y)
      | .neq => some (.q2 (.bb true) x y)
      | _ => none
    | some .string => some (.q2 (.sb op) x y)
    | some (.pointer _) => match op, y with
      | .eql, .const (.pointer none) => some (.q1 (.nilq false) x)
      | .neq, .const (.pointer none) => some (.q1 (.nilq true) x)
      | _, _ => none
    | some (.slice _) => match op, y with
      | .eql, .const (.slice none 0 0) => some (.q1 (.nils false) x)
      | .neq, .const (.slice none 0 0) => some (.q1 (.nils true) x)
      | _, _ => none
    | _ => none
  | .indexAddr t x i => match P.underlying t with
    | some (.slice e) => (sizeB P e).map fun n => .q2 (.idxA n) x i
    | some (.array len e) => (sizeB P e).map fun n => .q2 (.idxP len n) x i
    | _ => none
  | .index t x i => match P.underlying t with
    | some .string => some (.q2 .idxS x i)
    | some (.array len e) => match sizeB P e, aggB P e with
      | some n, some g => some (.q2 (.idxV len n g) x i)
      | _, _ => none
    | _ => none
  | .slice t x lo hi none => match P.underlying t with
    | some .string => some (.qlo .slS .lenS x lo hi)
    | some (.slice e) => (sizeB P e).map fun n => .qlo (.slL n) .lenL x lo hi
    | _ => none
  | .call c => cqCall P c
  | .build t parts => match zeroB P t, placesB P t with
    | some z, some places => ((partsAt places parts.toList).bind (segs z 0)).map .qn
    | _, _ => none
  | _ => none
end
end Go.Sx
