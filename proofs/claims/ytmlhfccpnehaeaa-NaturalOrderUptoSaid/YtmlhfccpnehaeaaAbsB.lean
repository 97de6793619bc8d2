/- What one operation does to abstract values: functions that can be run on open terms. -/
import Derived.Test.YtmlhfccpnehaeaaAbsA
set_option autoImplicit false
set_option linter.unusedVariables false
namespace Go.Abs

/-! ### Types, as far as the operations look at them -/

inductive TD where
  | int (k : IntKind)
  | bool
  | str
  | ptr (e : Nat)
  | slice (e : Nat)
  | struct (fs : List (Nat × Nat))
  | arr (n e : Nat)
  | other

structure TI where
  d : TD
  size : Nat
  bytes : Nat
  zero : List FV

abbrev Tab := List (Nat × TI)

def Tab.get : Tab → Nat → Option TI
  | [], _ => none
  | (t, i) :: r, u => bif Nat.beq t u then some i else Tab.get r u

def TD.isAgg : TD → Bool
  | .struct _ | .arr .. => true
  | _ => false

/-- a datum that a zero cell holds -/
def zeroOk : Value → FV → Bool
  | .int k n, .int k' n' => k == k' && n == n'
  | .bool b, .bool b' => b == b'
  | .string s, .str s' => s.size == 0 && s'.size == 0
  | .slice none 0 0, .sl _ _ 0 (some 0) => true
  | .pointer none, .any | .nilFunc, .any | .nilIface, .any | .map none, .any => true
  | _, _ => false
def zerosOk : List Value → List FV → Bool
  | [], [] => true
  | v :: vs, x :: xs => zeroOk v x && zerosOk vs xs
  | _, _ => false
def fieldsOk : List Field → List (Nat × Nat) → Bool
  | [], [] => true
  | f :: fs, (o, t) :: r => f.offset == o && f.type == t && fieldsOk fs r
  | _, _ => false
def descOk : TypeDesc → TD → Bool
  | .int k, .int k' => k == k'
  | .bool, .bool => true
  | .string, .str => true
  | .pointer e, .ptr e' => e == e'
  | .slice e, .slice e' => e == e'
  | .struct fs, .struct gs => fieldsOk fs.toList gs
  | .array n e, .arr n' e' => n == n' && e == e'
  | .struct _, _ | .array .., _ => false
  | _, .other => true
  | _, _ => false
def tyOk (P : Program) (t : Nat) (ti : TI) : Bool :=
  match P.info? t, P.underlying t with
  | some inf, some u => inf.size == ti.size && inf.bytes == ti.bytes && descOk u ti.d && (match inf.zero with | some z => zerosOk z.cells.toList ti.zero | none => false) && ti.zero.length == ti.size
  | _, _ => false
def tabOk (P : Program) : Tab → Bool
  | [] => true
  | (t, ti) :: r => tyOk P t ti && tabOk P r

/-! ### Small functions on lists, direct and in passing style -/

def setD {α : Type} : List α → Nat → List α → List α
  | l, 0, xs => xs ++ l.drop xs.length
  | [], _ + 1, _ => []
  | a :: l, n + 1, xs => a :: setD l n xs

def FV.toL : List AV → Option (List FV)
  | [] => some []
  | .f x :: r => match FV.toL r with | some l => some (x :: l) | none => none
  | _ :: _ => none

def fL : List FV → List AV
  | [] => []
  | x :: r => .f x :: fL r

theorem fL_eq (l : List FV) : fL l = l.map .f := by induction l with | nil => rfl | cons x r ih => simp [fL, ih]
theorem toL_eq : ∀ {l : List AV} {xs : List FV}, FV.toL l = some xs → l = fL xs
  | [], _, h => by simp [FV.toL] at h; subst h; rfl
  | .f x :: r, xs, h => by
    simp only [FV.toL] at h
    cases e : FV.toL r with
    | none => simp [e] at h
    | some l => simp [e] at h; subst h; simp [fL, ← toL_eq e]
  | .top :: _, _, h => by simp [FV.toL] at h
  | .lsl .. :: _, _, h => by simp [FV.toL] at h
  | .lptr .. :: _, _, h => by simp [FV.toL] at h
  | .agg _ :: _, _, h => by simp [FV.toL] at h
  | .tup _ :: _, _, h => by simp [FV.toL] at h

/-- a write into an array's contents -/
def upd (at_ : Nat → List FV) (i : Nat) (cells : List FV) : Nat → List FV := fun j => if j = i then cells else at_ j

/-! ### Values -/

def constA : Value → AV
  | .int k n => .f (.int k n)
  | .bool b => .f (.bool b)
  | .string s => .f (.str s)
  | .slice none 0 0 => .f (.sl 0 (fun _ => []) 0 (some 0))
  | _ => .top

/-- a constant at a type: nil slices get their elements' size -/
def constT (T : Tab) (t : Nat) (v : Value) : AV :=
  match v with
  | .slice none 0 0 => match T.get t with
    | some { d := .slice e, .. } => match T.get e with
      | some ti => .f (.sl ti.size (fun _ => ti.zero) 0 (some 0))
      | none => .f (.sl 0 (fun _ => []) 0 (some 0))
    | _ => .f (.sl 0 (fun _ => []) 0 (some 0))
  | v => constA v

def evA (F : Nat → AV) : Operand → AV
  | .tmp t => F t
  | .const v => constA v
  | _ => .top
def evT (T : Tab) (F : Nat → AV) (t : Nat) : Operand → AV
  | .const v => constT T t v
  | o => evA F o

inductive OpOut where
  | bad
  | ok (v : AV) (δ : List (Nat × Nat × Blk))
  | chk (c : Prop) (v : AV) (δ : List (Nat × Nat × Blk))
  | ari (k : IntKind) (e : Int)

/-- one cell, or an aggregate -/
def mkV (agg : Bool) (cs : List AV) : Option AV :=
  match agg with
  | true => some (.agg cs)
  | false => match cs with | [c] => some c | _ => none

/-! ### The operations -/

abbrev Hp := Nat → Nat × Blk

def loadO (T : Tab) (H : Hp) (t : Nat) (p : AV) : OpOut :=
  match T.get t with
  | none => .bad
  | some ti => match p with
    | .f (.ptr cells) => bif Nat.ble ti.size cells.length then (match mkV ti.d.isAgg (fL (cells.take ti.size)) with | some v => .ok v [] | none => .bad) else .bad
    | .lptr d g sz i sub => match H d with
      | (g', b) => bif Nat.beq g' g then (match b with
        | .vr cells => bif Nat.ble (i * sz + sub + ti.size) cells.length then (match mkV ti.d.isAgg ((cells.drop (i * sz + sub)).take ti.size) with | some v => .ok v [] | none => .bad) else .bad
        | .fa sz' n at_ | .fz sz' n at_ => bif Nat.beq sz' sz && Nat.ble (sub + ti.size) sz then (match mkV ti.d.isAgg (fL (((at_ i).drop sub).take ti.size)) with | some v => .chk (i < n) v [] | none => .bad) else .bad
        | .dead => .bad) else .bad
    | _ => .bad

def storeO (T : Tab) (H : Hp) (t : Nat) (p v : AV) : OpOut :=
  match T.get t, v.cells with
  | some ti, some xs => bif Nat.beq xs.length ti.size then (match p with
    | .lptr d g sz i sub => match H d with
      | (g', b) => bif Nat.beq g' g then (match b with
        | .vr cells => bif Nat.ble (i * sz + sub + ti.size) cells.length then .ok .top [(d, g, .vr (setD cells (i * sz + sub) xs))] else .bad
        | .fa sz' n at_ => match FV.toL xs with
          | some ys => bif Nat.beq sz' sz && Nat.ble (sub + ti.size) sz then .chk (i < n) .top [(d, g, .fa sz n (upd at_ i (setD (at_ i) sub ys)))] else .bad
          | none => .bad
        | _ => .bad) else .bad
    | _ => .bad) else .bad
  | _, _ => .bad

def allocO (T : Tab) (H : Hp) (dst : Option Nat) (e : Nat) : OpOut :=
  match dst, T.get e with
  | some d, some ti => match H d with
    | (g, _) => .ok (.lptr d (g + 1) ti.size 0 0) [(d, g + 1, .vr (fL ti.zero))]
  | _, _ => .bad

def boxO (H : Hp) (dst : Option Nat) (v : AV) : OpOut :=
  match dst, v.cells with
  | some d, some xs => match H d with
    | (g, _) => .ok (.lptr d (g + 1) xs.length 0 0) [(d, g + 1, .vr xs)]
  | _, _ => .bad

/-- Go's composite literals: parts at places -/
def fillA (place : Nat → Option (Nat × Nat)) (cells : List AV) : List (Nat × AV) → Option (List AV)
  | [] => some cells
  | (i, v) :: r => match place i, v.cells with
    | some (off, size), some xs => bif Nat.beq xs.length size && Nat.ble (off + size) cells.length then fillA place (setD cells off xs) r else none
    | _, _ => none

def fieldPlaces (T : Tab) : List (Nat × Nat) → Nat → Option (Nat × Nat)
  | [], _ => none
  | (o, t) :: _, 0 => match T.get t with | some ti => some (o, ti.size) | none => none
  | _ :: r, n + 1 => fieldPlaces T r n

def knownAll (T : Tab) : List (Nat × Nat) → Bool
  | [] => true
  | (_, t) :: r => match T.get t with | some _ => knownAll T r | none => false

def buildO (T : Tab) (t : Nat) (parts : List (Nat × AV)) : OpOut :=
  match T.get t with
  | some ti => match ti.d with
    | .struct fs => bif knownAll T fs then (match fillA (fieldPlaces T fs) (fL ti.zero) parts with
      | some cs => .ok (.agg cs) []
      | none => .bad) else .bad
    | .arr _ e => match T.get e with
      | some te => match fillA (fun i => some (i * te.size, te.size)) (fL ti.zero) parts with
        | some cs => .ok (.agg cs) []
        | none => .bad
      | none => .bad
    | _ => .bad
  | none => .bad

def repeatL {α : Type} (z : List α) : Nat → List α
  | 0 => []
  | n + 1 => z ++ repeatL z n

def buildSliceO (T : Tab) (H : Hp) (dst : Option Nat) (t len : Nat) (parts : List (Nat × AV)) : OpOut :=
  match dst, T.get t with
  | some d, some { d := .slice e, .. } => match T.get e with
    | some te => bif Nat.ble (len * te.size) 16777216 then (match fillA (fun i => some (i * te.size, te.size)) (repeatL (fL te.zero) len) parts with
      | some cs => match H d with
        | (g, _) => .ok (.lsl d (g + 1) te.size 0 len (some len)) [(d, g + 1, .vr cs)]
      | none => .bad) else .bad
    | none => .bad
  | _, _ => .bad

def makeO (T : Tab) (H : Hp) (dst : Option Nat) (t : Nat) (l c : AV) : OpOut :=
  match dst, T.get t with
  | some d, some { d := .slice e, .. } => match T.get e with
    | some te => match l, c with
      | .f (.int .i64 l), .f (.int .i64 c) => match H d with
        | (g, _) => .chk (0 ≤ l ∧ l ≤ c ∧ (te.bytes : Int) * c ≤ 281474976710656 ∧ c ≤ 9223372036854775807) (.lsl d (g + 1) te.size 0 l.toNat (some c.toNat)) [(d, g + 1, .fa te.size c.toNat (fun _ => te.zero))]
      | _, _ => .bad
    | none => .bad
  | _, _ => .bad

def capSub : Option Nat → Nat → Option Nat
  | none, _ => none
  | some c, n => some (c - n)

/-- x[lo:hi:max] of a slice -/
def sliceO (T : Tab) (t : Nat) (x : AV) (lo hi mx : Option AV) : OpOut :=
  match T.get t with
  | some { d := .slice e, .. } => match T.get e with
    | some te => match x, lo, hi, mx with
      | .f (.sl sz at_ len cap), none, some (.f (.int _ h)), none => bif Nat.beq te.size sz then .chk (0 ≤ h ∧ h ≤ len) (.f (.sl sz at_ h.toNat cap)) [] else .bad
      | .f (.sl sz at_ len cap), some (.f (.int _ l)), none, none => bif Nat.beq te.size sz then .chk (0 ≤ l ∧ l ≤ len) (.f (.sl sz (fun j => at_ (l.toNat + j)) (len - l.toNat) (capSub cap l.toNat))) [] else .bad
      | .f (.sl sz at_ len cap), some (.f (.int _ l)), some (.f (.int _ h)), none => bif Nat.beq te.size sz then .chk (0 ≤ l ∧ l ≤ h ∧ h ≤ len) (.f (.sl sz (fun j => at_ (l.toNat + j)) (h.toNat - l.toNat) (capSub cap l.toNat))) [] else .bad
      | .lsl d g sz i len cap, none, some (.f (.int _ h)), none => bif Nat.beq te.size sz then .chk (0 ≤ h ∧ h ≤ len) (.lsl d g sz i h.toNat cap) [] else .bad
      | .lsl d g sz i len cap, some (.f (.int _ l)), none, none => bif Nat.beq te.size sz then .chk (0 ≤ l ∧ l ≤ len) (.lsl d g sz (i + l.toNat) (len - l.toNat) (capSub cap l.toNat)) [] else .bad
      | .lsl d g sz i len cap, some (.f (.int _ l)), some (.f (.int _ h)), none => bif Nat.beq te.size sz then .chk (0 ≤ l ∧ l ≤ h ∧ h ≤ len) (.lsl d g sz (i + l.toNat) (h.toNat - l.toNat) (capSub cap l.toNat)) [] else .bad
      | .lsl d g sz i len cap, none, some (.f (.int _ h)), some (.f (.int _ m)) => bif Nat.beq te.size sz then .chk (0 ≤ h ∧ h ≤ m ∧ m ≤ len) (.lsl d g sz i h.toNat (some m.toNat)) [] else .bad
      | _, _, _, _ => .bad
    | none => .bad
  | _ => .bad

def fieldOf : List (Nat × Nat) → Nat → Option (Nat × Nat)
  | [], _ => none
  | x :: _, 0 => some x
  | _ :: r, n + 1 => fieldOf r n

def fieldAddrO (T : Tab) (s : Nat) (x : AV) (f : Nat) : OpOut :=
  match T.get s with
  | some { d := .struct fs, .. } => match fieldOf fs f with
    | some (off, t) => match T.get t with
      | some ti => bif Nat.beq ti.size 0 then .bad else (match x with
        | .f (.ptr cells) => .ok (.f (.ptr (cells.drop off))) []
        | .lptr d g sz i sub => .ok (.lptr d g sz i (sub + off)) []
        | _ => .bad)
      | none => .bad
    | none => .bad
  | _ => .bad

def fieldO (T : Tab) (s : Nat) (x : AV) (f : Nat) : OpOut :=
  match T.get s with
  | some { d := .struct fs, .. } => match fieldOf fs f with
    | some (off, t) => match T.get t with
      | some ti => match x with
        | .agg cs => bif Nat.ble (off + ti.size) cs.length then (match mkV ti.d.isAgg ((cs.drop off).take ti.size) with | some v => .ok v [] | none => .bad) else .bad
        | _ => .bad
      | none => .bad
    | none => .bad
  | _ => .bad

def indexAddrO (T : Tab) (t : Nat) (x i : AV) : OpOut :=
  match T.get t, i with
  | some { d := .slice e, .. }, .f (.int _ i) => match T.get e with
    | some te => match x with
      | .f (.sl sz at_ len _) => bif Nat.beq te.size sz && Nat.blt 0 sz then .chk (0 ≤ i ∧ i < len) (.f (.ptr (at_ i.toNat))) [] else .bad
      | .lsl d g sz i0 len _ => bif Nat.beq te.size sz then .chk (0 ≤ i ∧ i < len) (.lptr d g sz (i0 + i.toNat) 0) [] else .bad
      | _ => .bad
    | none => .bad
  | some { d := .arr n e, .. }, .f (.int _ i) => match T.get e with
    | some te => match x with
      | .f (.ptr cells) => .chk (0 ≤ i ∧ i < n) (.f (.ptr (cells.drop (i.toNat * te.size)))) []
      | .lptr d g sz i0 sub => .chk (0 ≤ i ∧ i < n) (.lptr d g sz i0 (sub + i.toNat * te.size)) []
      | _ => .bad
    | none => .bad
  | _, _ => .bad

def byteAt (s : ByteArray) (i : Nat) : Int := match s[i]? with | some b => (b.toNat : Int) | none => 0

def indexO (T : Tab) (t : Nat) (x i : AV) : OpOut :=
  match T.get t, i with
  | some { d := .str, .. }, .f (.int _ i) => match x with
    | .f (.str s) => .chk (0 ≤ i ∧ i < s.size) (.f (.int .u8 (byteAt s i.toNat))) []
    | _ => .bad
  | some { d := .arr n e, .. }, .f (.int _ i) => match T.get e with
    | some te => match x with
      | .agg cs => bif Nat.ble (i.toNat * te.size + te.size) cs.length then (match mkV te.d.isAgg ((cs.drop (i.toNat * te.size)).take te.size) with | some v => .chk (0 ≤ i ∧ i < n) v [] | none => .bad) else .bad
      | _ => .bad
    | none => .bad
  | _, _ => .bad

def nthA : List AV → Nat → Option AV
  | [], _ => none
  | v :: _, 0 => some v
  | _ :: r, n + 1 => nthA r n

def extractO (x : AV) (n : Nat) : OpOut :=
  match x with
  | .tup vs => match nthA vs n with | some v => .ok v [] | none => .bad
  | _ => .bad

def intBitsA (op : BinOp) (k : IntKind) (x y : Int) : Int :=
  let a := BitVec.ofInt k.bits x
  let b := BitVec.ofInt k.bits y
  match op with
  | .and => k.wrap (a &&& b).toNat
  | .or => k.wrap (a ||| b).toNat
  | .xor => k.wrap (a ^^^ b).toNat
  | _ => k.wrap (a &&& ~~~b).toNat

def eqInts : List AV → List AV → Option Prop
  | [], [] => some True
  | [.f (.int k a)], [.f (.int k' b)] => bif k == k' then some (a = b) else none
  | .f (.int k a) :: r, .f (.int k' b) :: s => bif k == k' then (match eqInts r s with | some p => some (a = b ∧ p) | none => none) else none
  | _, _ => none

def binO (T : Tab) (op : BinOp) (t : Nat) (x y : AV) : OpOut :=
  match x, y with
  | .f (.int k a), .f (.int k' b) => match op with
    | .shl => .chk (0 ≤ b) (.f (.int k (k.wrap (a * 2 ^ (min b.toNat k.bits))))) []
    | .shr => .chk (0 ≤ b) (.f (.int k (a.fdiv (2 ^ (min b.toNat k.bits))))) []
    | .add => bif k == k' then .ari k (a + b) else .bad
    | .sub => bif k == k' then .ari k (a - b) else .bad
    | .mul => bif k == k' then .ari k (a * b) else .bad
    | .quo => bif k == k' then .chk (b ≠ 0) (.f (.int k (k.wrap (a.tdiv b)))) [] else .bad
    | .rem => bif k == k' then .chk (b ≠ 0) (.f (.int k (a.tmod b))) [] else .bad
    | .eql => bif k == k' then .ok (.f (.bool (decide (a = b)))) [] else .bad
    | .neq => bif k == k' then .ok (.f (.bool (!decide (a = b)))) [] else .bad
    | .lss => bif k == k' then .ok (.f (.bool (decide (a < b)))) [] else .bad
    | .leq => bif k == k' then .ok (.f (.bool (decide (a ≤ b)))) [] else .bad
    | .gtr => bif k == k' then .ok (.f (.bool (decide (a > b)))) [] else .bad
    | .geq => bif k == k' then .ok (.f (.bool (decide (a ≥ b)))) [] else .bad
    | .and => bif k == k' then .ok (.f (.int k (intBitsA .and k a b))) [] else .bad
    | .or => bif k == k' then .ok (.f (.int k (intBitsA .or k a b))) [] else .bad
    | .xor => bif k == k' then .ok (.f (.int k (intBitsA .xor k a b))) [] else .bad
    | .andNot => bif k == k' then .ok (.f (.int k (intBitsA .andNot k a b))) [] else .bad
  | .f (.bool a), .f (.bool b) => match T.get t with
    | some { d := .bool, .. } => match op with
      | .eql => .ok (.f (.bool (a == b))) []
      | .neq => .ok (.f (.bool (!(a == b)))) []
      | _ => .bad
    | _ => .bad
  | _, _ => .bad

def unO (op : UnOp) (x : AV) : OpOut :=
  match op, x with
  | .not, .f (.bool b) => .ok (.f (.bool !b)) []
  | .neg, .f (.int k n) => .ari k (0 - n)
  | .xor, .f (.int k n) => .ok (.f (.int k (intBitsA .xor k (if k.signed then -1 else k.max) n))) []
  | _, _ => .bad

def convO (T : Tab) (dst : Nat) (x : AV) : OpOut :=
  match T.get dst, x with
  | some { d := .int k, .. }, .f (.int _ n) => .ari k n
  | _, _ => .bad

/-- the contents of a block from element i on: how many there are, and what they hold -/
def Blk.view : Blk → Nat → Nat → Option (Nat × (Nat → List FV))
  | .fa sz n at_, sz', i | .fz sz n at_, sz', i => bif Nat.beq sz sz' then some (n - i, fun j => at_ (i + j)) else none
  | .vr cells, sz, i => match FV.toL cells with
    | some l => bif Nat.beq sz 0 then none else some (l.length / sz - i, fun j => (l.drop ((i + j) * sz)).take sz)
    | none => none
  | .dead, _, _ => none

/-- is there room for an append (Go's own bounds) -/
def roomA (cap : Option Nat) (need bytes : Nat) : Prop :=
  match cap with
  | some c => need ≤ c ∨ Builtin.nextslicecap need c * bytes ≤ 281474976710656
  | none => need * bytes ≤ 140737488355328

/-- what is appended: how many, what, on what condition -/
def srcO (T : Tab) (H : Hp) (te : TI) (tx : Nat) (x : AV) : Option (Nat × (Nat → List FV) × Prop) :=
  match T.get tx with
  | some { d := .slice _, .. } => match x with
    | .f (.sl sz at_ n _) => bif Nat.beq sz te.size && Nat.blt 0 sz then some (n, at_, True) else none
    | .lsl d g sz i n _ => match H d with
      | (g', b) => bif Nat.beq g' g && Nat.beq sz te.size && Nat.blt 0 sz then (match b.view sz i with | some (c, at_) => some (n, at_, n ≤ c) | none => none) else none
    | _ => none
  | _ => none

/-- append(s, x...): x as data -/
def appendO (T : Tab) (H : Hp) (dst : Option Nat) (t tx : Nat) (s x : AV) : OpOut :=
  match dst, T.get t with
  | some k, some { d := .slice e, .. } => match T.get e with
    | some te => match srcO T H te tx x with
      | none => .bad
      | some (n, at2, c2) => match s with
        | .f (.sl sz _ 0 (some 0)) => bif Nat.beq sz te.size then (match H k with
          | (g, _) => .chk (c2 ∧ n ≤ 9223372036854775807 ∧ n * te.bytes ≤ 281474976710656) (.lsl k (g + 1) sz 0 n none) [(k, g + 1, .fa sz n at2)]) else .bad
        | .lsl d g sz 0 len cap => match H d with
          | (g', b) => bif Nat.beq g' g && Nat.beq sz te.size && b.own then (match b.view sz 0 with
            | some (c, at_) => match H k with
              | (gk, _) => .chk (c2 ∧ len ≤ c ∧ len + n ≤ 9223372036854775807 ∧ roomA cap (len + n) te.bytes)
                  (.lsl k (gk + 1) sz 0 (len + n) none) [(d, g, .dead), (k, gk + 1, .fa sz (len + n) (fun j => if j < len then at_ j else at2 (j - len)))]
            | none => .bad) else .bad
        | _ => .bad
    | none => .bad
  | _, _ => .bad

def lenO (T : Tab) (t : Nat) (x : AV) : OpOut :=
  match T.get t with
  | some { d := .slice _, .. } => match x with
    | .f (.sl _ _ len _) | .lsl _ _ _ _ len _ => .ok (.f (.int .i64 len)) []
    | _ => .bad
  | some { d := .str, .. } => match x with
    | .f (.str s) => .ok (.f (.int .i64 s.size)) []
    | _ => .bad
  | _ => .bad
def capO (T : Tab) (t : Nat) (x : AV) : OpOut :=
  match T.get t with
  | some { d := .slice _, .. } => match x with
    | .f (.sl _ _ _ (some c)) | .lsl _ _ _ _ _ (some c) => .ok (.f (.int .i64 c)) []
    | _ => .bad
  | _ => .bad
def maxO : List AV → OpOut
  | [.f (.int k a), .f (.int k' b)] => .ok (.f (.int k (if b > a then b else a))) []
  | _ => .bad
def minO : List AV → OpOut
  | [.f (.int k a), .f (.int k' b)] => .ok (.f (.int k (if b < a then b else a))) []
  | _ => .bad

def nilO (x : AV) : OpOut :=
  match x with
  | .f (.ptr cells) => .ok (.f (.ptr cells)) []
  | .lptr d g sz i sub => .ok (.lptr d g sz i sub) []
  | _ => .bad

end Go.Abs
