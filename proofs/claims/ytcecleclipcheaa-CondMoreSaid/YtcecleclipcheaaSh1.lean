/-
  The shadow: a heap-free reading of the model's code. Values whose slices are lists; boxes named by the slot that made them. Definitions alone.
-/
import Derived.Below
import Derived.OwnWalk
set_option linter.unusedVariables false
namespace Go.Shade
open Go

/-- A shadow value. 'sl': a slice that is read alone; 'ap': one that may be appended to (token l t); 'row': one whose elements may be written; 'ptr', 'rptr', 'eptr': pointers into a box, a row's element, an element that is read alone. -/
inductive V where
  | int (k : IntKind) (n : Int)
  | bool (b : Bool)
  | str (s : ByteArray)
  | sl (sz : Nat) (rows : List (List V))
  | nl (sz : Nat)
  | ap (l t sz : Nat) (rows : List (List V))
  | row (l t : Nat)
  | ptr (l t o : Nat)
  | rptr (l t i o : Nat)
  | eptr (cells : List V) (o : Nat)
  | mp (l t : Nat)
  | fn (f : FuncId) (first caps : List V)
  | ifc (T : TypeId) (x : V)
  | nili
  | nilp
  | nilm
  | nilf
  | agg (cs : List V)
  | tup (vs : List V)
  | dead
  deriving Inhabited

/-- A box of a frame. -/
inductive B where
  | cells (cs : List V)
  | tok (e sz n : Nat)
  | row (sz : Nat) (xs : List (List V))
  | fz (sz : Nat) (xs : List (List V))
  | smap (es : List (ByteArray × V))
  | imap (es : List (Int × V))
  deriving Inhabited

abbrev Fr := List (Nat × B)
abbrev Stk := List Fr

structure St where
  tm : List (Nat × V)
  stk : Stk

def look {α : Type} : List (Nat × α) → Nat → Option α
  | [], _ => none
  | (a, x) :: r, b => if a = b then some x else look r b

/-- Descending by slot; replaces. -/
def ins {α : Type} (d : Nat) (v : α) : List (Nat × α) → List (Nat × α)
  | [] => [(d, v)]
  | (a, x) :: r => if a < d then (d, v) :: (a, x) :: r else if a = d then (d, v) :: r else (a, x) :: ins d v r

def lookB : Stk → Nat → Nat → Option B
  | [], _, _ => none
  | f :: _, 0, t => look f t
  | _ :: r, l + 1, t => lookB r l t

/-- Replaces a box that is there. -/
def setB : Stk → Nat → Nat → B → Stk
  | [], _, _, _ => []
  | f :: r, 0, t, b => ins t b f :: r
  | f :: r, l + 1, t, b => f :: setB r l t b

/-- A new box of the frame on top. -/
def newB : Stk → Nat → B → Stk
  | [], _, _ => []
  | f :: r, t, b => ins t b f :: r

mutual
/-- A value seen from k frames further in. -/
def V.sh (k : Nat) : V → V
  | .ap l t sz r => .ap (l + k) t sz r
  | .row l t => .row (l + k) t
  | .ptr l t o => .ptr (l + k) t o
  | .rptr l t i o => .rptr (l + k) t i o
  | .mp l t => .mp (l + k) t
  | .fn f a b => .fn f (V.shL k a) (V.shL k b)
  | .ifc T x => .ifc T (V.sh k x)
  | .agg cs => .agg (V.shL k cs)
  | .tup cs => .tup (V.shL k cs)
  | v => v
def V.shL (k : Nat) : List V → List V
  | [] => []
  | v :: r => V.sh k v :: V.shL k r
end

mutual
/-- A value seen from k frames further out; none: it speaks of a frame that is gone. -/
def V.un (k : Nat) : V → Option V
  | .ap l t sz r => if k ≤ l then some (.ap (l - k) t sz r) else some (.sl sz r)
  | .row l t => if k ≤ l then some (.row (l - k) t) else none
  | .ptr l t o => if k ≤ l then some (.ptr (l - k) t o) else none
  | .rptr l t i o => if k ≤ l then some (.rptr (l - k) t i o) else none
  | .mp l t => if k ≤ l then some (.mp (l - k) t) else none
  | .fn f a b => match V.unL k a, V.unL k b with
    | some a, some b => some (.fn f a b)
    | _, _ => none
  | .ifc T x => match V.un k x with
    | some x => some (.ifc T x)
    | none => none
  | .agg cs => match V.unL k cs with
    | some cs => some (.agg cs)
    | none => none
  | .tup cs => match V.unL k cs with
    | some cs => some (.tup cs)
    | none => none
  | v => some v
def V.unL (k : Nat) : List V → Option (List V)
  | [] => some []
  | v :: r => match V.un k v, V.unL k r with
    | some v, some r => some (v :: r)
    | _, _ => none
end

/-- from level l, seen from the top -/
def V.up : Nat → V → V
  | 0, v => v
  | k + 1, v => v.sh (k + 1)
def V.down : Nat → V → Option V
  | 0, v => some v
  | k + 1, v => v.un (k + 1)

/-- A slice, read alone. -/
def asSl (stk : Stk) : V → Option (Nat × List (List V))
  | .sl sz r => some (sz, r)
  | .nl sz => some (sz, [])
  | .ap _ _ sz r => some (sz, r)
  | .row l t => match lookB stk l t with
    | some (.row sz xs) => some (sz, xs)
    | some (.fz sz xs) => some (sz, xs)
    | _ => none
  | _ => none

/-- A slice that is read alone. -/
def asRd (stk : Stk) : V → Option (Nat × List (List V))
  | .sl sz r => some (sz, r)
  | .nl sz => some (sz, [])
  | .ap _ _ sz r => some (sz, r)
  | .row l t => match lookB stk l t with
    | some (.fz sz xs) => some (sz, xs)
    | _ => none
  | _ => none

mutual
/-- What is handed over: slices are read alone from here on. -/
def V.co (stk : Stk) : V → Option V
  | .nl sz => some (.sl sz [])
  | .ap _ _ sz r => some (.sl sz r)
  | .row l t => match lookB stk l t with
    | some (.fz sz xs) => some (.sl sz xs)
    | _ => none
  | .agg cs => match V.coL stk cs with
    | some cs => some (.agg cs)
    | none => none
  | .tup cs => match V.coL stk cs with
    | some cs => some (.tup cs)
    | none => none
  | .ifc T x => match V.co stk x with
    | some x => some (.ifc T x)
    | none => none
  | v => some v
def V.coL (stk : Stk) : List V → Option (List V)
  | [] => some []
  | v :: r => match V.co stk v, V.coL stk r with
    | some v, some r => some (v :: r)
    | _, _ => none
end

mutual
/-- The rows that a value holds are frozen. -/
def V.fzS : V → Stk → Stk
  | .row l t, stk => match lookB stk l t with
    | some (.row sz xs) => setB stk l t (.fz sz xs)
    | _ => stk
  | .agg cs, stk => V.fzL cs stk
  | .tup cs, stk => V.fzL cs stk
  | .ifc _ x, stk => V.fzS x stk
  | _, stk => stk
def V.fzL : List V → Stk → Stk
  | [], stk => stk
  | v :: r, stk => V.fzL r (V.fzS v stk)
end

/-- May a cell of a slice that is read alone be this? -/
def V.pure : V → Bool
  | .int _ _ | .bool _ | .str _ | .sl _ _ => true
  | _ => false

def V.atom : V → Bool
  | .agg _ | .tup _ | .dead => false
  | _ => true


/-! ### types -/
section types
variable (P : Program)
def slSz (t : TypeId) : Option Nat :=
  match P.underlying t with
  | some (.slice e) => (P.info? e).map (·.size)
  | _ => none
/-- A slice's element type and cells, where it may grow. -/
def slTy (t : TypeId) : Option (TypeId × Nat) :=
  match P.underlying t with
  | some (.slice e) => match P.info? e with
    | some i => match i.zero with
      | some z => if z.cells.size = i.size ∧ 0 < i.size ∧ i.bytes ≤ 32768 ∧ i.size ≤ 64 then some (e, i.size) else none
      | none => none
    | none => none
  | _ => none
def slEl (t : TypeId) : Option TypeId :=
  match P.underlying t with
  | some (.slice e) => some e
  | _ => none
/-- the cells of one variable of this type; true: it is one value of several cells -/
def tyAg (t : TypeId) : Option (Bool × Nat) :=
  match P.underlying t, P.info? t with
  | some (.struct _), some i => if i.size = 0 then none else some (true, i.size)
  | some (.array _ _), some i => if i.size = 0 then none else some (true, i.size)
  | some _, some i => if i.size = 1 then some (false, 1) else none
  | _, _ => none
def fdOff (t : TypeId) (i : Nat) : Option Nat :=
  match P.underlying t with
  | some (.struct fs) => match fs[i]? with
    | some f => match P.info? f.type with
      | some j => if j.size = 0 then none else some f.offset
      | none => none
    | none => none
  | _ => none
/-- where a part lies: its place, its cells -/
def fdPl (t : TypeId) (i : Nat) : Option (Nat × Nat) :=
  match P.underlying t with
  | some (.struct fs) => if fs.toList.all fun f => (P.info? f.type).isSome then match fs[i]? with
    | some f => (P.info? f.type).map fun j => (f.offset, j.size)
    | none => none
    else none
  | some (.array n e) => (P.info? e).map fun j => (i * j.size, j.size)
  | _ => none
/-- an array of values of one cell: its length -/
def arrOne (t : TypeId) : Option Nat :=
  match P.underlying t with
  | some (.array n e) => match tyAg P e with
    | some (false, _) => some n
    | _ => none
  | _ => none
/-- 1: a string, 2: a slice, 3: a map -/
def kdT (t : TypeId) : Nat :=
  match P.underlying t with
  | some .string => 1
  | some (.slice _) => 2
  | some (.map _ _) => 3
  | _ => 0
def arrLen (t : TypeId) : Option (Nat × Nat) :=
  match P.underlying t with
  | some (.array n e) => match P.info? e with
    | some i => if 2 ≤ n then some (n, i.size) else none
    | none => none
  | _ => none

def zeroV : Nat → TypeId → Option (List V)
  | 0, _ => none
  | d + 1, t =>
    match P.underlying t with
    | some (.int k) => some [.int k 0]
    | some .bool => some [.bool false]
    | some .string => some [.str ByteArray.empty]
    | some (.slice e) => (P.info? e).map fun i => [.nl i.size]
    | some (.pointer _) => some [.nilp]
    | some (.map _ _) => some [.nilm]
    | some (.interface _) => some [.nili]
    | some (.func _ _ _) => some [.nilf]
    | some (.struct fs) => fs.toList.foldr (fun f r => match zeroV d f.type, r with | some a, some b => some (a ++ b) | _, _ => none) (some [])
    | some (.array n e) => (zeroV d e).map fun a => (List.replicate n a).flatten
    | _ => none

/-- Is a value without memory this shadow? -/
def sameZ : V → Value → Bool
  | .int k n, .int k' n' => k == k' && n == n'
  | .bool b, .bool b' => b == b'
  | .str s, .string s' => s.data == s'.data
  | .nl _, .slice none 0 0 => true
  | .nilp, .pointer none => true
  | .nilm, .map none => true
  | .nili, .nilIface => true
  | .nilf, .nilFunc => true
  | _, _ => false
def sameZs : List V → List Value → Bool
  | [], [] => true
  | a :: r, b :: q => sameZ a b && sameZs r q
  | _, _ => false
/-- The zero value's cells. -/
def zeroC (t : TypeId) : Option (List V) :=
  match zeroV P 20 t, P.info? t with
  | some cs, some i => match i.zero with
    | some z => if sameZs cs z.cells.toList && i.size == cs.length then some cs else none
    | none => none
  | _, _ => none
end types

/-! ### operands -/
def ofConst : Value → Option V
  | .int k n => some (.int k n)
  | .bool b => some (.bool b)
  | .string s => some (.str s)
  | .slice none 0 0 => some (.nl 0)
  | .nilIface => some .nili
  | .nilFunc => some .nilf
  | .pointer none => some .nilp
  | _ => none

def opd (tm : List (Nat × V)) : Operand → Option V
  | .tmp t => look tm t
  | .const v => ofConst v
  | .func f => some (.fn f [] [])
  | .global _ => none

def opds (tm : List (Nat × V)) : List Operand → Option (List V)
  | [] => some []
  | x :: r => match opd tm x, opds tm r with
    | some v, some vs => some (v :: vs)
    | _, _ => none

def fixNl (P : Program) (t : TypeId) : V → V
  | .nl s => .nl ((slSz P t).getD s)
  | v => v

/-- The cells of a value. -/
def V.cs : V → List V
  | .agg cs => cs
  | .tup _ => []
  | .dead => []
  | v => [v]

/-- A variable's value out of the cells from its own on. -/
def ldV (P : Program) (t : TypeId) (cs : List V) : Option V :=
  match tyAg P t with
  | some (true, n) => if n ≤ cs.length then some (.agg (cs.take n)) else none
  | some (false, _) => cs.head?
  | none => none

def spl {α : Type} (cs : List α) (o : Nat) (xs : List α) : List α := cs.take o ++ xs ++ cs.drop (o + xs.length)

def fillV (P : Program) (t : TypeId) : List V → List (Nat × V) → Option (List V)
  | cs, [] => some cs
  | cs, (i, v) :: r => match fdPl P t i with
    | some (o, n) => if v.cs.length = n ∧ 0 < n ∧ o + n ≤ cs.length then fillV P t (spl cs o v.cs) r else none
    | none => none

/-- The elements of a literal, in order, all of them. -/
def elemsV (stk : Stk) (sz : Nat) : Nat → List (Nat × V) → Option (List (List V))
  | _, [] => some []
  | i, (j, v) :: r => if i = j then
      match V.co stk v with
      | some v => if v.cs.length = sz && v.cs.all V.pure then
          match elemsV stk sz (i + 1) r with
          | some q => some (v.cs :: q)
          | none => none
        else none
      | none => none
    else none

/-! ### arithmetic, comparison -/
def strLt (a b : ByteArray) : Bool := Op.bytesLess a.toList b.toList
def strEq (a b : ByteArray) : Bool := a.toList == b.toList

/-- How '==' compares two values of a type: bools, interfaces against nil, structs of plain cells by their kinds (0: bool, 1: int, 2: string). -/
inductive EqK where
  | no
  | bool
  | ifc
  | flat (ks : List Nat)

def flatF (P : Program) : List Field → Nat → Option (List Nat)
  | [], _ => some []
  | f :: fs, o => if f.name ≠ "_" ∧ f.offset = o then
      match P.underlying f.type, flatF P fs (o + 1) with
      | some .bool, some ks => some (0 :: ks)
      | some (.int _), some ks => some (1 :: ks)
      | some .string, some ks => some (2 :: ks)
      | _, _ => none
    else none
def eqK (P : Program) (t : TypeId) : EqK :=
  match P.underlying t with
  | some .bool => .bool
  | some (.interface _) => .ifc
  | some (.struct fs) => match flatF P fs.toList 0 with
    | some ks => if P.stoodInHeld t = false ∧ P.eqGuardType P.depth t = false then .flat ks else .no
    | none => .no
  | _ => .no

def eqV : Nat → V → V → Option Bool
  | 0, .bool a, .bool b => some (a == b)
  | 1, .int k a, .int k' b => if k = k' then some (decide (a = b)) else none
  | 2, .str a, .str b => some (strEq a b)
  | _, _, _ => none
def and2 : Option Bool → Option Bool → Option Bool
  | some x, some y => some (x && y)
  | _, _ => none
def eqVL : List Nat → List V → List V → Option Bool
  | [], [], [] => some true
  | κ :: ks, a :: r, b :: q => and2 (eqV κ a b) (eqVL ks r q)
  | _, _, _ => none

def arV (op : BinOp) (k : IntKind) (a b : Int) : Option V :=
  match op with
  | .add => some (.int k (k.wrap (a + b)))
  | .sub => some (.int k (k.wrap (a - b)))
  | .mul => some (.int k (k.wrap (a * b)))
  | .quo => if b = 0 then none else some (.int k (k.wrap (a.tdiv b)))
  | .rem => if b = 0 then none else some (.int k (a.tmod b))
  | .eql => some (.bool (decide (a = b)))
  | .neq => some (.bool (!decide (a = b)))
  | .lss => some (.bool (decide (a < b)))
  | .leq => some (.bool (decide (a ≤ b)))
  | .gtr => some (.bool (decide (b < a)))
  | .geq => some (.bool (decide (b ≤ a)))
  | _ => none

def stV (op : BinOp) (a b : ByteArray) : Option V :=
  match op with
  | .add => if a.size + b.size ≤ 4611686018427387904 then some (.str (a ++ b)) else none
  | .eql => some (.bool (strEq a b))
  | .neq => some (.bool (!strEq a b))
  | .lss => some (.bool (strLt a b))
  | .leq => some (.bool (strLt a b || strEq a b))
  | .gtr => some (.bool (!strLt a b && !strEq a b))
  | .geq => some (.bool (!strLt a b))
  | _ => none

def eqR (op : BinOp) (r : Option Bool) : Option V :=
  match op with
  | .eql => r.map .bool
  | .neq => r.map fun b => .bool (!b)
  | _ => none
/-- c: one of the operands is a literal. -/
def biN (K : EqK) (c : Bool) (op : BinOp) : V → V → Option V
  | .int k a, .int k' b => if k = k' then arV op k a b else none
  | .str a, .str b => stV op a b
  | .bool a, .bool b => match K with
    | .bool => eqR op (some (a == b))
    | _ => none
  | .nili, .nili => match K, c with
    | .ifc, true => eqR op (some true)
    | _, _ => none
  | .nili, .ifc _ _ => match K with
    | .ifc => eqR op (some false)
    | _ => none
  | .ifc _ _, .nili => match K with
    | .ifc => eqR op (some false)
    | _ => none
  | .agg a, .agg b => match K with
    | .flat ks => eqR op (eqVL ks a b)
    | _ => none
  | _, _ => none

def unV (op : UnOp) : V → Option V
  | .bool b => match op with
    | .not => some (.bool (!b))
    | _ => none
  | .int k n => match op with
    | .neg => some (.int k (k.wrap (0 - n)))
    | _ => none
  | _ => none

def bytesV : List (List V) → Option (List UInt8)
  | [] => some []
  | [.int .u8 n] :: r => match bytesV r with
    | some q => some (UInt8.ofNat n.toNat :: q)
    | none => none
  | _ => none

def cvV (P : Program) (stk : Stk) (src dst : TypeId) (x : V) : Option V :=
  match P.underlying src, P.underlying dst, x with
  | some (.int _), some (.int k), .int _ n => some (.int k (k.wrap n))
  | some .string, some .string, .str s => some (.str s)
  | some (.slice e), some .string, x => match P.underlying e with
    | some (.int .u8) => match asSl stk x with
      | some (_, r) => (bytesV r).map fun l => .str ⟨l.toArray⟩
      | none => none
    | _ => none
  | _, _, _ => none

/-- Bounds of a slice expression: low, high. -/
def bdV (len : Nat) (lo hi : Option V) : Option (Nat × Nat) :=
  match lo, hi with
  | none, none => some (0, len)
  | some (.int _ l), none => if 0 ≤ l ∧ l ≤ len then some (l.toNat, len) else none
  | none, some (.int _ h) => if 0 ≤ h ∧ h ≤ len then some (0, h.toNat) else none
  | some (.int _ l), some (.int _ h) => if 0 ≤ l ∧ l ≤ h ∧ h ≤ len then some (l.toNat, h.toNat) else none
  | _, _ => none

def slV (P : Program) (stk : Stk) (t : TypeId) (x : V) (lo hi : Option V) : Option V :=
  match x with
  | .str s => if kdT P t = 1 then match bdV s.size lo hi with
    | some (l, h) => some (.str (s.extract l h))
    | none => none
    else none
  | x => match asRd stk x with
    | some (sz, r) => if slSz P t = some sz then match bdV r.length lo hi with
      | some (l, h) => some (.sl sz ((r.take h).drop l))
      | none => none
      else none
    | none => none

def ixA (P : Program) (stk : Stk) (t : TypeId) (x : V) (i : Int) : Option V :=
  match x with
  | .ptr l b o => match arrLen P t with
    | some (n, sz) => if 0 ≤ i ∧ i < n then some (.ptr l b (o + i.toNat * sz)) else none
    | none => none
  | .row l b => match lookB stk l b, slSz P t with
    | some (.row sz xs), some sz' => if sz = sz' ∧ 0 ≤ i ∧ i < xs.length then some (.rptr l b i.toNat 0) else none
    | some (.fz sz xs), some sz' => if sz = sz' ∧ 0 ≤ i then (xs[i.toNat]?).map fun r => .eptr r 0 else none
    | _, _ => none
  | x => match asSl stk x, slSz P t with
    | some (sz, xs), some sz' => if sz = sz' ∧ 0 ≤ i then (xs[i.toNat]?).map fun r => .eptr r 0 else none
    | _, _ => none

def ixV (P : Program) (t : TypeId) (x : V) (i : Int) : Option V :=
  match x with
  | .str s => if kdT P t = 1 then if 0 ≤ i then (s.data[i.toNat]?).map fun b => .int .u8 b.toNat else none else none
  | .agg cs => match arrOne P t with
    | some n => if 0 ≤ i ∧ i < n then cs[i.toNat]? else none
    | none => none
  | _ => none

def fdA (P : Program) (t : TypeId) (f : Nat) : V → Option V
  | .ptr l b o => (fdOff P t f).map fun k => .ptr l b (o + k)
  | .rptr l b i o => (fdOff P t f).map fun k => .rptr l b i (o + k)
  | .eptr cs o => (fdOff P t f).map fun k => .eptr cs (o + k)
  | _ => none

/-- What is read through a pointer. -/
def ldA (P : Program) (stk : Stk) (t : TypeId) : V → Option V
  | .ptr l b o => match lookB stk l b with
    | some (.cells cs) => (ldV P t (cs.drop o)).map (V.up l)
    | _ => none
  | .rptr l b i o => match lookB stk l b with
    | some (.row _ xs) => match xs[i]? with
      | some r => ldV P t (r.drop o)
      | none => none
    | some (.fz _ xs) => match xs[i]? with
      | some r => ldV P t (r.drop o)
      | none => none
    | _ => none
  | .eptr cs o => ldV P t (cs.drop o)
  | _ => none

/-- A store's stack. -/
def stA (P : Program) (stk : Stk) (t : TypeId) (a x : V) : Option Stk :=
  match tyAg P t with
  | some (_, n) => if x.cs.length = n then
      match a with
      | .ptr l b o => match lookB stk l b, V.down l x with
        | some (.cells cs), some x => if o + n ≤ cs.length then some (setB stk l b (.cells (spl cs o x.cs))) else none
        | _, _ => none
      | .rptr l b i o => match lookB stk l b, V.co stk x with
        | some (.row sz xs), some x => match xs[i]? with
          | some r => if o + n ≤ r.length ∧ x.cs.all V.pure then some (setB stk l b (.row sz (xs.set i (spl r o x.cs)))) else none
          | none => none
        | _, _ => none
      | _ => none
    else none
  | none => none

/-! ### maps -/
def mlook {κ : Type} [DecidableEq κ] : List (κ × V) → κ → Option V
  | [], _ => none
  | (a, x) :: r, b => if b = a then some x else mlook r b
def mput {κ : Type} [DecidableEq κ] (k : κ) (v : V) : List (κ × V) → List (κ × V)
  | [] => [(k, v)]
  | (a, x) :: r => if k = a then (a, v) :: r else (a, x) :: mput k v r

/-- the zero of a type whose values are one cell -/
def zero1 (P : Program) (t : TypeId) : List V :=
  match tyAg P t, zeroC P t with
  | some (false, _), some [z] => match (P.info? t).bind (·.zero) with
    | some (.agg _) => []
    | some (.tuple _) => []
    | _ => [z]
  | _, _ => []
def mpTy (P : Program) (t : TypeId) : Option (Bool × List V) :=   -- string keys?; the element's zero
  match P.underlying t with
  | some (.map k e) => match P.underlying k with
    | some .string => some (true, zero1 P e)
    | some (.int _) => some (false, zero1 P e)
    | _ => none
  | _ => none

def lkR (z : List V) (l : Nat) (ok : Bool) : Option V → Option V
  | some v => some (if ok then .tup [v.up l, .bool true] else v.up l)
  | none => match z with
    | [z] => some (if ok then .tup [z, .bool false] else z)
    | _ => none
def lkM (P : Program) (stk : Stk) (t : TypeId) (x k : V) (ok : Bool) : Option V :=
  match x, mpTy P t with
  | .mp l b, some (s, z) => match lookB stk l b, k, s with
    | some (.smap es), .str k, true => lkR z l ok (mlook es k)
    | some (.imap es), .int .i64 k, false => lkR z l ok (mlook es k)
    | _, _, _ => none
  | _, _ => none

def puM (P : Program) (stk : Stk) (t : TypeId) (x k v : V) : Option Stk :=
  match x, mpTy P t with
  | .mp l b, some (s, _) =>
    match lookB stk l b, k, s, V.down l v with
    | some (.smap es), .str k, true, some v => if v.atom = true then some (setB stk l b (.smap (mput k v es))) else none
    | some (.imap es), .int .i64 k, false, some v => if v.atom = true then some (setB stk l b (.imap (mput k v es))) else none
    | _, _, _, _ => none
  | _, _ => none

end Go.Shade
