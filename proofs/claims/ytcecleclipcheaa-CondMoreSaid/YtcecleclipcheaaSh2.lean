/-
  The shadow's runs: what a region, a code, a call come to, by a number of rounds; and the limit over all such numbers.
-/
import Derived.Test.YtcecleclipcheaaSh1
set_option linter.unusedVariables false
namespace Go.Shade
open Go

/-- Notes on a program: none of them is trusted. -/
structure An where
  loop : FuncId → Nat → Option (List Nat)
  grow : FuncId → List Nat
  apb : FuncId → List Nat
  rowb : FuncId → List Nat
  eff : FuncId → Nat → Bool

inductive Ex where
  | nm
  | ex (id : Nat)
  | rt
  deriving DecidableEq

abbrev Call := FuncId → List V → Stk → Option (V × Stk)

def headR : Code → Nat
  | .region id _ _ => id
  | .seq a _ => headR a
  | .block _ c => headR c
  | .loop c => headR c
  | _ => 0

/-! ### equality, as a test -/
mutual
def V.eqb : V → V → Bool
  | .int k n, .int k' n' => decide (k = k') && decide (n = n')
  | .bool b, .bool b' => decide (b = b')
  | .str s, .str s' => decide (s = s')
  | .sl z r, .sl z' r' => decide (z = z') && V.eqbM r r'
  | .nl z, .nl z' => decide (z = z')
  | .ap l t z r, .ap l' t' z' r' => decide (l = l') && decide (t = t') && decide (z = z') && V.eqbM r r'
  | .row l t, .row l' t' => decide (l = l') && decide (t = t')
  | .ptr l t o, .ptr l' t' o' => decide (l = l') && decide (t = t') && decide (o = o')
  | .rptr l t i o, .rptr l' t' i' o' => decide (l = l') && decide (t = t') && decide (i = i') && decide (o = o')
  | .eptr c o, .eptr c' o' => V.eqbL c c' && decide (o = o')
  | .mp l t, .mp l' t' => decide (l = l') && decide (t = t')
  | .fn f a b, .fn f' a' b' => decide (f = f') && V.eqbL a a' && V.eqbL b b'
  | .ifc T x, .ifc T' x' => decide (T = T') && V.eqb x x'
  | .nili, .nili => true
  | .nilp, .nilp => true
  | .nilm, .nilm => true
  | .nilf, .nilf => true
  | .agg c, .agg c' => V.eqbL c c'
  | .tup c, .tup c' => V.eqbL c c'
  | .dead, .dead => true
  | _, _ => false
def V.eqbL : List V → List V → Bool
  | [], [] => true
  | x :: r, y :: q => V.eqb x y && V.eqbL r q
  | _, _ => false
def V.eqbM : List (List V) → List (List V) → Bool
  | [], [] => true
  | x :: r, y :: q => V.eqbL x y && V.eqbM r q
  | _, _ => false
end
mutual
theorem V.eqb_eq : ∀ {x y : V}, V.eqb x y = true → x = y
  | x, y, h => by
    cases x <;> cases y <;> simp only [V.eqb, Bool.and_eq_true, decide_eq_true_eq, Bool.false_eq_true] at h <;> first
      | rfl
      | (cases h; done)
      | (simp only [h]; done)
      | (obtain ⟨h1, h2⟩ := h; simp only [h1, V.eqbM_eq h2]; done)
      | (obtain ⟨h1, h2⟩ := h; simp only [V.eqbL_eq h1, h2]; done)
      | (obtain ⟨h1, h2⟩ := h; simp only [h1, V.eqb_eq h2]; done)
      | (obtain ⟨⟨h1, h2⟩, h3⟩ := h; simp only [h1, V.eqbL_eq h2, V.eqbL_eq h3]; done)
      | (obtain ⟨h1, h2⟩ := h; simp only [h1, h2]; done)
      | (obtain ⟨⟨h1, h2⟩, h3⟩ := h; simp only [h1, h2, h3]; done)
      | (obtain ⟨⟨⟨h1, h2⟩, h3⟩, h4⟩ := h; simp only [h1, h2, h3, h4]; done)
      | (obtain ⟨⟨⟨h1, h2⟩, h3⟩, h4⟩ := h; simp only [h1, h2, h3, V.eqbM_eq h4]; done)
      | (simp only [V.eqbL_eq h])
theorem V.eqbL_eq : ∀ {x y : List V}, V.eqbL x y = true → x = y
  | [], [], _ => rfl
  | x :: r, y :: q, h => by
    simp only [V.eqbL, Bool.and_eq_true] at h
    rw [V.eqb_eq h.1, V.eqbL_eq h.2]
  | [], _ :: _, h => by simp [V.eqbL] at h
  | _ :: _, [], h => by simp [V.eqbL] at h
theorem V.eqbM_eq : ∀ {x y : List (List V)}, V.eqbM x y = true → x = y
  | [], [], _ => rfl
  | x :: r, y :: q, h => by
    simp only [V.eqbM, Bool.and_eq_true] at h
    rw [V.eqbL_eq h.1, V.eqbM_eq h.2]
  | [], _ :: _, h => by simp [V.eqbM] at h
  | _ :: _, [], h => by simp [V.eqbM] at h
end
mutual
theorem V.eqb_rfl : ∀ x : V, V.eqb x x = true
  | .int _ _ | .bool _ | .str _ | .nl _ | .row _ _ | .ptr _ _ _ | .rptr _ _ _ _ | .mp _ _ | .nili | .nilp | .nilm | .nilf | .dead => by simp [V.eqb]
  | .sl _ r => by simp [V.eqb, V.eqbM_rfl r]
  | .ap _ _ _ r => by simp [V.eqb, V.eqbM_rfl r]
  | .eptr c _ => by simp [V.eqb, V.eqbL_rfl c]
  | .fn _ a b => by simp [V.eqb, V.eqbL_rfl a, V.eqbL_rfl b]
  | .ifc _ x => by simp [V.eqb, V.eqb_rfl x]
  | .agg c => by simp [V.eqb, V.eqbL_rfl c]
  | .tup c => by simp [V.eqb, V.eqbL_rfl c]
theorem V.eqbL_rfl : ∀ x : List V, V.eqbL x x = true
  | [] => rfl
  | x :: r => by simp [V.eqbL, V.eqb_rfl x, V.eqbL_rfl r]
theorem V.eqbM_rfl : ∀ x : List (List V), V.eqbM x x = true
  | [] => rfl
  | x :: r => by simp [V.eqbM, V.eqbL_rfl x, V.eqbM_rfl r]
end
def B.eqS : List (ByteArray × V) → List (ByteArray × V) → Bool
  | [], [] => true
  | x :: r, y :: q => decide (x.1 = y.1) && V.eqb x.2 y.2 && B.eqS r q
  | _, _ => false
def B.eqI : List (Int × V) → List (Int × V) → Bool
  | [], [] => true
  | x :: r, y :: q => decide (x.1 = y.1) && V.eqb x.2 y.2 && B.eqI r q
  | _, _ => false
theorem B.eqS_eq : ∀ {x y : List (ByteArray × V)}, B.eqS x y = true → x = y
  | [], [], _ => rfl
  | (a, x) :: r, (b, y) :: q, h => by
    simp only [B.eqS, Bool.and_eq_true, decide_eq_true_eq] at h
    rw [h.1.1, V.eqb_eq h.1.2, B.eqS_eq h.2]
  | [], _ :: _, h => by simp [B.eqS] at h
  | _ :: _, [], h => by simp [B.eqS] at h
theorem B.eqI_eq : ∀ {x y : List (Int × V)}, B.eqI x y = true → x = y
  | [], [], _ => rfl
  | (a, x) :: r, (b, y) :: q, h => by
    simp only [B.eqI, Bool.and_eq_true, decide_eq_true_eq] at h
    rw [h.1.1, V.eqb_eq h.1.2, B.eqI_eq h.2]
  | [], _ :: _, h => by simp [B.eqI] at h
  | _ :: _, [], h => by simp [B.eqI] at h
theorem B.eqS_rfl : ∀ x : List (ByteArray × V), B.eqS x x = true
  | [] => rfl
  | (a, x) :: r => by simp [B.eqS, V.eqb_rfl x, B.eqS_rfl r]
theorem B.eqI_rfl : ∀ x : List (Int × V), B.eqI x x = true
  | [] => rfl
  | (a, x) :: r => by simp [B.eqI, V.eqb_rfl x, B.eqI_rfl r]
def B.eqb : B → B → Bool
  | .cells c, .cells c' => V.eqbL c c'
  | .tok e z n, .tok e' z' n' => decide (e = e') && decide (z = z') && decide (n = n')
  | .row z r, .row z' r' => decide (z = z') && V.eqbM r r'
  | .fz z r, .fz z' r' => decide (z = z') && V.eqbM r r'
  | .smap es, .smap es' => B.eqS es es'
  | .imap es, .imap es' => B.eqI es es'
  | _, _ => false
theorem B.eqb_eq {x y : B} (h : B.eqb x y = true) : x = y := by
  cases x <;> cases y <;> simp only [B.eqb, Bool.and_eq_true, decide_eq_true_eq, Bool.false_eq_true] at h
  case cells.cells => rw [V.eqbL_eq h]
  case tok.tok => rw [h.1.1, h.1.2, h.2]
  case row.row => rw [h.1, V.eqbM_eq h.2]
  case fz.fz => rw [h.1, V.eqbM_eq h.2]
  case smap.smap => rw [B.eqS_eq h]
  case imap.imap => rw [B.eqI_eq h]
theorem B.eqb_rfl (x : B) : B.eqb x x = true := by cases x <;> simp [B.eqb, V.eqbL_rfl, V.eqbM_rfl, B.eqS_rfl, B.eqI_rfl]
def frEq : Fr → Fr → Bool
  | [], [] => true
  | x :: r, y :: q => decide (x.1 = y.1) && B.eqb x.2 y.2 && frEq r q
  | _, _ => false
theorem frEq_eq : ∀ {x y : Fr}, frEq x y = true → x = y
  | [], [], _ => rfl
  | (a, x) :: r, (b, y) :: q, h => by
    simp only [frEq, Bool.and_eq_true, decide_eq_true_eq] at h
    rw [h.1.1, B.eqb_eq h.1.2, frEq_eq h.2]
  | [], _ :: _, h => by simp [frEq] at h
  | _ :: _, [], h => by simp [frEq] at h
theorem frEq_rfl : ∀ x : Fr, frEq x x = true
  | [] => rfl
  | (a, x) :: r => by simp [frEq, B.eqb_rfl x, frEq_rfl r]
def stkEq : Stk → Stk → Bool
  | [], [] => true
  | x :: r, y :: q => frEq x y && stkEq r q
  | _, _ => false
theorem stkEq_eq : ∀ {x y : Stk}, stkEq x y = true → x = y
  | [], [], _ => rfl
  | x :: r, y :: q, h => by
    simp only [stkEq, Bool.and_eq_true] at h
    rw [frEq_eq h.1, stkEq_eq h.2]
  | [], _ :: _, h => by simp [stkEq] at h
  | _ :: _, [], h => by simp [stkEq] at h
theorem stkEq_rfl : ∀ x : Stk, stkEq x x = true
  | [] => rfl
  | x :: r => by simp [stkEq, frEq_rfl x, stkEq_rfl r]

/-! ### pruning -/
mutual
def V.cl (f : Fr) : V → Option V
  | .ap 0 t sz r => match look f t with
    | some _ => some (.ap 0 t sz r)
    | none => some (.sl sz r)
  | .row 0 t => match look f t with
    | some _ => some (.row 0 t)
    | none => none
  | .ptr 0 t o => match look f t with
    | some _ => some (.ptr 0 t o)
    | none => none
  | .rptr 0 t i o => match look f t with
    | some _ => some (.rptr 0 t i o)
    | none => none
  | .mp 0 t => match look f t with
    | some _ => some (.mp 0 t)
    | none => none
  | .fn g a b => match V.clL f a, V.clL f b with
    | some a, some b => some (.fn g a b)
    | _, _ => none
  | .ifc T x => match V.cl f x with
    | some x => some (.ifc T x)
    | none => none
  | .agg cs => match V.clL f cs with
    | some cs => some (.agg cs)
    | none => none
  | .tup cs => match V.clL f cs with
    | some cs => some (.tup cs)
    | none => none
  | v => some v
def V.clL (f : Fr) : List V → Option (List V)
  | [] => some []
  | v :: r => match V.cl f v, V.clL f r with
    | some v, some r => some (v :: r)
    | _, _ => none
end

def clB (f : Fr) : B → Option B
  | .cells cs => match V.clL f cs with
    | some cs => some (.cells cs)
    | none => none
  | .smap es => if es.all fun e => e.2.pure then some (.smap es) else none
  | .imap es => if es.all fun e => e.2.pure then some (.imap es) else none
  | b => some b

/-- A nil slice, read alone. -/
def V.nls : V → V
  | .nl sz => .sl sz []
  | v => v
def keepT (ks : List Nat) (f : Fr) : List (Nat × V) → Option (List (Nat × V))
  | [] => some []
  | (a, x) :: r => if ks.contains a then
      match V.cl f x, keepT ks f r with
      | some x, some r => some ((a, x.nls) :: r)
      | _, _ => none
    else keepT ks f r
def keepF (ks : List Nat) : Fr → Fr
  | [] => []
  | (a, x) :: r => if ks.contains a then (a, x) :: keepF ks r else keepF ks r
def keepB (f : Fr) : Fr → Option Fr
  | [] => some []
  | (a, x) :: r => match clB f x, keepB f r with
    | some x, some r => some ((a, x) :: r)
    | _, _ => none

def prune (ks : Option (List Nat)) (S : St) : Option St :=
  match ks with
  | none => some S
  | some ks => match S.stk with
    | [] => none
    | f :: r => match keepT ks (keepF ks f) S.tm, keepB (keepF ks f) (keepF ks f) with
      | some tm, some f' => some ⟨tm, f' :: r⟩
      | _, _ => none

/-! ### operations -/
/-- A value that names no box. -/
def V.flat : V → Bool
  | .int _ _ | .bool _ | .str _ | .sl _ _ | .nl _ | .nili | .nilp | .nilm | .nilf => true
  | .ifc _ x => V.flat x
  | _ => false
def quietB : B → Bool
  | .cells cs => cs.all V.flat
  | .tok _ _ _ => false
  | .smap es => es.all fun e => e.2.flat
  | .imap es => es.all fun e => e.2.flat
  | _ => true
/-- What a quiet call sees: the boxes whose contents name no box. -/
def noTokQ : Option B → Bool
  | some b => quietB b
  | none => false
def noTokG (f : Fr) : Fr → Fr
  | [] => []
  | (a, b) :: r => if noTokQ (look f a) then (a, b) :: noTokG f r else noTokG f r
def noTokF (f : Fr) : Fr := noTokG f f
def noTok : Stk → Stk
  | [] => []
  | f :: r => noTokF f :: noTok r

mutual
/-- Are the boxes that a value names all there? -/
def V.okB (stk : Stk) : V → Bool
  | .ap _ _ _ _ => false
  | .row l t => (lookB stk l t).isSome
  | .ptr l t _ => (lookB stk l t).isSome
  | .rptr l t _ _ => (lookB stk l t).isSome
  | .mp l t => (lookB stk l t).isSome
  | .fn _ a b => V.okL stk a && V.okL stk b
  | .ifc _ x => V.okB stk x
  | .agg cs => V.okL stk cs
  | .tup cs => V.okL stk cs
  | _ => true
def V.okL (stk : Stk) : List V → Bool
  | [] => true
  | v :: r => V.okB stk v && V.okL stk r
end

def putD (d : Option Nat) (v : V) (tm : List (Nat × V)) : List (Nat × V) :=
  match d with
  | some d => ins d v tm
  | none => tm

/-- a new box, of a slot that has none -/
def mkV (stk : Stk) (d : Option Nat) (b : B) (v : Nat → V) : Option (V × Stk) :=
  match d with
  | some d => match stk, lookB stk 0 d with
    | _ :: _, none => some (v d, newB stk d b)
    | _, _ => none
  | none => none

/-- append's bound -/
def most : Nat := 4294967296

def appV (P : Program) (rd stk : Stk) (d : Option Nat) (t : TypeId) (s x : V) : Option (V × Stk) :=
  match slTy P t, asSl rd x with
  | some (e, sz), some (szx, ys) =>
    if szx = sz ∧ ys.length ≤ most then
      match s with
      | .ap l b sz' xs => match lookB stk l b with
        | some (.tok e' sz'' n) => if sz' = sz ∧ sz'' = sz ∧ e' = e ∧ n = xs.length ∧ xs.length + ys.length ≤ most then
            some (.ap l b sz (xs ++ ys), setB stk l b (.tok e sz (xs.length + ys.length)))
          else none
        | _ => none
      | .nl _ => if ys = [] then none else mkV stk d (.tok e sz ys.length) fun d => .ap 0 d sz ys
      | _ => none
    else none
  | _, _ => none

def lenV (rd : Stk) (κ : Nat) : V → Option V
  | .str s => if κ = 1 then some (.int .i64 s.size) else none
  | .mp l b => if κ = 3 then match lookB rd l b with
    | some (.smap es) => some (.int .i64 es.length)
    | some (.imap es) => some (.int .i64 es.length)
    | _ => none
    else none
  | x => if κ = 2 then match asSl rd x with
    | some (_, r) => some (.int .i64 r.length)
    | none => none
    else none
def goP (stk : Stk) : Option V → Option (V × Stk)
  | some v => some (v, stk)
  | none => none
def bltV (P : Program) (rd stk : Stk) (dst : Option Nat) (b : Builtin) (ts : Array TypeId) (vs : List V) : Option (V × Stk) :=
  match b, vs with
  | .len, [x] => match ts[0]? with
    | some t => goP stk (lenV rd (kdT P t) x)
    | none => none
  | .append, [s, x] => match ts.toList with
    | [t, u] => if u = t then appV P rd stk dst t s x else none
    | _ => none
  | .max, [.int k a, .int k' b] => if k = k' then some (.int k (if b > a then b else a), stk) else none
  | .min, [.int k a, .int k' b] => if k = k' then some (.int k (if b < a then b else a), stk) else none
  | _, _ => none

/-- The method of a value behind an interface: its own, by value. -/
def mthV (P : Program) (T : TypeId) (name : String) : Option FuncId :=
  match P.info? T with
  | some i => match i.methods.find? (·.name == name) with
    | some m => match m.path.isEmpty, m.func, P.underlying T with
      | true, some (f, false), some (.struct _) => some f
      | true, some (f, false), some (.int _) => some f
      | _, _, _ => none
    | none => none
  | none => none

section
variable (P : Program) (A : An) (call : Call) (F : FuncId) (rid : Nat)

/-- q: nothing that was there may turn; calls see 'rd' alone. -/
def calV (q : Bool) (rd stk : Stk) (g : FuncId) (vs : List V) : Option (V × Stk) :=
  if q then
    match V.coL (noTok rd) vs with
    | some vs => if V.okL (noTok rd) vs then match call g vs (noTok rd) with
      | some (r, s) => if stkEq s (noTok rd) then some (r, stk) else none
      | none => none
      else none
    | none => none
  else
    match V.coL (V.fzL vs stk) vs with
    | some ws => call g ws (V.fzL vs stk)
    | none => none

/-- A struct or an array, out of its parts. -/
def bldV (P : Program) (t : TypeId) (is : List Nat) : Option (List V) → Option (List V) → Option V
  | some vs, some cs => if (fdPl P t 0).isSome then (fillV P t cs (is.zip vs)).map .agg else none
  | _, _ => none

/-- '==' and '!=' between two nils of an interface type, one of them the literal. -/
def isC : Operand → Bool
  | .const _ => true
  | _ => false

/-- A slice's literal. -/
def bslV (P : Program) (A : An) (F : FuncId) (rd stk : Stk) (dst : Option Nat) (len : Nat) (is : List Nat) : Option (List V) → Option (TypeId × Nat) → Option (V × Stk)
  | some vs, some (e, sz) => if len = vs.length ∧ is.length = vs.length ∧ len ≤ 4096 then
        match elemsV rd sz 0 (is.zip vs) with
        | some rows => match dst with
          | some d => if (A.apb F).contains d then mkV stk dst (.tok e sz rows.length) fun d => .ap 0 d sz rows
            else if (A.rowb F).contains d then mkV stk dst (.row sz rows) fun d => .row 0 d
            else some (.sl sz rows, stk)
          | none => none
        | none => none
      else none
  | _, _ => none
/-- 'make' of a slice. -/
def mslV (P : Program) (A : An) (F : FuncId) (stk : Stk) (dst : Option Nat) (z : List V) (e sz : Nat) (l c : Int) : Option (V × Stk) :=
  if 0 ≤ l ∧ l ≤ c ∧ c ≤ most ∧ z.length = sz ∧ (z.map V.nls).all V.pure then
    match dst with
    | some d =>
      let rows := List.replicate l.toNat (z.map V.nls)
      if (A.apb F).contains d then mkV stk dst (.tok e sz rows.length) fun d => .ap 0 d sz rows
      else if l = c then
        if (A.rowb F).contains d then mkV stk dst (.row sz rows) fun d => .row 0 d
        else some (.sl sz rows, stk)
      else none
    | none => none
  else none

def msl2 (P : Program) (A : An) (F : FuncId) (stk : Stk) (dst : Option Nat) (a b : V) : Option (TypeId × Nat) → Option (V × Stk)
  | some (e, sz) => match a, b with
    | .int .i64 l, .int .i64 c => (zeroC P e).bind fun z => mslV P A F stk dst z e sz l c
    | _, _ => none
  | none => none
/-- An operation that calls nothing. -/
def evS (rd : Stk) (dst : Option Nat) (ty : TypeId) (op : Op) (tm : List (Nat × V)) (stk : Stk) : Option (V × Stk) :=
  match op with
  | .move x => match opd tm x with
    | some v => some (fixNl P ty v, stk)
    | none => none
  | .assign x => match opd tm x, dst with
    | some (.nl _), some d => if (A.grow F).contains d then
        match slTy P ty with
        | some (e, sz) => mkV stk dst (.tok e sz 0) fun d => .ap 0 d sz []
        | none => none
      else some (fixNl P ty (.nl 0), stk)
    | some v, _ => some (v, stk)
    | none, _ => none
  | .pick c a b => match opd tm c with
    | some (.bool true) => (opd tm a).map fun v => (v, stk)
    | some (.bool false) => (opd tm b).map fun v => (v, stk)
    | _ => none
  | .alloc t => match zeroC P t with
    | some cs => mkV stk dst (.cells cs) fun d => .ptr 0 d 0
    | none => none
  | .box t x => match opd tm x, tyAg P t with
    | some v, some (_, n) => if v.cs.length = n then mkV stk dst (.cells v.cs) fun d => .ptr 0 d 0 else none
    | _, _ => none
  | .build t parts => (bldV P t (parts.toList.map (·.1)) (opds tm (parts.toList.map (·.2))) (zeroC P t)).map fun v => (v, stk)
  | .buildSlice t len parts => bslV P A F rd stk dst len (parts.toList.map (·.1)) (opds tm (parts.toList.map (·.2))) (slTy P t)
  | .load t a => match opd tm a with
    | some a => (ldA P rd t a).map fun v => (v, stk)
    | none => none
  | .store t a x => match opd tm a, opd tm x with
    | some a, some x => (stA P stk t a (fixNl P t x)).map fun s => (.dead, s)
    | _, _ => none
  | .nilCheck x => match opd tm x with
    | some (.ptr l t o) => some (.ptr l t o, stk)
    | some (.rptr l t i o) => some (.rptr l t i o, stk)
    | some (.eptr c o) => some (.eptr c o, stk)
    | _ => none
  | .binOp op t x y _ => match opd tm x, opd tm y with
    | some a, some b => (biN (eqK P t) (isC x || isC y) op a b).map fun v => (v, stk)
    | _, _ => none
  | .unOp op _ x => match opd tm x with
    | some a => (unV op a).map fun v => (v, stk)
    | none => none
  | .convert s d x => match opd tm x with
    | some a => (cvV P rd s d a).map fun v => (v, stk)
    | none => none
  | .makeInterface t x => match opd tm x, P.underlying t with
    | some a, some (.struct _) => some (.ifc t a, stk)
    | some a, some (.int _) => some (.ifc t a, stk)
    | _, _ => none
  | .makeFunc (.func f) first caps => match opds tm first.toList, opds tm caps.toList with
    | some a, some b => some (.fn f a b, stk)
    | _, _ => none
  | .makeMap t none => match mpTy P t with
    | some (true, _) => mkV stk dst (.smap []) fun d => .mp 0 d
    | some (false, _) => mkV stk dst (.imap []) fun d => .mp 0 d
    | none => none
  | .makeSlice t l c => match opd tm l, opd tm c with
    | some a, some b => msl2 P A F stk dst a b (slTy P t)
    | _, _ => none
  | .slice t x lo hi none => match opd tm x, (lo.map (opd tm)), (hi.map (opd tm)) with
    | some x, none, none => (slV P rd t x none none).map fun v => (v, stk)
    | some x, some (some l), none => (slV P rd t x (some l) none).map fun v => (v, stk)
    | some x, none, some (some h) => (slV P rd t x none (some h)).map fun v => (v, stk)
    | some x, some (some l), some (some h) => (slV P rd t x (some l) (some h)).map fun v => (v, stk)
    | _, _, _ => none
  | .fieldAddr s x f => match opd tm x with
    | some x => (fdA P s f x).map fun v => (v, stk)
    | none => none
  | .indexAddr t x i => match opd tm x, opd tm i with
    | some x, some (.int _ i) => (ixA P rd t x i).map fun v => (v, stk)
    | _, _ => none
  | .index t x i => match opd tm x, opd tm i with
    | some x, some (.int _ i) => (ixV P t x i).map fun v => (v, stk)
    | _, _ => none
  | .lookup t x k ok => match opd tm x, opd tm k with
    | some x, some k => (lkM P rd t x k ok).map fun v => (v, stk)
    | _, _ => none
  | .mapUpdate t m k x => match opd tm m, opd tm k, opd tm x with
    | some m, some k, some x => (puM P stk t m k x).map fun s => (.dead, s)
    | _, _, _ => none
  | .insert t m k x => match opd tm m, opd tm k, opd tm x with
    | some m, some k, some x => (puM P stk t m k x).map fun s => (.dead, s)
    | _, _, _ => none
  | .extract x i => match opd tm x with
    | some (.tup vs) => (vs[i]?).map fun v => (v, stk)
    | _ => none
  | _ => none

def calK (q : Bool) (rd stk : Stk) : Option V → Option (List V) → Option (V × Stk)
  | some (.fn g first caps), some vs => calV call q rd stk g (first ++ vs ++ caps)
  | _, _ => none
def calI (name : String) (q : Bool) (rd stk : Stk) : Option V → Option (List V) → Option (V × Stk)
  | some (.ifc T v), some vs => match mthV P T name with
    | some g => calV call q rd stk g (v :: vs)
    | none => none
  | _, _ => none

def evO (q : Bool) (rd : Stk) (o : Oper) (tm : List (Nat × V)) (stk : Stk) : Option (V × Stk) :=
  match o.op with
  | .call c => match c.callee with
    | .builtin b => match opds tm c.args.toList with
      | some vs => bltV P rd stk o.dst b c.argTypes vs
      | none => none
    | .value f => calK call q rd stk (opd tm f) (opds tm c.args.toList)
    | .invoke x name => calI P call name q rd stk (opd tm x) (opds tm c.args.toList)
  | op => evS P A F rd o.dst o.type op tm stk

/-- An operation's guard, its slot named. -/
def resG (ops : Array Oper) (o : Oper) : Option (Option Nat × Bool) :=
  match o.guard with
  | none => none
  | some (j, b) => some ((ops[j]?).bind (·.dst), b)

def gdV (tm : List (Nat × V)) : Option (Option Nat × Bool) → Option Bool
  | none => some true
  | some (some t, b) => match look tm t with
    | some (.bool c) => some (c == b)
    | some .dead => some false
    | _ => none
  | some (none, _) => none

def evL (rd : Option Stk) (q : Bool) (ops : Array Oper) : List Oper → List (Nat × V) → Stk → Option St
  | [], tm, stk => some ⟨tm, stk⟩
  | o :: r, tm, stk => match gdV tm (resG ops o) with
    | some true => match evO P A call F q (rd.getD stk) o tm stk with
      | some (v, stk) => evL rd q ops r (putD o.dst v tm) stk
      | none => none
    | some false => evL rd q ops r (putD o.dst .dead tm) stk
    | none => none

def evR (ops : Array Oper) (draw : Bool) (S : St) : Option St :=
  if draw then evL P A call F (if A.eff F rid then none else some S.stk) (!A.eff F rid) ops ops.toList S.tm S.stk
  else evL P A call F none false ops ops.toList S.tm S.stk
end

/-! ### code and calls, by rounds -/
def initT : Nat → List V → List (Nat × V) → List (Nat × V)
  | _, [], acc => acc
  | i, v :: r, acc => initT (i + 1) r (ins i (v.sh 1) acc)

def resV (P : Program) (S : St) : List ResultVar → Option (List V)
  | [] => some []
  | .tmp t :: r => match look S.tm t, resV P S r with
    | some v, some vs => some (v :: vs)
    | _, _ => none
  | .cell a t :: r => match look S.tm a with
    | some p => match ldA P S.stk t p, resV P S r with
      | some v, some vs => some (v :: vs)
      | _, _ => none
    | none => none

def backW : Option (List V) → Stk → Option (V × Stk)
  | some vs, _ :: r => match V.unL 1 vs with
    | some [v] => some (v, r)
    | some vs => some (.tup vs, r)
    | none => none
  | _, _ => none
/-- What a call hands back. -/
def backV (P : Program) (fn : Func) (S : St) : Option (V × Stk) :=
  (resV P S fn.results.toList).bind fun vs => backW (V.coL (V.fzL vs S.stk) vs) (V.fzL vs S.stk)

def thenE (r : Option (Ex × St)) (k : St → Option (Ex × St)) : Option (Ex × St) :=
  match r with
  | some (.nm, S) => k S
  | r => r
def blockE (id : Nat) (r : Option (Ex × St)) : Option (Ex × St) :=
  match r with
  | some (.ex i, S) => if i = id then some (.nm, S) else some (.ex i, S)
  | r => r
def bodyE (P : Program) (fn : Func) (r : Option (Ex × St)) : Option (V × Stk) :=
  match r with
  | some (.nm, S) => backV P fn S
  | some (.rt, S) => backV P fn S
  | _ => none

section
variable (P : Program) (A : An) (pr : FuncId → Option (List V → Stk → Option (V × Stk)))

mutual
def evN : Nat → FuncId → Code → St → Option (Ex × St)
  | 0, _, _, _ => none
  | n + 1, F, c, S =>
    match c with
    | .skip => some (.nm, S)
    | .label _ => some (.nm, S)
    | .seq a b => thenE (evN n F a S) fun S => evN n F b S
    | .cond c x y => match opd S.tm c with
      | some (.bool true) => evN n F x S
      | some (.bool false) => evN n F y S
      | _ => none
    | .block id c => blockE id (evN n F c S)
    | .loop c => match prune (A.loop F (headR c)) S with
      | some S => thenE (evN n F c S) fun S => evN n F (.loop c) S
      | none => none
    | .exit id => some (.ex id, S)
    | .ret => some (.rt, S)
    | .region id ops draw => (evR P A (clN n) F id ops draw S).map fun S => (.nm, S)
    | _ => none
def clN : Nat → FuncId → List V → Stk → Option (V × Stk)
  | 0, _, _, _ => none
  | n + 1, g, vs, stk =>
    match pr g with
    | some f => f vs stk
    | none => match P.funcs[g]? with
      | some fn => match fn.body with
        | some c => if vs.length ≤ fn.ntmps then bodyE P fn (evN n g c ⟨initT 0 vs [], [] :: stk⟩) else none
        | none => none
      | none => none
end
end
end Go.Shade
