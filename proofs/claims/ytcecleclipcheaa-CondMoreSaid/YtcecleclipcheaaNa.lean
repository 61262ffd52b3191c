/-
  What the program's data are: plain structures, and how the shadow writes them.
  Plain facts on texts; names, registers, lines, atoms: which may be.
  Plain facts: the names of a program, in order.
  Which programs are right: plainly.
  Which programs are right: plain facts.
  Plain facts: names in order.
  Plain facts: what is asked of ends.
  Plain facts: the laws of what is asked of ends.
-/
import Derived.Test.YtcecleclipcheaaSh1
import Derived.Laws.Strings
set_option linter.unusedVariables false
namespace Go.Fence
open Go Go.Shade

structure Line where
  op : Int
  reg : ByteArray
  loc : ByteArray
  label : ByteArray
  n : Int
structure Cell where
  loc : ByteArray
  n : Int
structure Atom where
  thread : Int
  name : ByteArray
  n : Int
structure File where
  name : ByteArray
  init : List Cell
  threads : List (List Line)
  all : Bool
  cond : List Atom
structure Out where
  mem : List Int
  regs : List Int
structure Stp where
  op : Int
  reg : Int
  loc : Int
  n : Int
  to : Int
structure Prg where
  init : List Int
  threads : List (List Stp)
def Line.e (x : Line) : List V := [.int .i64 x.op, .str x.reg, .str x.loc, .str x.label, .int .i64 x.n]
def Cell.e (x : Cell) : List V := [.str x.loc, .int .i64 x.n]
def Atom.e (x : Atom) : List V := [.int .i64 x.thread, .str x.name, .int .i64 x.n]
def thr (x : List Line) : List V := [.sl 5 (x.map Line.e)]
def File.e (x : File) : List V := [.str x.name, .sl 2 (x.init.map Cell.e), .sl 1 (x.threads.map thr), .bool x.all, .sl 3 (x.cond.map Atom.e)]
def ints (l : List Int) : V := .sl 1 (l.map fun n => [.int .i64 n])
def Out.e (x : Out) : List V := [ints x.mem, ints x.regs]
def Stp.e (x : Stp) : List V := [.int .i64 x.op, .int .i64 x.reg, .int .i64 x.loc, .int .i64 x.n, .int .i64 x.to]
def stps (x : List Stp) : List V := [.sl 5 (x.map Stp.e)]
def Prg.e (x : Prg) : List V := [ints x.init, .sl 1 (x.threads.map stps)]

/-- what an int is -/
def I64 (n : Int) : Prop := (Lit.int .i64 n).wf = true
def S47 (s : ByteArray) : Prop := s.size ≤ maxLen
structure Line.Fit (x : Line) : Prop where
  op : I64 x.op
  reg : S47 x.reg
  loc : S47 x.loc
  label : S47 x.label
  n : I64 x.n
structure Cell.Fit (x : Cell) : Prop where
  loc : S47 x.loc
  n : I64 x.n
structure Atom.Fit (x : Atom) : Prop where
  thread : I64 x.thread
  name : S47 x.name
  n : I64 x.n
def linesFit (l : List Line) : Prop := l.length ≤ maxLen ∧ ∀ x ∈ l, x.Fit
structure File.Fit (x : File) : Prop where
  name : S47 x.name
  init : x.init.length ≤ maxLen ∧ ∀ c ∈ x.init, c.Fit
  threads : x.threads.length ≤ maxLen ∧ ∀ t ∈ x.threads, linesFit t
  cond : x.cond.length ≤ maxLen ∧ ∀ a ∈ x.cond, a.Fit
def intsFit (l : List Int) : Prop := l.length ≤ maxLen ∧ ∀ n ∈ l, I64 n
structure Out.Fit (x : Out) : Prop where
  mem : intsFit x.mem
  regs : intsFit x.regs
structure Stp.Fit (x : Stp) : Prop where
  op : I64 x.op
  reg : I64 x.reg
  loc : I64 x.loc
  n : I64 x.n
  to : I64 x.to
def stpsFit (l : List Stp) : Prop := l.length ≤ maxLen ∧ ∀ x ∈ l, x.Fit
structure Prg.Fit (x : Prg) : Prop where
  init : intsFit x.init
  threads : x.threads.length ≤ maxLen ∧ ∀ t ∈ x.threads, stpsFit t

end Go.Fence

set_option linter.unusedVariables false
namespace Go.Fence
open Go Go.Shade

/-! ### texts -/
theorem toList_data (s : ByteArray) : s.toList = s.data.toList := ByteArray.toList_eq s
theorem ba_ext {a b : ByteArray} (h : a.data.toList = b.data.toList) : a = b := by
  obtain ⟨⟨x⟩⟩ := a
  obtain ⟨⟨y⟩⟩ := b
  simp only at h
  rw [h]
theorem strEq_iff {a b : ByteArray} : strEq a b = true ↔ a = b := by
  unfold strEq
  rw [toList_data, toList_data, beq_iff_eq]
  exact ⟨ba_ext, fun h => by rw [h]⟩
theorem strEq_eq (a b : ByteArray) : strEq a b = decide (a = b) := by
  by_cases h : a = b
  · simp [h, strEq_iff.2 rfl]
  · have : strEq a b = false := by
      cases hc : strEq a b with
      | false => rfl
      | true => exact absurd (strEq_iff.1 hc) h
    simp [h, this]
theorem strEq_self (a : ByteArray) : strEq a a = true := strEq_iff.2 rfl
theorem strEq_comm (a b : ByteArray) : strEq a b = strEq b a := by
  rw [strEq_eq, strEq_eq]; exact decide_eq_decide.2 eq_comm
theorem less_irrefl : ∀ a : List UInt8, Op.bytesLess a a = false
  | [] => rfl
  | x :: r => by simp [Op.bytesLess, less_irrefl r]
theorem less_trans : ∀ {a b c : List UInt8}, Op.bytesLess a b = true → Op.bytesLess b c = true → Op.bytesLess a c = true
  | [], [], _, h, _ => by simp [Op.bytesLess] at h
  | _ :: _, [], _, h, _ => by simp [Op.bytesLess] at h
  | _, _ :: _, [], _, h => by simp [Op.bytesLess] at h
  | [], _ :: _, _ :: _, _, _ => rfl
  | x :: a, y :: b, z :: c, h, k => by
    simp only [Op.bytesLess, Bool.or_eq_true, Bool.and_eq_true, decide_eq_true_eq, beq_iff_eq] at h k ⊢
    rcases h with h | ⟨rfl, h⟩ <;> rcases k with k | ⟨rfl, k⟩
    · exact .inl (UInt8.lt_trans h k)
    · exact .inl h
    · exact .inl k
    · exact .inr ⟨rfl, less_trans h k⟩
theorem less_total : ∀ (a b : List UInt8), Op.bytesLess a b = true ∨ a = b ∨ Op.bytesLess b a = true
  | [], [] => .inr (.inl rfl)
  | _ :: _, [] => .inr (.inr rfl)
  | [], _ :: _ => .inl rfl
  | x :: a, y :: b => by
    simp only [Op.bytesLess, Bool.or_eq_true, Bool.and_eq_true, decide_eq_true_eq, beq_iff_eq]
    rcases Nat.lt_trichotomy x.toNat y.toNat with h | h | h
    · exact .inl (.inl (UInt8.lt_iff_toNat_lt.2 h))
    · obtain rfl : x = y := UInt8.toNat_inj.1 h
      rcases less_total a b with h | rfl | h
      · exact .inl (.inr ⟨rfl, h⟩)
      · exact .inr (.inl rfl)
      · exact .inr (.inr (.inr ⟨rfl, h⟩))
    · exact .inr (.inr (.inl (UInt8.lt_iff_toNat_lt.2 h)))
theorem lt_irrefl (a : ByteArray) : strLt a a = false := less_irrefl _
theorem lt_trans {a b c : ByteArray} (h : strLt a b = true) (k : strLt b c = true) : strLt a c = true := less_trans h k
theorem lt_total (a b : ByteArray) : strLt a b = true ∨ a = b ∨ strLt b a = true := by
  rcases less_total a.toList b.toList with h | h | h
  · exact .inl h
  · exact .inr (.inl (strEq_iff.1 (by simp [strEq, h])))
  · exact .inr (.inr h)
theorem lt_asymm {a b : ByteArray} (h : strLt a b = true) : strLt b a = false := by
  cases hc : strLt b a with
  | false => rfl
  | true => have := lt_trans h hc; rw [lt_irrefl] at this; cases this
theorem lt_ne {a b : ByteArray} (h : strLt a b = true) : a ≠ b := fun e => by subst e; rw [lt_irrefl] at h; cases h
/-- a ≤ b, as the program asks it. -/
theorem le_not (a b : ByteArray) : (strLt a b || strEq a b) = !strLt b a := by
  rcases lt_total a b with h | rfl | h
  · simp [h, lt_asymm h]
  · simp [lt_irrefl, strEq_self]
  · have := lt_ne h
    simp [h, lt_asymm h, strEq_eq, Ne.symm this]

/-! ### names, registers -/
def tEax : ByteArray := ⟨#[101, 97, 120]⟩
def tEbx : ByteArray := ⟨#[101, 98, 120]⟩
def tEcx : ByteArray := ⟨#[101, 99, 120]⟩
def tEdx : ByteArray := ⟨#[101, 100, 120]⟩
def t0 : ByteArray := ⟨#[]⟩
def regI (s : ByteArray) : Int := if s = tEax then 0 else if s = tEbx then 1 else if s = tEcx then 2 else if s = tEdx then 3 else -1
def regN (n : Int) : ByteArray := if n = 0 then tEax else if n = 1 then tEbx else if n = 2 then tEcx else if n = 3 then tEdx else t0
theorem regN_out {n : Int} (h : n < 0 ∨ 4 ≤ n) : regN n = t0 := by
  unfold regN
  rw [if_neg (by omega), if_neg (by omega), if_neg (by omega), if_neg (by omega)]
theorem regI_le (s : ByteArray) : -1 ≤ regI s ∧ regI s ≤ 3 := by
  unfold regI
  split <;> (try split) <;> (try split) <;> (try split) <;> omega
theorem regN_regI {s : ByteArray} (h : 0 ≤ regI s) : regN (regI s) = s := by
  unfold regI at h ⊢
  unfold regN
  split <;> (try split) <;> (try split) <;> (try split) <;> simp_all
def keys : List (List UInt8) := [[120, 56, 54], [105, 110, 105, 116], [116, 104, 114, 101, 97, 100], [109, 111, 118], [120, 99, 104, 103], [109, 102, 101, 110, 99, 101], [99, 109, 112], [106, 109, 112], [106, 101], [106, 110, 101], [101, 120, 105, 115, 116, 115], [102, 111, 114, 97, 108, 108]]
def keyB (s : ByteArray) : Bool := keys.any fun k => s = ⟨k.toArray⟩
def lowB (c : UInt8) : Bool := decide (97 ≤ c.toNat ∧ c.toNat ≤ 122)
def digB (c : UInt8) : Bool := decide (48 ≤ c.toNat ∧ c.toNat ≤ 57)
def bytesB : List UInt8 → Bool
  | [] => false
  | c :: r => lowB c && r.all fun c => lowB c || digB c
theorem bytes_iff (l : List UInt8) : bytesB l = true ↔ l ≠ [] ∧ ∀ (j : Nat) x, l[j]? = some x → (if j = 0 then lowB x else lowB x || digB x) = true := by
  cases l with
  | nil => simp [bytesB]
  | cons c r =>
    simp only [bytesB, Bool.and_eq_true, List.all_eq_true, ne_eq, reduceCtorEq, not_false_eq_true, true_and]
    constructor
    · rintro ⟨h1, h2⟩ j x hx
      cases j with
      | zero => simp at hx; subst hx; simpa using h1
      | succ j =>
        simp at hx
        simpa using h2 x (List.mem_iff_getElem?.2 ⟨j, hx⟩)
    · intro h
      refine ⟨by simpa using h 0 c rfl, fun x hx => ?_⟩
      obtain ⟨j, hj⟩ := List.mem_iff_getElem?.1 hx
      simpa using h (j + 1) x (by simpa using hj)
def nameB (s : ByteArray) : Bool := bytesB s.data.toList && decide (s.size ≤ 8) && !keyB s && decide (regI s < 0)
theorem name_bad {s : ByteArray} {j : Nat} {x : UInt8} (hx : s.data.toList[j]? = some x) (h : (if j = 0 then lowB x else lowB x || digB x) = false) : nameB s = false := by
  cases hb : bytesB s.data.toList with
  | false => simp [nameB, hb]
  | true => rw [((bytes_iff _).1 hb).2 j x hx] at h; cases h
theorem name_good {s : ByteArray} (h : ∀ (j : Nat) x, s.data.toList[j]? = some x → (if j = 0 then lowB x else lowB x || digB x) = true) : nameB s = (decide (1 ≤ s.size) && (decide (s.size ≤ 8) && (!keyB s && decide (regI s < 0)))) := by
  unfold nameB
  have hl : s.data.toList.length = s.size := Array.length_toList
  cases hb : bytesB s.data.toList with
  | true =>
    have := ((bytes_iff _).1 hb).1
    have : 1 ≤ s.size := by
      rw [← hl]
      exact List.length_pos_iff.2 this
    simp [this, Bool.and_assoc]
  | false =>
    have : ¬ 1 ≤ s.size := by
      intro h1
      have : bytesB s.data.toList = true := (bytes_iff _).2 ⟨fun e => by rw [e] at hl; simp at hl; omega, h⟩
      rw [this] at hb
      cases hb
    simp [this]
theorem name_ne {s : ByteArray} (h : nameB s = true) : s ≠ t0 := by
  rintro rfl
  simp [nameB, bytesB, t0] at h

/-! ### lines, atoms -/
def hasReg (o : Int) : Bool := decide (o = 1 ∨ o = 2 ∨ o = 3 ∨ o = 5 ∨ o = 7)
def hasLoc (o : Int) : Bool := decide (o = 2 ∨ o = 3 ∨ o = 4 ∨ o = 5)
def hasLab (o : Int) : Bool := decide (8 ≤ o ∧ o ≤ 11)
def hasN (o : Int) : Bool := decide (o = 1 ∨ o = 4 ∨ o = 7)
def lineB (x : Line) : Bool := decide (1 ≤ x.op ∧ x.op ≤ 11) && (if hasReg x.op then decide (0 ≤ regI x.reg) else decide (x.reg = t0)) && (if hasLoc x.op then nameB x.loc else decide (x.loc = t0))
  && (if hasLab x.op then nameB x.label else decide (x.label = t0)) && (hasN x.op || decide (x.n = 0))
def askB (a : Atom) : Bool := if a.thread = -1 then nameB a.name else decide (0 ≤ a.thread ∧ a.thread < 3) && decide (0 ≤ regI a.name)
def jumpB (x : Line) : Bool := decide (8 ≤ x.op ∧ x.op ≤ 10)
def instrB (x : Line) : Bool := decide (x.op ≠ 6 ∧ x.op ≠ 11)
def labB (x : Line) : Bool := decide (x.op = 11)

/-! ### programs -/
def labs (l : List Line) (s : ByteArray) : Nat := (l.filter fun x => labB x && decide (x.label = s)).length
def lineE (pre : List Line) (x : Line) (post : List Line) : Int :=
  if lineB x = false then 11
  else if labB x = true ∧ 0 < labs pre x.label then 21
  else if x.op = 6 ∧ (∃ y, pre.getLast? = some y ∧ y.op = 6) then 23
  else if jumpB x = true ∧ labs post x.label = 0 then 22
  else if (instrB x = true ∧ 8 ≤ (pre.filter instrB).length) ∨ (labB x = true ∧ 8 ≤ (pre.filter labB).length) then 5
  else 0
end Go.Fence

set_option linter.unusedVariables false
namespace Go.Fence
open Go Go.Shade

/-- A name is put among others, that rise. -/
def insL (s : ByteArray) : List ByteArray → List ByteArray
  | [] => [s]
  | x :: r => if strLt s x = true then s :: x :: r else if s = x then x :: r else x :: insL s r
def setL (l : List ByteArray) : List ByteArray := l.foldl (fun a s => insL s a) []
/-- The names that the program gathers. -/
def namesF (f : File) : List ByteArray := f.init.map (·.loc) ++ (f.threads.flatMap fun t => (t.map (·.loc)).filter (· ≠ t0)) ++ (f.cond.filter (·.thread = -1)).map (·.name)
def locsF (f : File) : List ByteArray := setL (namesF f)

def strs (l : List ByteArray) : V := .sl 1 (l.map fun s => [.str s])

/-! ### functions taken as given: out of shadows -/
def rowStr (k : Nat) (r : List V) : Option ByteArray := match r[k]? with
  | some (.str s) => some s
  | _ => none
def rowsOf : V → List (List V)
  | .sl _ r => r
  | _ => []
def thrNames (r : List V) : Option (List ByteArray) := match r with
  | [.sl _ ls] => (ls.mapM (rowStr 2)).map fun l => l.filter (· ≠ t0)
  | _ => none
def atomName (r : List V) : Option (List ByteArray) := match r with
  | [.int _ t, .str s, _] => some (if t = -1 then [s] else [])
  | _ => none
def namesV : List V → Option (List ByteArray)
  | [_, .sl _ i, .sl _ ts, _, .sl _ c] => match i.mapM (rowStr 0), ts.mapM thrNames, c.mapM atomName with
    | some a, some b, some d => some (a ++ b.flatten ++ d.flatten)
    | _, _, _ => none
  | _ => none
/-- Is there a sign in a text that names may not have? g: the function that asks it of one sign. -/
def oddB (s : ByteArray) : Bool := !s.data.toList.all fun c => lowB c || digB c
theorem name_head {s : ByteArray} {c : UInt8} (hc : s.data[0]? = some c) : nameB s = (!(decide ((8 : Int) < s.size) || keyB s || decide (0 ≤ regI s) || decide ((c.toNat : Int) < 97)) && !oddB s) := by
  have hl : s.data.toList[0]? = some c := by rw [← hc]; simp
  obtain ⟨r, hr⟩ : ∃ r, s.data.toList = c :: r := by
    cases hs : s.data.toList with
    | nil => rw [hs] at hl; cases hl
    | cons a r => rw [hs] at hl; cases hl; exact ⟨r, rfl⟩
  unfold nameB oddB
  rw [hr]
  simp only [bytesB, List.all_cons, Bool.not_not]
  rw [show decide ((8 : Int) < s.size) = !decide (s.size ≤ 8) from by by_cases h : s.size ≤ 8 <;> simp [h] <;> omega, show decide (0 ≤ regI s) = !decide (regI s < 0) from by by_cases h : regI s < 0 <;> simp [h] <;> omega]
  have e : lowB c = ((lowB c || digB c) && !decide ((c.toNat : Int) < 97)) := by
    unfold lowB digB
    by_cases h1 : 97 ≤ c.toNat ∧ c.toNat ≤ 122
    · have : ¬ ((c.toNat : Int) < 97) := by omega
      simp [h1, this]
    · by_cases h2 : 48 ≤ c.toNat ∧ c.toNat ≤ 57
      · have : ((c.toNat : Int) < 97) := by omega
        simp [this]; omega
      · simp [h1, h2]
  generalize (lowB c || digB c) = a1 at e ⊢
  generalize lowB c = a0 at e ⊢
  subst e
  generalize decide ((c.toNat : Int) < 97) = a2, (r.all fun c => lowB c || digB c) = a3, decide (s.size ≤ 8) = a4, keyB s = a5, decide (regI s < 0) = a6
  revert a1 a2 a3 a4 a5 a6
  decide
def cfP (g : Nat) : List V → Stk → Option (V × Stk)
  | [.str s, .fn f [] []], stk => if f = g then some (.bool (oddB s), stk) else none
  | _, _ => none

/-- An iterator over a map's keys: its box has a name of its own. g: the function that goes over them. -/
def keysP (g : Nat) : List V → Stk → Option (V × Stk)
  | [.mp l t], f :: r => if lookB (f :: r) 0 900 = none then some (.fn g [] [.ptr 0 900 0], newB (f :: r) 900 (.cells [.mp l t])) else none
  | _, _ => none
/-- A map's keys, in order. -/
def sortP (g : Nat) : List V → Stk → Option (V × Stk)
  | [.fn f [] [.ptr 0 n 0]], stk => if f = g then match lookB stk 0 n with
      | some (.cells [.mp l t]) => match lookB stk l t with
        | some (.smap es) => if es.length ≤ 1000000 ∧ es.all (fun e => decide (e.1.size ≤ maxLen)) = true then some (strs (setL (es.map (·.1))), stk) else none
        | _ => none
      | _ => none
    else none
  | _, _ => none
theorem mapM_map {α β γ : Type} (f : α → β) (g : β → Option γ) (h : α → γ) (H : ∀ x, g (f x) = some (h x)) : ∀ l : List α, (l.map f).mapM g = some (l.map h)
  | [] => rfl
  | x :: r => by simp [H, mapM_map f g h H r]
theorem namesV_file (f : File) : namesV f.e = some (namesF f) := by
  unfold namesV File.e
  simp only
  rw [mapM_map Cell.e (rowStr 0) (·.loc) (fun x => rfl), mapM_map thr thrNames (fun t => (t.map (·.loc)).filter (· ≠ t0)) ?_, mapM_map Atom.e atomName (fun a => if a.thread = -1 then [a.name] else []) (fun x => rfl)]
  · simp only [namesF, List.flatMap, Option.some.injEq, List.append_cancel_left_eq]
    induction f.cond with
    | nil => rfl
    | cons a r ih => by_cases h : a.thread = -1 <;> simp_all
  · intro x
    simp only [thrNames, thr]
    rw [mapM_map Line.e (rowStr 2) (·.loc) (fun x => rfl)]
    rfl
end Go.Fence

set_option linter.unusedVariables false
namespace Go.Fence
open Go Go.Shade

def putL (s : ByteArray) (l : List ByteArray) : List ByteArray := if s = t0 then l else insL s l
def cellsE : Option ByteArray → List Cell → Int
  | _, [] => 0
  | p, c :: r => if nameB c.loc = false then 22 else if (match p with | some q => !strLt q c.loc | none => false) = true then 21 else cellsE (some c.loc) r
def headE (f : File) : Int := if nameB f.name = false then 22 else if cellsE none f.init ≠ 0 then cellsE none f.init else if f.threads.length < 1 ∨ 3 < f.threads.length then 5 else 0
def linesE (pre : List Line) : List Line → Option (Nat × Int)
  | [] => none
  | x :: post => if lineE pre x post ≠ 0 then some (pre.length, lineE pre x post) else linesE (pre ++ [x]) post
def thrsE : Nat → List (List Line) → Option (Nat × Nat × Int)
  | _, [] => none
  | t, l :: r => match linesE [] l with
    | some (i, e) => some (t, i, e)
    | none => thrsE (t + 1) r
def atomE (n i : Nat) (a : Atom) : Int := if 6 ≤ i then 5 else if askB a = false then 1 else if (n : Int) ≤ a.thread then 22 else 0
def atomsE (n : Nat) : Nat → List Atom → Option (Nat × Int)
  | _, [] => none
  | i, a :: r => if atomE n i a ≠ 0 then some (i, atomE n i a) else atomsE n (i + 1) r
/-- The names that the reference gathers, in order. -/
def namesR (f : File) : List ByteArray := f.init.map (·.loc) ++ (f.threads.flatMap fun t => t.map (·.loc)) ++ (f.cond.filter (·.thread = -1)).map (·.name)
def locsR (f : File) : List ByteArray := (namesR f).foldl (fun a s => putL s a) []
def chkP (f : File) : Int × Int × Int :=
  if headE f ≠ 0 then (-1, -1, headE f)
  else match thrsE 0 f.threads with
    | some (t, i, e) => (t, i, e)
    | none => match atomsE f.threads.length 0 f.cond with
      | some (i, e) => (f.threads.length, i, e)
      | none => if 4 < (locsR f).length then (-1, -1, 5) else (0, 0, 0)
def rightB (f : File) : Bool := decide ((chkP f).2.2 = 0)
def locsB (f : File) : List ByteArray := if rightB f = true then locsR f else []

theorem drop_cons {α : Type} {l : List α} {i : Nat} {x : α} (h : l[i]? = some x) : l.drop i = x :: l.drop (i + 1) := by
  obtain ⟨h1, h2⟩ := List.getElem?_eq_some_iff.1 h
  rw [List.drop_eq_getElem_cons h1, h2]
theorem take_snoc {α : Type} {l : List α} {i : Nat} {x : α} (h : l[i]? = some x) : l.take (i + 1) = l.take i ++ [x] := by
  rw [List.take_add_one, h]; rfl
theorem cnt_take (p : Line → Bool) (ls : List Line) (i : Nat) (x : Line) (h : ls[i]? = some x) : ((ls.take (i + 1)).filter p).length = if p x = true then ((ls.take i).filter p).length + 1 else ((ls.take i).filter p).length := by
  rw [take_snoc h, List.filter_append]
  simp only [List.filter_cons, List.filter_nil, List.length_append]
  split <;> simp
theorem cnt_le (p : Line → Bool) (ls : List Line) : (ls.filter p).length ≤ ls.length := List.length_filter_le _ _
theorem labs_take (ls : List Line) (s : ByteArray) (i : Nat) (x : Line) (h : ls[i]? = some x) :
   labs (ls.take (i + 1)) s = if labB x && decide (x.label = s) then labs (ls.take i) s + 1 else labs (ls.take i) s := by
  unfold labs
  rw [List.take_add_one, h]
  simp only [Option.toList, List.filter_append, List.filter_cons, List.filter_nil, List.length_append]
  split <;> simp
theorem labs_le (ls : List Line) (s : ByteArray) : labs ls s ≤ ls.length := List.length_filter_le _ _
theorem insL_len (s : ByteArray) : ∀ l : List ByteArray, (insL s l).length ≤ l.length + 1
  | [] => by simp [insL]
  | x :: r => by
    have := insL_len s r
    simp only [insL]
    split
    · simp
    · split
      · simp
      · simp; omega
theorem putL_len (s : ByteArray) (l : List ByteArray) : (putL s l).length ≤ l.length + 1 := by
  unfold putL
  split
  · omega
  · exact insL_len s l
theorem linesE_step {t : List Line} {k : Nat} {x : Line} (h : t[k]? = some x) : linesE (t.take k) (t.drop k) = if lineE (t.take k) x (t.drop (k + 1)) ≠ 0 then some (k, lineE (t.take k) x (t.drop (k + 1))) else linesE (t.take (k + 1)) (t.drop (k + 1)) := by
  have hk := (List.getElem?_eq_some_iff.1 h).1
  rw [drop_cons h, take_snoc h]
  simp only [linesE]
  rw [show (t.take k).length = k by simp; omega]
theorem thrsE_step {l : List (List Line)} {i : Nat} {t : List Line} (h : l[i]? = some t) : thrsE i (l.drop i) = match linesE [] t with
    | some (k, e) => some (i, k, e)
    | none => thrsE (i + 1) (l.drop (i + 1)) := by
  rw [drop_cons h]; rfl
theorem atomsE_step {n : Nat} {l : List Atom} {i : Nat} {a : Atom} (h : l[i]? = some a) : atomsE n i (l.drop i) = if atomE n i a ≠ 0 then some (i, atomE n i a) else atomsE n (i + 1) (l.drop (i + 1)) := by
  rw [drop_cons h]; rfl
def chk3 (p : Int × Int × Int) : V := .tup [.int .i64 p.1, .int .i64 p.2.1, .int .i64 p.2.2]
def prevC (l : List Cell) (i : Nat) : Option ByteArray := (l.take i).getLast?.map (·.loc)
theorem prevC_zero (l : List Cell) : prevC l 0 = none := by simp [prevC]
theorem prevC_succ {l : List Cell} {i : Nat} {c : Cell} (h : l[i]? = some c) : prevC l (i + 1) = some c.loc := by
  unfold prevC
  rw [take_snoc h]; simp
theorem cellsE_step {l : List Cell} {i : Nat} {c : Cell} (h : l[i]? = some c) : cellsE (prevC l i) (l.drop i) = if nameB c.loc = false then 22 else if (match prevC l i with | some q => !strLt q c.loc | none => false) = true then 21 else cellsE (some c.loc) (l.drop (i + 1)) := by
  rw [drop_cons h]; rfl
theorem locsR_step (names : List ByteArray) (a : List ByteArray) (s : ByteArray) : (names ++ [s]).foldl (fun a s => putL s a) a = putL s (names.foldl (fun a s => putL s a) a) := by simp
theorem foldl_put_len (names : List ByteArray) : ∀ a : List ByteArray, (names.foldl (fun a s => putL s a) a).length ≤ a.length + names.length := by
  induction names with
  | nil => intro a; simp
  | cons s r ih =>
    intro a
    have := ih (putL s a)
    have := putL_len s a
    simp only [List.foldl_cons, List.length_cons]
    omega
theorem t0_lt {s : ByteArray} (h : s ≠ t0) : strLt t0 s = true := by
  rcases lt_total t0 s with h1 | rfl | h1
  · exact h1
  · exact absurd rfl h
  · exfalso
    unfold strLt at h1
    rw [toList_data, toList_data] at h1
    cases hs : s.data.toList with
    | nil => rw [hs] at h1; simp [t0, Op.bytesLess] at h1
    | cons a r => rw [hs] at h1; simp [t0, Op.bytesLess] at h1
theorem prevC_lt {l : List Cell} {i : Nat} {c : ByteArray} (h : nameB c = true) : (match prevC l i with | some q => !strLt q c | none => false) = !strLt ((prevC l i).getD t0) c := by
  cases prevC l i with
  | some q => rfl
  | none => simp [t0_lt (name_ne h)]

theorem namesF_le (f : File) : (namesF f).length ≤ (namesR f).length := by
  unfold namesF namesR
  simp only [List.length_append, List.length_map]
  have : (f.threads.flatMap fun t => (t.map (·.loc)).filter (· ≠ t0)).length ≤ (f.threads.flatMap fun t => t.map (·.loc)).length := by
    induction f.threads with
    | nil => simp
    | cons t r ih =>
      simp only [List.flatMap_cons, List.length_append]
      have := List.length_filter_le (fun x => decide (x ≠ t0)) (t.map (·.loc))
      omega
  omega

/-! maps that count -/
def OKm (es : List (ByteArray × V)) (g : ByteArray → Int) : Prop := (es.all fun e => e.2.pure) = true ∧ ∀ s, lkR [.int .i64 0] 0 false (mlook es s) = some (.int .i64 (g s))
theorem ml_put {κ : Type} [DecidableEq κ] (k s : κ) (v : V) : ∀ es : List (κ × V), mlook (mput k v es) s = if s = k then some v else mlook es s
  | [] => by simp [mput, mlook]
  | (a, x) :: r => by
    by_cases h : k = a
    · subst h
      by_cases h2 : s = k <;> simp [mput, mlook, h2]
    · simp only [mput, if_neg h, mlook]
      rw [ml_put k s v r]
      by_cases h2 : s = a
      · subst h2
        simp [Ne.symm h]
      · simp [h2]
theorem mput_pure (k : ByteArray) (n : Int) : ∀ es : List (ByteArray × V), (es.all fun e => e.2.pure) = true → ((mput k (.int .i64 n) es).all fun e => e.2.pure) = true
  | [], _ => by simp [mput, V.pure]
  | (a, x) :: r, h => by
    simp only [List.all_cons, Bool.and_eq_true] at h
    by_cases hk : k = a
    · simp only [mput, if_pos hk, List.all_cons, h.2, Bool.and_true]; rfl
    · simp only [mput, if_neg hk, List.all_cons, h.1, mput_pure k n r h.2, Bool.and_true]
theorem OKm.put {es : List (ByteArray × V)} {g : ByteArray → Int} (h : OKm es g) (k : ByteArray) (n : Int) : OKm (mput k (.int .i64 n) es) (fun s => if s = k then n else g s) := by
  refine ⟨mput_pure k n es h.1, fun s => ?_⟩
  rw [ml_put]
  by_cases hs : s = k
  · simp [hs, lkR, V.up]
  · rw [if_neg hs]
    simp only [if_neg hs]
    exact h.2 s
theorem OKm.congr {es : List (ByteArray × V)} {g g' : ByteArray → Int} (h : OKm es g) (hg : ∀ s, g s = g' s) : OKm es g' := by
  rwa [show g = g' from funext hg] at h
theorem OKm.nil : OKm [] (fun _ => 0) := ⟨rfl, fun s => rfl⟩
theorem labs_drop {ls : List Line} {i : Nat} {x : Line} (h : ls[i]? = some x) (s : ByteArray) : labs (ls.drop i) s = if labB x && decide (x.label = s) then labs (ls.drop (i + 1)) s + 1 else labs (ls.drop (i + 1)) s := by
  rw [drop_cons h]
  simp only [labs, List.filter_cons]
  split <;> simp
def lastF (ls : List Line) (i : Nat) : Bool := match (ls.take i).getLast? with
  | some y => decide (y.op = 6)
  | none => false
theorem lastF_succ {ls : List Line} {i : Nat} {x : Line} (h : ls[i]? = some x) : lastF ls (i + 1) = decide (x.op = 6) := by
  unfold lastF
  rw [take_snoc h]; simp
theorem lastF_iff (ls : List Line) (i : Nat) : lastF ls i = true ↔ ∃ y, (ls.take i).getLast? = some y ∧ y.op = 6 := by
  unfold lastF
  cases (ls.take i).getLast? with
  | none => simp
  | some y => simp
end Go.Fence

set_option linter.unusedVariables false
namespace Go.Fence
open Go Go.Shade

theorem fold_put : ∀ (names a : List ByteArray), names.foldl (fun a s => putL s a) a = (names.filter (· ≠ t0)).foldl (fun a s => insL s a) a
  | [], a => rfl
  | s :: r, a => by
    rw [List.foldl_cons, fold_put r]
    by_cases h : s = t0
    · simp [putL, h]
    · simp [putL, h]
theorem locsR_eq (f : File) : locsR f = setL ((namesR f).filter (· ≠ t0)) := fold_put _ _

theorem cellsE_zero : ∀ {l : List Cell} {p : Option ByteArray}, cellsE p l = 0 → ∀ c ∈ l, nameB c.loc = true
  | [], _, _, c, hc => by cases hc
  | d :: r, p, h, c, hc => by
    simp only [cellsE] at h
    by_cases hB : nameB d.loc = false
    · rw [if_pos hB] at h
      exact absurd h (by decide)
    · rw [if_neg hB] at h
      have h' : cellsE (some d.loc) r = 0 := by
        cases p with
        | none => simpa using h
        | some q =>
          simp only at h
          split at h
          · exact absurd h (by decide)
          · exact h
      rcases List.mem_cons.1 hc with rfl | hc
      · simpa using hB
      · exact cellsE_zero h' c hc
theorem head_names {f : File} (h : headE f = 0) : nameB f.name = true ∧ cellsE none f.init = 0 ∧ 1 ≤ f.threads.length ∧ f.threads.length ≤ 3 := by
  unfold headE at h
  split at h
  · exact absurd h (by decide)
  · rename_i h1
    split at h
    · rename_i h2; exact absurd h h2
    · rename_i h2
      split at h
      · exact absurd h (by decide)
      · rename_i h3
        exact ⟨by simpa using h1, by simpa using h2, by omega, by omega⟩
theorem atomsE_none {n : Nat} : ∀ {l : List Atom} {i : Nat}, atomsE n i l = none → i + l.length ≤ 6 ∨ l = []
  | [], i, _ => .inr rfl
  | a :: r, i, h => by
    left
    simp only [atomsE] at h
    split at h
    · cases h
    · rename_i h1
      have h2 : i < 6 := by
        simp only [atomE, ne_eq, Decidable.not_not] at h1
        split at h1
        · exact absurd h1 (by decide)
        · omega
      rcases atomsE_none h with h3 | rfl
      · simp only [List.length_cons]; omega
      · simp; omega
theorem atomsE_ok {n : Nat} : ∀ {l : List Atom} {i : Nat}, atomsE n i l = none → ∀ a ∈ l, askB a = true ∧ a.thread < n
  | [], i, _, a, ha => by cases ha
  | b :: r, i, h, a, ha => by
    simp only [atomsE] at h
    split at h
    · cases h
    · rename_i h1
      rcases List.mem_cons.1 ha with rfl | ha
      · simp only [atomE, ne_eq, Decidable.not_not] at h1
        split at h1
        · exact absurd h1 (by decide)
        · split at h1
          · exact absurd h1 (by decide)
          · rename_i h2
            split at h1
            · exact absurd h1 (by decide)
            · exact ⟨by simpa using h2, by omega⟩
      · exact atomsE_ok h a ha
theorem atomsE_mk {n : Nat} : ∀ {l : List Atom} {i : Nat}, i + l.length ≤ 6 → (∀ a ∈ l, askB a = true ∧ a.thread < n) → atomsE n i l = none
  | [], i, _, _ => rfl
  | b :: r, i, h, ha => by
    simp only [atomsE]
    have h1 := ha b (by simp)
    have h2 : atomE n i b = 0 := by
      simp only [List.length_cons] at h
      simp only [atomE, h1.1, Bool.true_eq_false, if_false]
      rw [if_neg (by omega), if_neg (by omega)]
    rw [if_neg (by simp [h2])]
    exact atomsE_mk (by simp only [List.length_cons] at h; omega) fun a ha' => ha a (by simp [ha'])
theorem names_eq {f : File} (h : headE f = 0) (h2 : atomsE f.threads.length 0 f.cond = none) : namesF f = (namesR f).filter (· ≠ t0) := by
  unfold namesF namesR
  rw [List.filter_append, List.filter_append]
  have e1 : (f.init.map (·.loc)).filter (· ≠ t0) = f.init.map (·.loc) := List.filter_eq_self.2 fun s hs => by
    obtain ⟨c, hc, rfl⟩ := List.mem_map.1 hs
    simpa using name_ne (cellsE_zero (head_names h).2.1 c hc)
  have e2 : (f.threads.flatMap fun t => t.map (·.loc)).filter (· ≠ t0) = f.threads.flatMap fun t => (t.map (·.loc)).filter (· ≠ t0) := by
    induction f.threads with
    | nil => rfl
    | cons t r ih => rw [List.flatMap_cons, List.flatMap_cons, List.filter_append, ih]
  have e3 : ((f.cond.filter (·.thread = -1)).map (·.name)).filter (· ≠ t0) = (f.cond.filter (·.thread = -1)).map (·.name) := List.filter_eq_self.2 fun s hs => by
    obtain ⟨a, ha, rfl⟩ := List.mem_map.1 hs
    have ha' := List.mem_filter.1 ha
    have h3 := (atomsE_ok h2 a ha'.1).1
    have h4 : a.thread = -1 := by simpa using ha'.2
    rw [askB, if_pos h4] at h3
    simpa using name_ne h3
  rw [e1, e2, e3]
theorem locs_eq {f : File} (h : headE f = 0) (h2 : atomsE f.threads.length 0 f.cond = none) : locsF f = locsR f := by
  rw [locsR_eq, locsF, names_eq h h2]

/-- What the program's check finds. -/
def allE (f : File) : Option (Int × Int × Int) :=
  if headE f ≠ 0 then some (-1, -1, headE f)
  else match thrsE 0 f.threads with
    | some (t, i, e) => some (t, i, e)
    | none => match atomsE f.threads.length 0 f.cond with
      | some (i, e) => some (f.threads.length, i, e)
      | none => if 4 < (locsF f).length then some (-1, -1, 5) else none
theorem linesE_ne : ∀ {post pre : List Line} {i : Nat} {e : Int}, linesE pre post = some (i, e) → e ≠ 0
  | [], pre, i, e, h => by cases h
  | x :: post, pre, i, e, h => by
    simp only [linesE] at h
    split at h
    · rename_i h1; cases h; exact h1
    · exact linesE_ne h
theorem thrsE_ne : ∀ {l : List (List Line)} {k t i : Nat} {e : Int}, thrsE k l = some (t, i, e) → e ≠ 0
  | [], k, t, i, e, h => by cases h
  | x :: r, k, t, i, e, h => by
    simp only [thrsE] at h
    split at h
    · rename_i h1; cases h; exact linesE_ne h1
    · exact thrsE_ne h
theorem atomsE_ne {n : Nat} : ∀ {l : List Atom} {k i : Nat} {e : Int}, atomsE n k l = some (i, e) → e ≠ 0
  | [], k, i, e, h => by cases h
  | x :: r, k, i, e, h => by
    simp only [atomsE] at h
    split at h
    · rename_i h1; cases h; exact h1
    · exact atomsE_ne h
theorem allE_chk (f : File) : chkP f = (allE f).getD (0, 0, 0) ∧ ∀ p, allE f = some p → p.2.2 ≠ 0 := by
  unfold chkP allE
  by_cases hH : headE f = 0
  · simp only [hH, ne_eq, not_true_eq_false, if_false]
    cases hT : thrsE 0 f.threads with
    | some p =>
      obtain ⟨t, i, e⟩ := p
      exact ⟨rfl, fun p hp => by cases hp; exact thrsE_ne hT⟩
    | none =>
      simp only
      cases hA : atomsE f.threads.length 0 f.cond with
      | some p =>
        obtain ⟨i, e⟩ := p
        exact ⟨rfl, fun p hp => by cases hp; exact atomsE_ne hA⟩
      | none =>
        simp only
        rw [locs_eq hH hA]
        split
        · exact ⟨rfl, fun p hp => by cases hp; simp⟩
        · exact ⟨rfl, fun p hp => by cases hp⟩
  · simp only [hH, ne_eq, not_false_eq_true, if_true]
    exact ⟨rfl, fun p hp => by cases hp; exact hH⟩
theorem allE_right (f : File) : (allE f).isNone = rightB f := by
  obtain ⟨h1, h2⟩ := allE_chk f
  unfold rightB
  rw [h1]
  cases hA : allE f with
  | none => rfl
  | some p => simp [h2 p hA]
theorem right_iff (f : File) : rightB f = true ↔ headE f = 0 ∧ thrsE 0 f.threads = none ∧ atomsE f.threads.length 0 f.cond = none ∧ (locsR f).length ≤ 4 := by
  rw [← allE_right, Option.isNone_iff_eq_none]
  unfold allE
  by_cases hH : headE f = 0
  · simp only [hH, ne_eq, not_true_eq_false, if_false, true_and]
    cases hT : thrsE 0 f.threads with
    | some p => simp
    | none =>
      simp only [true_and]
      cases hA : atomsE f.threads.length 0 f.cond with
      | some p => simp
      | none =>
        simp only [true_and]
        rw [locs_eq hH hA]
        split <;> simp <;> omega
  · simp [hH]
theorem locsB_right {f : File} (h : rightB f = true) : locsB f = locsF f := by
  obtain ⟨h1, _, h2, _⟩ := (right_iff f).1 h
  rw [locsB, if_pos h, locs_eq h1 h2]
end Go.Fence

set_option linter.unusedVariables false
namespace Go.Fence
open Go Go.Shade

theorem less_eq : ∀ (x y : List UInt8), Op.bytesLess x y = decide (x < y)
  | [], [] => by simp [Op.bytesLess]
  | _ :: _, [] => by simp [Op.bytesLess]
  | [], _ :: _ => by simp [Op.bytesLess]
  | a :: x, b :: y => by
    rw [Op.bytesLess, less_eq x y]
    simp only [List.cons_lt_cons_iff]
    by_cases h1 : a < b <;> by_cases h2 : a = b <;> by_cases h3 : x < y <;> simp [h1, h2, h3]
theorem lt_eq (a b : ByteArray) : strLt a b = decide (a.data.toList < b.data.toList) := by
  unfold strLt
  rw [toList_data, toList_data, less_eq]

theorem mem_insL {s x : ByteArray} : ∀ {l : List ByteArray}, x ∈ insL s l ↔ x = s ∨ x ∈ l
  | [] => by simp [insL]
  | y :: r => by
    simp only [insL]
    split
    · simp
    · split
      · rename_i h; subst h; simp
      · simp only [List.mem_cons, mem_insL (l := r)]
        constructor
        · rintro (h | h | h)
          · exact .inr (.inl h)
          · exact .inl h
          · exact .inr (.inr h)
        · rintro (h | h | h)
          · exact .inr (.inl h)
          · exact .inl h
          · exact .inr (.inr h)
def Rise (l : List ByteArray) : Prop := l.Pairwise fun a b => strLt a b = true
theorem rise_ins {s : ByteArray} : ∀ {l : List ByteArray}, Rise l → Rise (insL s l)
  | [], _ => by simp [insL, Rise]
  | y :: r, h => by
    simp only [insL]
    split
    · rename_i h1
      refine List.pairwise_cons.2 ⟨fun z hz => ?_, h⟩
      rcases List.mem_cons.1 hz with rfl | hz
      · exact h1
      · exact lt_trans h1 ((List.pairwise_cons.1 h).1 z hz)
    · split
      · exact h
      · rename_i h1 h2
        refine List.pairwise_cons.2 ⟨fun z hz => ?_, rise_ins (List.pairwise_cons.1 h).2⟩
        rcases mem_insL.1 hz with rfl | hz
        · rcases lt_total z y with h3 | h3 | h3
          · exact absurd h3 h1
          · exact absurd h3 h2
          · exact h3
        · exact (List.pairwise_cons.1 h).1 z hz
theorem rise_fold : ∀ (ks a : List ByteArray), Rise a → Rise (ks.foldl (fun a s => insL s a) a)
  | [], a, h => h
  | s :: r, a, h => rise_fold r _ (rise_ins h)
theorem rise_set (ks : List ByteArray) : Rise (setL ks) := rise_fold ks [] List.Pairwise.nil
theorem mem_fold {x : ByteArray} : ∀ (ks a : List ByteArray), x ∈ ks.foldl (fun a s => insL s a) a ↔ x ∈ a ∨ x ∈ ks
  | [], a => by simp
  | s :: r, a => by
    rw [List.foldl_cons, mem_fold r, mem_insL, List.mem_cons]
    constructor
    · rintro ((h | h) | h)
      · exact .inr (.inl h)
      · exact .inl h
      · exact .inr (.inr h)
    · rintro (h | h | h)
      · exact .inl (.inr h)
      · exact .inl (.inl h)
      · exact .inr h
theorem mem_setL {x : ByteArray} {ks : List ByteArray} : x ∈ setL ks ↔ x ∈ ks := by
  unfold setL
  rw [mem_fold]
  simp
/-- Two rows that rise, of the same names, are one. -/
theorem rise_ext : ∀ {a b : List ByteArray}, Rise a → Rise b → (∀ x, x ∈ a ↔ x ∈ b) → a = b
  | [], [], _, _, _ => rfl
  | [], y :: r, _, _, h => by have := (h y).2 (by simp); cases this
  | x :: r, [], _, _, h => by have := (h x).1 (by simp); cases this
  | x :: r, y :: q, ha, hb, h => by
    have h1 := List.pairwise_cons.1 ha
    have h2 := List.pairwise_cons.1 hb
    have e : x = y := by
      rcases List.mem_cons.1 ((h x).1 (by simp)) with e | e
      · exact e
      · rcases List.mem_cons.1 ((h y).2 (by simp)) with e' | e'
        · exact e'.symm
        · have := lt_trans (h2.1 x e) (h1.1 y e')
          rw [lt_irrefl] at this
          cases this
    subst e
    refine congrArg (x :: ·) (rise_ext h1.2 h2.2 fun z => ?_)
    constructor
    · intro hz
      rcases List.mem_cons.1 ((h z).1 (List.mem_cons_of_mem _ hz)) with e | e
      · subst e
        have := h1.1 z hz
        rw [lt_irrefl] at this
        cases this
      · exact e
    · intro hz
      rcases List.mem_cons.1 ((h z).2 (List.mem_cons_of_mem _ hz)) with e | e
      · subst e
        have := h2.1 z hz
        rw [lt_irrefl] at this
        cases this
      · exact e
theorem setL_congr {a b : List ByteArray} (h : ∀ x, x ∈ a ↔ x ∈ b) : setL a = setL b := rise_ext (rise_set a) (rise_set b) fun x => by rw [mem_setL, mem_setL, h]
theorem setL_self {a : List ByteArray} (h : Rise a) : setL a = a := rise_ext (rise_set a) h fun x => mem_setL
theorem ins_perm {s : ByteArray} : ∀ {l : List ByteArray}, s ∉ l → (insL s l).Perm (s :: l)
  | [], _ => List.Perm.refl _
  | y :: r, h => by
    simp only [insL]
    split
    · exact List.Perm.refl _
    · split
      · rename_i h2; exact absurd (by simp [h2]) h
      · exact (List.Perm.cons y (ins_perm fun hm => h (List.mem_cons_of_mem _ hm))).trans (List.Perm.swap _ _ _)
theorem fold_perm : ∀ (ks a : List ByteArray), ks.Nodup → (∀ x ∈ ks, x ∉ a) → (ks.foldl (fun a s => insL s a) a).Perm (ks ++ a)
  | [], a, _, _ => List.Perm.refl _
  | s :: r, a, h, hd => by
    have h1 := List.nodup_cons.1 h
    refine (fold_perm r _ h1.2 fun x hx hm => ?_).trans ?_
    · rcases mem_insL.1 hm with rfl | hm
      · exact h1.1 hx
      · exact hd x (List.mem_cons_of_mem _ hx) hm
    · exact (List.Perm.append_left r (ins_perm (hd s (by simp)))).trans List.perm_middle
theorem setL_perm {ks : List ByteArray} (h : ks.Nodup) : (setL ks).Perm ks := by
  have := fold_perm ks [] h (by simp)
  rwa [List.append_nil] at this
/-- What a sort of these names' bytes gives. -/
theorem sorted_keys {ks : List ByteArray} {ss : List (List UInt8)} (hn : ks.Nodup) (hp : ss.Perm (ks.map fun s => s.data.toList)) : (ss.mergeSort fun x y => decide (x ≤ y)) = (setL ks).map fun s => s.data.toList := by
  refine List.Perm.eq_of_pairwise (le := fun x y => decide (x ≤ y) = true) (fun a b _ _ h1 h2 => ?_) ?_ ?_ ?_
  · exact List.le_antisymm (of_decide_eq_true h1) (of_decide_eq_true h2)
  · exact List.pairwise_mergeSort (le := fun (x y : List UInt8) => decide (x ≤ y)) (fun (a b c : List UInt8) h1 h2 => decide_eq_true (List.le_trans (of_decide_eq_true h1) (of_decide_eq_true h2))) (fun (a b : List UInt8) => by
      rcases List.le_total a b with h | h
      · simp [h]
      · simp [h]) _
  · rw [List.pairwise_map]
    refine (rise_set ks).imp fun {a b} h => ?_
    rw [lt_eq] at h
    exact decide_eq_true (show a.data.toList ≤ b.data.toList from List.le_of_lt (of_decide_eq_true h))
  · exact (List.mergeSort_perm _ _).trans (hp.trans ((setL_perm hn).map _).symm)

/-! maps that gather names -/
theorem mem_mput {k s : ByteArray} {v : V} : ∀ {es : List (ByteArray × V)}, s ∈ (mput k v es).map (·.1) ↔ s = k ∨ s ∈ es.map (·.1)
  | [] => by simp [mput]
  | (a, x) :: r => by
    by_cases h : k = a
    · subst h; simp [mput]
    · have := mem_mput (k := k) (s := s) (v := v) (es := r)
      simp only [mput, if_neg h, List.map_cons, List.mem_cons] at this ⊢
      rw [this]
      constructor
      · rintro (h | h | h)
        · exact .inr (.inl h)
        · exact .inl h
        · exact .inr (.inr h)
      · rintro (h | h | h)
        · exact .inr (.inl h)
        · exact .inl h
        · exact .inr (.inr h)
theorem len_mput {k : ByteArray} {v : V} : ∀ {es : List (ByteArray × V)}, (mput k v es).length ≤ es.length + 1
  | [] => by simp [mput]
  | (a, x) :: r => by
    by_cases h : k = a
    · simp [mput, h]
    · have := len_mput (k := k) (v := v) (es := r)
      simp only [mput, if_neg h, List.length_cons]
      omega
def cntN (names : List ByteArray) (s : ByteArray) : Nat := (names.filter fun x => decide (x = s)).length
theorem cntN_le (names : List ByteArray) (s : ByteArray) : cntN names s ≤ names.length := List.length_filter_le _ _
structure OKn (es : List (ByteArray × V)) (names : List ByteArray) : Prop where
  ok : OKm es fun s => (cntN names s : Int)
  mem : ∀ s, s ∈ es.map (·.1) ↔ s ∈ names
  len : es.length ≤ names.length
theorem OKn.nil : OKn [] [] := ⟨OKm.nil.congr (by simp [cntN]), by simp, by simp⟩
theorem OKn.put {es : List (ByteArray × V)} {names : List ByteArray} (h : OKn es names) (k : ByteArray) : OKn (mput k (.int .i64 ((cntN names k : Int) + 1)) es) (names ++ [k]) := by
  refine ⟨(h.ok.put k _).congr fun s => ?_, fun s => ?_, ?_⟩
  · by_cases hs : s = k
    · subst hs
      simp [cntN]
    · simp [hs, cntN, Ne.symm hs]
  · rw [mem_mput, h.mem]
    simp [or_comm]
  · have := len_mput (k := k) (v := V.int .i64 ((cntN names k : Int) + 1)) (es := es)
    have := h.len
    simp
    omega
end Go.Fence

set_option linter.unusedVariables false
namespace Go.Fence
open Go Go.Shade

/-- where a name stands; -1: it does not -/
def idxS (s : ByteArray) : List ByteArray → Int
  | [] => -1
  | x :: r => if s = x then 0 else if idxS s r < 0 then -1 else idxS s r + 1
theorem idxS_hit {s : ByteArray} : ∀ {l : List ByteArray} {i : Nat}, l[i]? = some s → (∀ j, j < i → l[j]? ≠ some s) → idxS s l = i
  | [], i, h, _ => by simp at h
  | x :: r, 0, h, _ => by simp at h; simp [idxS, h]
  | x :: r, i + 1, h, hj => by
    have h0 : s ≠ x := fun e => hj 0 (by omega) (by simp [e])
    have := idxS_hit (l := r) (i := i) (by simpa using h) (fun j hji => by have := hj (j + 1) (by omega); simpa using this)
    simp only [idxS, if_neg h0, this]
    rw [if_neg (by omega)]
    omega
theorem idxS_none {s : ByteArray} : ∀ {l : List ByteArray}, s ∉ l → idxS s l = -1
  | [], _ => rfl
  | x :: r, h => by
    have h0 : s ≠ x := fun e => h (by simp [e])
    have := idxS_none (l := r) fun hm => h (List.mem_cons_of_mem _ hm)
    simp [idxS, h0, this]
theorem idxS_mem {s : ByteArray} : ∀ {l : List ByteArray}, s ∈ l → 0 ≤ idxS s l ∧ l[(idxS s l).toNat]? = some s
  | [], h => by cases h
  | x :: r, h => by
    by_cases h0 : s = x
    · simp [idxS, h0]
    · have hm : s ∈ r := by
        rcases List.mem_cons.1 h with e | e
        · exact absurd e h0
        · exact e
      obtain ⟨h1, h2⟩ := idxS_mem hm
      simp only [idxS, if_neg h0]
      rw [if_neg (by omega)]
      refine ⟨by omega, ?_⟩
      rw [show (idxS s r + 1).toNat = (idxS s r).toNat + 1 by omega]
      simpa using h2
theorem idxS_lt {s : ByteArray} {l : List ByteArray} : idxS s l < l.length := by
  by_cases h : s ∈ l
  · obtain ⟨h1, h2⟩ := idxS_mem h
    have := (List.getElem?_eq_some_iff.1 h2).1
    omega
  · rw [idxS_none h]; omega
/-- the first place of which something holds; -1: there is none -/
def firstI {α : Type} (p : α → Bool) : List α → Int
  | [] => -1
  | x :: r => if p x = true then 0 else if firstI p r < 0 then -1 else firstI p r + 1
theorem firstI_hit {α : Type} {p : α → Bool} : ∀ {l : List α} {i : Nat} {x : α}, l[i]? = some x → p x = true → (∀ j y, j < i → l[j]? = some y → p y = false) → firstI p l = i
  | [], i, x, h, _, _ => by simp at h
  | y :: r, 0, x, h, hp, _ => by simp at h; simp [firstI, h, hp]
  | y :: r, i + 1, x, h, hp, hj => by
    have h0 := hj 0 y (by omega) (by simp)
    have := firstI_hit (l := r) (i := i) (by simpa using h) hp (fun j z hji hz => hj (j + 1) z (by omega) (by simpa using hz))
    simp only [firstI, h0, this, Bool.false_eq_true, if_false]
    rw [if_neg (by omega)]
    omega
theorem firstI_none {α : Type} {p : α → Bool} : ∀ {l : List α}, (∀ x ∈ l, p x = false) → firstI p l = -1
  | [], _ => rfl
  | x :: r, h => by
    have := firstI_none (l := r) fun y hy => h y (List.mem_cons_of_mem _ hy)
    simp [firstI, h x (by simp), this]
theorem firstI_any {α : Type} (p : α → Bool) : ∀ l : List α, decide (0 ≤ firstI p l) = l.any p
  | [] => rfl
  | x :: r => by
    have := firstI_any p r
    rw [List.any_cons, ← this]
    have e : firstI p (x :: r) = if p x = true then 0 else if firstI p r < 0 then -1 else firstI p r + 1 := rfl
    rw [e]
    cases hp : p x with
    | true => rfl
    | false =>
      simp only [Bool.false_eq_true, if_false, Bool.false_or]
      by_cases h : firstI p r < 0
      · have h1 : ¬ (0 ≤ firstI p r) := by omega
        rw [if_pos h]
        simp [h1]
      · have h1 : 0 ≤ firstI p r := by omega
        have h2 : 0 ≤ firstI p r + 1 := by omega
        rw [if_neg h]
        simp [h1, h2]
/-- what an atom names -/
def atomV (locs : List ByteArray) (o : Out) (a : Atom) : Option Int :=
  if 0 ≤ a.thread then o.regs[(4 * a.thread + regI a.name).toNat]? else o.mem[(idxS a.name locs).toNat]?
def holdP (locs : List ByteArray) (o : Out) (a : Atom) : Bool := decide (atomV locs o a = some a.n)
def fitsB (f : File) (o : Out) : Bool := decide (o.mem.length = (locsB f).length) && decide (o.regs.length = 4 * f.threads.length)
def holdsB (f : File) (o : Out) : Bool := fitsB f o && f.cond.all (holdP (locsB f) o)
def valueB (f : File) (l : List Out) : Bool := l.any (fun o => holdsB f o == !f.all) == !f.all
/-- Of a right program each atom names something of an end that fits. -/
theorem atomV_some {f : File} {o : Out} {a : Atom} (hr : rightB f = true) (hfit : fitsB f o = true) (ha : a ∈ f.cond) :
    (0 ≤ a.thread → 0 ≤ 4 * a.thread + regI a.name ∧ 4 * a.thread + regI a.name < o.regs.length ∧ a.thread < 3) ∧ (¬ 0 ≤ a.thread → a.name ∈ locsB f ∧ o.mem.length = (locsB f).length) := by
  obtain ⟨h1, h2, h3, h4⟩ := (right_iff f).1 hr
  obtain ⟨k1, k2⟩ := atomsE_ok h3 a ha
  simp only [fitsB, Bool.and_eq_true, decide_eq_true_eq] at hfit
  refine ⟨fun h => ?_, fun h => ?_⟩
  · unfold askB at k1
    rw [if_neg (by omega)] at k1
    simp only [Bool.and_eq_true, decide_eq_true_eq] at k1
    have := (regI_le a.name).2
    omega
  · unfold askB at k1
    split at k1
    · rename_i ht
      refine ⟨?_, hfit.1⟩
      rw [locsB_right hr, locsF, mem_setL]
      unfold namesF
      exact List.mem_append_right _ (List.mem_map.2 ⟨a, List.mem_filter.2 ⟨ha, by simpa using ht⟩, rfl⟩)
    · simp only [Bool.and_eq_true, decide_eq_true_eq] at k1
      omega

/-! ### what is too much -/
def greatL (x : Line) : Bool := decide (1000 < (x.reg.size : Int)) || decide (1000 < (x.loc.size : Int)) || decide (1000 < (x.label.size : Int))
def greatB (f : File) : Bool := decide (9 < (f.threads.length : Int)) || decide (60 < (f.init.length : Int)) || decide (60 < (f.cond.length : Int)) || decide (1000 < (f.name.size : Int)) ||
  f.init.any (fun c => decide (100 < (c.loc.size : Int))) || f.cond.any (fun a => decide (100 < (a.name.size : Int))) || f.threads.any (fun t => decide (100 < (t.length : Int)) || t.any greatL)
def bigB (l : List Out) : Bool := decide (150 < (l.length : Int)) || l.any fun o => decide (100 < (o.mem.length : Int)) || decide (100 < (o.regs.length : Int))
theorem sum_le {α : Type} (g : α → Nat) (m : Nat) : ∀ l : List α, (∀ x ∈ l, g x ≤ m) → (l.map g).sum ≤ l.length * m
  | [], _ => by simp
  | x :: r, h => by
    have := sum_le g m r fun y hy => h y (List.mem_cons_of_mem _ hy)
    have h1 := h x (by simp)
    rw [List.map_cons, List.sum_cons, List.length_cons, Nat.add_mul]
    omega
theorem great_names {f : File} (h : greatB f = false) : (namesR f).length ≤ 500000 ∧ f.threads.length ≤ 9 ∧ f.init.length ≤ 60 ∧ f.cond.length ≤ 60 ∧ ∀ t ∈ f.threads, t.length ≤ 100 := by
  unfold greatB at h
  simp only [Bool.or_eq_false_iff, decide_eq_false_iff_not, List.any_eq_false] at h
  obtain ⟨⟨⟨⟨⟨⟨h1, h2⟩, h3⟩, h4⟩, h5⟩, h6⟩, h7⟩ := h
  have ht : ∀ t ∈ f.threads, t.length ≤ 100 := fun t ht => by
    have := h7 t ht
    simp only [Bool.or_eq_true, not_or, decide_eq_true_eq] at this
    omega
  refine ⟨?_, by omega, by omega, by omega, ht⟩
  unfold namesR
  simp only [List.length_append, List.length_map, List.length_flatMap]
  have := sum_le (fun t : List Line => t.length) 100 f.threads ht
  have := List.length_filter_le (fun a : Atom => decide (a.thread = -1)) f.cond
  omega
end Go.Fence

set_option linter.unusedVariables false
namespace Go.Fence
open Go Go.Shade

theorem any_ne {α : Type} (p : α → Bool) : ∀ l : List α, (l.any (fun o => p o == !true) == !true) = l.all p
  | [] => rfl
  | x :: r => by
    have := any_ne p r
    rw [List.any_cons, List.all_cons, ← this]
    cases p x <;> simp
theorem any_eq {α : Type} (p : α → Bool) : ∀ l : List α, (l.any (fun o => p o == !false) == !false) = l.any p
  | [] => rfl
  | x :: r => by
    have := any_eq p r
    rw [List.any_cons, List.any_cons, ← this]
    cases p x <;> simp
def File.put (f : File) (b : Bool) : File := ⟨f.name, f.init, f.threads, b, f.cond⟩
def File.ask (f : File) (c : List Atom) : File := ⟨f.name, f.init, f.threads, f.all, c⟩
theorem value_all (f : File) (l : List Out) : valueB (f.put true) l = l.all (holdsB f) := any_ne (holdsB f) l
theorem value_some (f : File) (l : List Out) : valueB (f.put false) l = l.any (holdsB f) := any_eq (holdsB f) l
theorem value_and {f : File} (h : f.all = true) (l m : List Out) : valueB f (l ++ m) = (valueB f l && valueB f m) := by
  unfold valueB
  rw [h, any_ne, any_ne, any_ne, List.all_append]
theorem value_or {f : File} (h : f.all = false) (l m : List Out) : valueB f (l ++ m) = (valueB f l || valueB f m) := by
  unfold valueB
  rw [h, any_eq, any_eq, any_eq, List.any_append]
/-- not too much to ask -/
theorem guard_ok {f : File} {l : List Out} (h : (greatB f || (!rightB f || bigB l)) = false) : (namesR f).length ≤ 500000 ∧ f.threads.length ≤ 100 ∧ rightB f = true ∧ l.length ≤ 150 ∧ f.cond.length ≤ 60 ∧ (∀ o ∈ l, o.mem.length ≤ 100 ∧ o.regs.length ≤ 100) ∧ ∀ c : List Atom, c.length ≤ 61 → (namesR (f.ask c)).length ≤ 500000 := by
  simp only [Bool.or_eq_false_iff] at h
  obtain ⟨h1, h2, h3⟩ := h
  obtain ⟨k1, k2, k3, k4, k5⟩ := great_names h1
  simp only [bigB, Bool.or_eq_false_iff, List.any_eq_false, decide_eq_false_iff_not] at h3
  refine ⟨k1, by omega, by simpa using h2, by omega, k4, fun o ho => ?_, fun c hc => ?_⟩
  · have := h3.2 o ho
    simp only [Bool.or_eq_true, decide_eq_true_eq, not_or] at this
    omega
  · unfold namesR File.ask
    simp only [List.length_append, List.length_map, List.length_flatMap]
    have := sum_le (fun t : List Line => t.length) 100 f.threads k5
    have := List.length_filter_le (fun a : Atom => decide (a.thread = -1)) c
    omega
/-- Of two rising lists the lesser is no longer, and as long only if they are the same. -/
theorem rise_sub : ∀ {b a : List ByteArray}, Rise a → Rise b → (∀ x ∈ a, x ∈ b) → a.length ≤ b.length ∧ (a.length = b.length → a = b)
  | b, [], _, _, _ => by
    refine ⟨by simp, fun h => ?_⟩
    cases b with
    | nil => rfl
    | cons x r => simp at h
  | [], x :: a, _, _, h => absurd (h x (by simp)) (by simp)
  | y :: b, x :: a, ha, hb, h => by
    have hxa := fun z hz => List.rel_of_pairwise_cons ha (a' := z) hz
    by_cases hxy : x = y
    · subst hxy
      obtain ⟨h1, h2⟩ := rise_sub (b := b) (a := a) ha.of_cons hb.of_cons fun z hz => by
        rcases List.mem_cons.1 (h z (List.mem_cons_of_mem _ hz)) with e | e
        · exact absurd (e ▸ hxa z hz) (by simp [lt_irrefl])
        · exact e
      refine ⟨by simp; omega, fun hl => ?_⟩
      rw [h2 (by simpa using hl)]
    · have hxb : x ∈ b := (List.mem_cons.1 (h x (by simp))).resolve_left hxy
      have hyx := List.rel_of_pairwise_cons hb hxb
      obtain ⟨h1, h2⟩ := rise_sub (b := b) (a := x :: a) ha hb.of_cons fun z hz => by
        rcases List.mem_cons.1 (h z hz) with e | e
        · subst e
          rcases List.mem_cons.1 hz with e' | e'
          · exact absurd e'.symm hxy
          · have := hxa z e'
            rw [lt_eq] at this hyx
            simp only [decide_eq_true_eq] at this hyx
            exact absurd (List.lt_trans this hyx) (List.lt_irrefl _)
        · exact e
      exact ⟨Nat.le_trans h1 (by simp), fun hl => by simp at hl h1; omega⟩
/-- Asked less, a right program is right still. -/
theorem ask_less {f : File} {c : List Atom} (hr : rightB f = true) (hc : ∀ a ∈ c, a ∈ f.cond) (hl : c.length ≤ 6) :
    rightB (f.ask c) = true ∧ (locsB (f.ask c)).length ≤ (locsB f).length ∧ ((locsB (f.ask c)).length = (locsB f).length → locsB (f.ask c) = locsB f) := by
  obtain ⟨h1, h2, h3, h4⟩ := (right_iff f).1 hr
  have h3' : atomsE f.threads.length 0 c = none := atomsE_mk (by omega) fun a ha => atomsE_ok h3 a (hc a ha)
  have hsub := rise_sub (rise_set (namesF (f.ask c))) (rise_set (namesF f)) fun x hx => by
    rw [mem_setL] at hx ⊢
    unfold namesF File.ask at hx
    unfold namesF
    rcases List.mem_append.1 hx with hx | hx
    · exact List.mem_append_left _ hx
    · obtain ⟨a, ha, rfl⟩ := List.mem_map.1 hx
      obtain ⟨ha1, ha2⟩ := List.mem_filter.1 ha
      exact List.mem_append_right _ (List.mem_map.2 ⟨a, List.mem_filter.2 ⟨hc a ha1, ha2⟩, rfl⟩)
  have hr' : rightB (f.ask c) = true := by
    refine (right_iff _).2 ⟨h1, h2, h3', ?_⟩
    rw [← locs_eq (f := f.ask c) h1 h3']
    rw [← locs_eq h1 h3] at h4
    exact Nat.le_trans hsub.1 h4
  refine ⟨hr', ?_⟩
  rw [locsB_right hr, locsB_right hr']
  exact hsub
theorem holds_ask {f : File} {c : List Atom} {o : Out} (h : locsB (f.ask c) = locsB f) : holdsB (f.ask c) o = (fitsB f o && c.all (holdP (locsB f) o)) := by
  unfold holdsB fitsB
  rw [h]
  rfl
/-- each part of what is asked, by itself -/
theorem parts_all {α : Type} (b : Bool) (p : α → Bool) : ∀ l : List α, (l.all (fun a => b && p a) && b) = (b && l.all p)
  | [] => by simp
  | x :: r => by
    have := parts_all b p r
    rw [List.all_cons, List.all_cons]
    cases b
    · simp
    · simp
theorem regI_regN {n : Int} (h : 0 ≤ n ∧ n < 4) : regI (regN n) = n := by
  obtain ⟨k, rfl⟩ := Int.eq_ofNat_of_zero_le h.1
  have : k < 4 := by omega
  match k, this with
  | 0, _ | 1, _ | 2, _ | 3, _ => decide
  | k + 4, h => omega
theorem idxS_at {s : ByteArray} {l : List ByteArray} {i : Nat} (h : Rise l) (hi : l[i]? = some s) : idxS s l = i := by
  refine idxS_hit hi fun j hj hjs => ?_
  obtain ⟨h1, h2⟩ := List.getElem?_eq_some_iff.1 hi
  obtain ⟨h3, h4⟩ := List.getElem?_eq_some_iff.1 hjs
  have := List.pairwise_iff_getElem.1 h j i h3 h1 hj
  rw [h2, h4, lt_irrefl] at this
  cases this
theorem rise_locs {f : File} (hr : rightB f = true) : Rise (locsB f) := by
  rw [locsB_right hr]
  exact rise_set _
theorem ask_more {f : File} {a : Atom} {o : Out} (hr : rightB f = true) (hg : rightB (f.ask (f.cond ++ [a])) = true) (ha : a.thread = -1 → a.name ∈ locsB f) :
    holdsB (f.ask (f.cond ++ [a])) o = (holdsB f o && holdP (locsB f) o a) := by
  have hl : locsB (f.ask (f.cond ++ [a])) = locsB f := by
    rw [locsB_right hr] at ha ⊢
    rw [locsB_right hg]
    refine setL_congr fun x => ?_
    unfold namesF File.ask
    simp only [List.filter_append, List.map_append, List.mem_append]
    refine ⟨fun h => ?_, fun h => ?_⟩
    · rcases h with h | h | h
      · exact .inl h
      · exact .inr h
      · obtain ⟨b, hb, rfl⟩ := List.mem_map.1 h
        obtain ⟨hb1, hb2⟩ := List.mem_filter.1 hb
        obtain rfl := List.mem_singleton.1 hb1
        have := ha (by simpa using hb2)
        rw [locsF, mem_setL] at this
        unfold namesF at this
        simpa only [List.mem_append] using this
    · rcases h with h | h
      · exact .inl h
      · exact .inr (.inl h)
  rw [holds_ask hl, holdsB, List.all_append]
  simp [Bool.and_assoc]
theorem name_fit {f : File} (hf : f.Fit) {s : ByteArray} (h : s ∈ locsB f) (hr : rightB f = true) : S47 s := by
  rw [locsB_right hr, locsF, mem_setL] at h
  unfold namesF at h
  simp only [List.mem_append] at h
  rcases h with (h | h) | h
  · obtain ⟨c, hc, rfl⟩ := List.mem_map.1 h
    exact (hf.init.2 c hc).loc
  · obtain ⟨t, ht, h⟩ := List.mem_flatMap.1 h
    obtain ⟨x, hx, rfl⟩ := List.mem_map.1 (List.mem_filter.1 h).1
    exact ((hf.threads.2 t ht).2 x hx).loc
  · obtain ⟨a, ha, rfl⟩ := List.mem_map.1 h
    exact (hf.cond.2 a (List.mem_filter.1 ha).1).name
theorem regN_fit (n : Int) : S47 (regN n) := by
  unfold regN
  repeat' split
  all_goals (unfold S47; decide)
theorem i64_small {n : Int} (h1 : -1000 ≤ n) (h2 : n ≤ 1000) : I64 n := by
  simp only [I64, Lit.wf, IntKind.min, IntKind.max, Bool.and_eq_true, decide_eq_true_eq, IntKind.signed, IntKind.bits]
  constructor <;> simp <;> omega
theorem ask_fit {f : File} (hf : f.Fit) {a : Atom} (ha : a.Fit) (h : f.cond.length ≤ 60) : (f.ask (f.cond ++ [a])).Fit := by
  refine ⟨hf.name, hf.init, hf.threads, ?_, fun x hx => ?_⟩
  · show (f.cond ++ [a]).length ≤ maxLen
    simp only [List.length_append, List.length_singleton, maxLen]
    omega
  · rcases List.mem_append.1 hx with hx | hx
    · exact hf.cond.2 x hx
    · rw [List.mem_singleton.1 hx]; exact ha
end Go.Fence
