/-
  The shadow's equations in the forms that a rewriting takes. Printed by gensh4.py.
-/
import Derived.Test.YtcecleclipcheaaSh3
set_option linter.unusedVariables false
namespace Go.Shade
open Go

section
variable {k : St → Option (Ex × St)} {S : St} {id i : Nat} {fn : Func} {P : Program}
theorem thenE_nm : thenE (some (.nm, S)) k = k S := rfl
theorem thenE_ex : thenE (some (.ex i, S)) k = some (.ex i, S) := rfl
theorem thenE_rt : thenE (some (.rt, S)) k = some (.rt, S) := rfl
theorem thenE_none : thenE none k = none := rfl
theorem blockE_nm : blockE id (some (.nm, S)) = some (.nm, S) := rfl
theorem blockE_rt : blockE id (some (.rt, S)) = some (.rt, S) := rfl
theorem blockE_ex : blockE id (some (.ex i, S)) = if i = id then some (.nm, S) else some (.ex i, S) := rfl
theorem blockE_none : blockE id none = none := rfl
theorem bodyE_nm : bodyE P fn (some (.nm, S)) = backV P fn S := rfl
theorem bodyE_rt : bodyE P fn (some (.rt, S)) = backV P fn S := rfl
end
section
variable {α : Type} {a b d : Nat} {x v : α} {r : List (Nat × α)}
theorem look_nil : look ([] : List (Nat × α)) b = none := rfl
theorem look_cons : look ((a, x) :: r) b = if a = b then some x else look r b := rfl
theorem ins_nil : ins d v ([] : List (Nat × α)) = [(d, v)] := rfl
theorem ins_cons : ins d v ((a, x) :: r) = if a < d then (d, v) :: (a, x) :: r else if a = d then (d, v) :: r else (a, x) :: ins d v r := rfl
end
section
variable {f : Fr} {r : Stk} {l t : Nat} {b : B}
theorem lookB_zero : lookB (f :: r) 0 t = look f t := rfl
theorem lookB_one : lookB (f :: r) 1 t = lookB r 0 t := rfl
theorem lookB_two : lookB (f :: r) 2 t = lookB r 1 t := rfl
theorem lookB_three : lookB (f :: r) 3 t = lookB r 2 t := rfl
theorem setB_zero : setB (f :: r) 0 t b = ins t b f :: r := rfl
theorem setB_one : setB (f :: r) 1 t b = f :: setB r 0 t b := rfl
theorem setB_two : setB (f :: r) 2 t b = f :: setB r 1 t b := rfl
theorem setB_three : setB (f :: r) 3 t b = f :: setB r 2 t b := rfl
theorem newB_cons : newB (f :: r) t b = ins t b f :: r := rfl
end

section
variable {P : Program} {A : An} {pr : FuncId → Option (List V → Stk → Option (V × Stk))} {F : FuncId} {tm : List (Nat × V)} {stk : Stk}
/-- a test's code, both ways -/
noncomputable def condE (P : Program) (A : An) (pr : FuncId → Option (List V → Stk → Option (V × Stk))) (F : FuncId) (x y : Code) (S : St) : Option V → Option (Ex × St)
  | some (.bool true) => ev P A pr F x S
  | some (.bool false) => ev P A pr F y S
  | _ => none
theorem ev_condE {c : Operand} {x y : Code} : ev P A pr F (.cond c x y) ⟨tm, stk⟩ = condE P A pr F x y ⟨tm, stk⟩ (opd tm c) := ev_cond
theorem condE_true {x y : Code} {S : St} : condE P A pr F x y S (some (.bool true)) = ev P A pr F x S := rfl
theorem condE_false {x y : Code} {S : St} : condE P A pr F x y S (some (.bool false)) = ev P A pr F y S := rfl
theorem evR_false {c : Call} {rid : Nat} {ops : List Oper} : evR P A c F rid ops.toArray false ⟨tm, stk⟩ = evL P A c F none false ops.toArray ops tm stk := by simp [evR]
theorem evR_true {c : Call} {rid : Nat} {ops : List Oper} : evR P A c F rid ops.toArray true ⟨tm, stk⟩ = evL P A c F (if A.eff F rid then none else some stk) (!A.eff F rid) ops.toArray ops tm stk := by simp [evR]
theorem opd_tmp {t : Nat} : opd tm (.tmp t) = look tm t := rfl
theorem opd_int {k : IntKind} {n : Int} : opd tm (.const (.int k n)) = some (.int k n) := rfl
theorem opd_bool {b : Bool} : opd tm (.const (.bool b)) = some (.bool b) := rfl
theorem opd_str {s : ByteArray} : opd tm (.const (.string s)) = some (.str s) := rfl
theorem opd_nil : opd tm (.const (.slice none 0 0)) = some (.nl 0) := rfl
theorem opd_nili : opd tm (.const .nilIface) = some .nili := rfl
theorem opd_func {f : FuncId} : opd tm (.func f) = some (.fn f [] []) := rfl
def cons2 (a : Option V) (b : Option (List V)) : Option (List V) := match a, b with
  | some v, some vs => some (v :: vs)
  | _, _ => none
theorem cons2_some {v : V} {vs : List V} : cons2 (some v) (some vs) = some (v :: vs) := rfl
theorem opds_nil : opds tm [] = some [] := rfl
theorem opds_cons {x : Operand} {r : List Operand} : opds tm (x :: r) = cons2 (opd tm x) (opds tm r) := by
  simp only [opds, cons2]; rfl
end

section
variable {j : Nat} {stk : Stk} {fr : Fr} {P : Program} {ty : TypeId}
theorem sh_int {k : IntKind} {n : Int} : V.sh j (.int k n : V) = (.int k n : V) := rfl
theorem un_int {k : IntKind} {n : Int} : V.un j (.int k n : V) = some (.int k n : V) := rfl
theorem co_int {k : IntKind} {n : Int} : V.co stk (.int k n : V) = some (.int k n : V) := rfl
theorem fz_int {k : IntKind} {n : Int} : V.fzS (.int k n : V) stk = stk := rfl
theorem pure_int {k : IntKind} {n : Int} : V.pure (.int k n : V) = true := rfl
theorem cs_int {k : IntKind} {n : Int} : V.cs (.int k n : V) = [(.int k n : V)] := rfl
theorem cl_int {k : IntKind} {n : Int} : V.cl fr (.int k n : V) = some (.int k n : V) := rfl
theorem nls_int {k : IntKind} {n : Int} : V.nls (.int k n : V) = (.int k n : V) := rfl
theorem fixNl_int {k : IntKind} {n : Int} : fixNl P ty (.int k n : V) = (.int k n : V) := rfl
theorem sh_bool {b : Bool} : V.sh j (.bool b : V) = (.bool b : V) := rfl
theorem un_bool {b : Bool} : V.un j (.bool b : V) = some (.bool b : V) := rfl
theorem co_bool {b : Bool} : V.co stk (.bool b : V) = some (.bool b : V) := rfl
theorem fz_bool {b : Bool} : V.fzS (.bool b : V) stk = stk := rfl
theorem pure_bool {b : Bool} : V.pure (.bool b : V) = true := rfl
theorem cs_bool {b : Bool} : V.cs (.bool b : V) = [(.bool b : V)] := rfl
theorem cl_bool {b : Bool} : V.cl fr (.bool b : V) = some (.bool b : V) := rfl
theorem nls_bool {b : Bool} : V.nls (.bool b : V) = (.bool b : V) := rfl
theorem fixNl_bool {b : Bool} : fixNl P ty (.bool b : V) = (.bool b : V) := rfl
theorem sh_str {s : ByteArray} : V.sh j (.str s : V) = (.str s : V) := rfl
theorem un_str {s : ByteArray} : V.un j (.str s : V) = some (.str s : V) := rfl
theorem co_str {s : ByteArray} : V.co stk (.str s : V) = some (.str s : V) := rfl
theorem fz_str {s : ByteArray} : V.fzS (.str s : V) stk = stk := rfl
theorem pure_str {s : ByteArray} : V.pure (.str s : V) = true := rfl
theorem cs_str {s : ByteArray} : V.cs (.str s : V) = [(.str s : V)] := rfl
theorem cl_str {s : ByteArray} : V.cl fr (.str s : V) = some (.str s : V) := rfl
theorem nls_str {s : ByteArray} : V.nls (.str s : V) = (.str s : V) := rfl
theorem fixNl_str {s : ByteArray} : fixNl P ty (.str s : V) = (.str s : V) := rfl
theorem sh_sl {sz : Nat} {rows : List (List V)} : V.sh j (.sl sz rows : V) = (.sl sz rows : V) := rfl
theorem un_sl {sz : Nat} {rows : List (List V)} : V.un j (.sl sz rows : V) = some (.sl sz rows : V) := rfl
theorem co_sl {sz : Nat} {rows : List (List V)} : V.co stk (.sl sz rows : V) = some (.sl sz rows : V) := rfl
theorem fz_sl {sz : Nat} {rows : List (List V)} : V.fzS (.sl sz rows : V) stk = stk := rfl
theorem pure_sl {sz : Nat} {rows : List (List V)} : V.pure (.sl sz rows : V) = true := rfl
theorem cs_sl {sz : Nat} {rows : List (List V)} : V.cs (.sl sz rows : V) = [(.sl sz rows : V)] := rfl
theorem cl_sl {sz : Nat} {rows : List (List V)} : V.cl fr (.sl sz rows : V) = some (.sl sz rows : V) := rfl
theorem nls_sl {sz : Nat} {rows : List (List V)} : V.nls (.sl sz rows : V) = (.sl sz rows : V) := rfl
theorem fixNl_sl {sz : Nat} {rows : List (List V)} : fixNl P ty (.sl sz rows : V) = (.sl sz rows : V) := rfl
theorem sh_nl {sz : Nat} : V.sh j (.nl sz : V) = (.nl sz : V) := rfl
theorem un_nl {sz : Nat} : V.un j (.nl sz : V) = some (.nl sz : V) := rfl
theorem co_nl {sz : Nat} : V.co stk (.nl sz : V) = some (.sl sz []) := rfl
theorem fz_nl {sz : Nat} : V.fzS (.nl sz : V) stk = stk := rfl
theorem pure_nl {sz : Nat} : V.pure (.nl sz : V) = false := rfl
theorem cs_nl {sz : Nat} : V.cs (.nl sz : V) = [(.nl sz : V)] := rfl
theorem cl_nl {sz : Nat} : V.cl fr (.nl sz : V) = some (.nl sz : V) := rfl
theorem nls_nl {sz : Nat} : V.nls (.nl sz : V) = .sl sz [] := rfl
theorem fixNl_nl {sz : Nat} : fixNl P ty (.nl sz : V) = .nl ((slSz P ty).getD sz) := rfl
theorem sh_ap {l : Nat} {t : Nat} {sz : Nat} {rows : List (List V)} : V.sh j (.ap l t sz rows : V) = .ap (l + j) t sz rows := rfl
theorem un_ap {l : Nat} {t : Nat} {sz : Nat} {rows : List (List V)} : V.un j (.ap l t sz rows : V) = if j ≤ l then some (.ap (l - j) t sz rows) else some (.sl sz rows) := rfl
theorem co_ap {l : Nat} {t : Nat} {sz : Nat} {rows : List (List V)} : V.co stk (.ap l t sz rows : V) = some (.sl sz rows) := rfl
theorem fz_ap {l : Nat} {t : Nat} {sz : Nat} {rows : List (List V)} : V.fzS (.ap l t sz rows : V) stk = stk := rfl
theorem pure_ap {l : Nat} {t : Nat} {sz : Nat} {rows : List (List V)} : V.pure (.ap l t sz rows : V) = false := rfl
theorem cs_ap {l : Nat} {t : Nat} {sz : Nat} {rows : List (List V)} : V.cs (.ap l t sz rows : V) = [(.ap l t sz rows : V)] := rfl
theorem cl_ap {t : Nat} {sz : Nat} {rows : List (List V)} : V.cl fr (.ap 0 t sz rows : V) = (match look fr t with | some _ => some (.ap 0 t sz rows : V) | none => some (.sl sz rows)) := rfl
theorem cl_ap_some {t : Nat} {sz : Nat} {rows : List (List V)} {q : B} (h : look fr t = some q) : V.cl fr (.ap 0 t sz rows : V) = some (.ap 0 t sz rows : V) := by rw [cl_ap, h]
theorem cl_ap1 {t : Nat} {sz : Nat} {rows : List (List V)} : V.cl fr (.ap 1 t sz rows : V) = some (.ap 1 t sz rows) := rfl
theorem nls_ap {l : Nat} {t : Nat} {sz : Nat} {rows : List (List V)} : V.nls (.ap l t sz rows : V) = (.ap l t sz rows : V) := rfl
theorem fixNl_ap {l : Nat} {t : Nat} {sz : Nat} {rows : List (List V)} : fixNl P ty (.ap l t sz rows : V) = (.ap l t sz rows : V) := rfl
theorem sh_row {l : Nat} {t : Nat} : V.sh j (.row l t : V) = .row (l + j) t := rfl
theorem un_row {l : Nat} {t : Nat} : V.un j (.row l t : V) = if j ≤ l then some (.row (l - j) t) else none := rfl
def rowCo : Option B → Option V
  | some (.fz sz xs) => some (.sl sz xs)
  | _ => none
theorem rowCo_fz {sz : Nat} {xs : List (List V)} : rowCo (some (.fz sz xs)) = some (.sl sz xs) := rfl
theorem co_row {l : Nat} {t : Nat} : V.co stk (.row l t : V) = rowCo (lookB stk l t) := by simp only [V.co, rowCo]; rfl
def rowFz (stk : Stk) (l t : Nat) : Option B → Stk
  | some (.row sz xs) => setB stk l t (.fz sz xs)
  | _ => stk
theorem rowFz_row {l t sz : Nat} {xs : List (List V)} : rowFz stk l t (some (.row sz xs)) = setB stk l t (.fz sz xs) := rfl
theorem rowFz_fz {l t sz : Nat} {xs : List (List V)} : rowFz stk l t (some (.fz sz xs)) = stk := rfl
theorem fz_row {l : Nat} {t : Nat} : V.fzS (.row l t : V) stk = rowFz stk l t (lookB stk l t) := by simp only [V.fzS, rowFz]; rfl
theorem pure_row {l : Nat} {t : Nat} : V.pure (.row l t : V) = false := rfl
theorem cs_row {l : Nat} {t : Nat} : V.cs (.row l t : V) = [(.row l t : V)] := rfl
theorem cl_row {t : Nat} : V.cl fr (.row 0 t : V) = (match look fr t with | some _ => some (.row 0 t : V) | none => none) := rfl
theorem cl_row_some {t : Nat} {q : B} (h : look fr t = some q) : V.cl fr (.row 0 t : V) = some (.row 0 t : V) := by rw [cl_row, h]
theorem cl_row1 {t : Nat} : V.cl fr (.row 1 t : V) = some (.row 1 t) := rfl
theorem nls_row {l : Nat} {t : Nat} : V.nls (.row l t : V) = (.row l t : V) := rfl
theorem fixNl_row {l : Nat} {t : Nat} : fixNl P ty (.row l t : V) = (.row l t : V) := rfl
theorem sh_ptr {l : Nat} {t : Nat} {o : Nat} : V.sh j (.ptr l t o : V) = .ptr (l + j) t o := rfl
theorem un_ptr {l : Nat} {t : Nat} {o : Nat} : V.un j (.ptr l t o : V) = if j ≤ l then some (.ptr (l - j) t o) else none := rfl
theorem co_ptr {l : Nat} {t : Nat} {o : Nat} : V.co stk (.ptr l t o : V) = some (.ptr l t o : V) := rfl
theorem fz_ptr {l : Nat} {t : Nat} {o : Nat} : V.fzS (.ptr l t o : V) stk = stk := rfl
theorem pure_ptr {l : Nat} {t : Nat} {o : Nat} : V.pure (.ptr l t o : V) = false := rfl
theorem cs_ptr {l : Nat} {t : Nat} {o : Nat} : V.cs (.ptr l t o : V) = [(.ptr l t o : V)] := rfl
theorem cl_ptr {t : Nat} {o : Nat} : V.cl fr (.ptr 0 t o : V) = (match look fr t with | some _ => some (.ptr 0 t o : V) | none => none) := rfl
theorem cl_ptr_some {t : Nat} {o : Nat} {q : B} (h : look fr t = some q) : V.cl fr (.ptr 0 t o : V) = some (.ptr 0 t o : V) := by rw [cl_ptr, h]
theorem cl_ptr1 {t : Nat} {o : Nat} : V.cl fr (.ptr 1 t o : V) = some (.ptr 1 t o) := rfl
theorem nls_ptr {l : Nat} {t : Nat} {o : Nat} : V.nls (.ptr l t o : V) = (.ptr l t o : V) := rfl
theorem fixNl_ptr {l : Nat} {t : Nat} {o : Nat} : fixNl P ty (.ptr l t o : V) = (.ptr l t o : V) := rfl
theorem sh_rptr {l : Nat} {t : Nat} {i : Nat} {o : Nat} : V.sh j (.rptr l t i o : V) = .rptr (l + j) t i o := rfl
theorem un_rptr {l : Nat} {t : Nat} {i : Nat} {o : Nat} : V.un j (.rptr l t i o : V) = if j ≤ l then some (.rptr (l - j) t i o) else none := rfl
theorem co_rptr {l : Nat} {t : Nat} {i : Nat} {o : Nat} : V.co stk (.rptr l t i o : V) = some (.rptr l t i o : V) := rfl
theorem fz_rptr {l : Nat} {t : Nat} {i : Nat} {o : Nat} : V.fzS (.rptr l t i o : V) stk = stk := rfl
theorem pure_rptr {l : Nat} {t : Nat} {i : Nat} {o : Nat} : V.pure (.rptr l t i o : V) = false := rfl
theorem cs_rptr {l : Nat} {t : Nat} {i : Nat} {o : Nat} : V.cs (.rptr l t i o : V) = [(.rptr l t i o : V)] := rfl
theorem cl_rptr {t : Nat} {i : Nat} {o : Nat} : V.cl fr (.rptr 0 t i o : V) = (match look fr t with | some _ => some (.rptr 0 t i o : V) | none => none) := rfl
theorem cl_rptr_some {t : Nat} {i : Nat} {o : Nat} {q : B} (h : look fr t = some q) : V.cl fr (.rptr 0 t i o : V) = some (.rptr 0 t i o : V) := by rw [cl_rptr, h]
theorem cl_rptr1 {t : Nat} {i : Nat} {o : Nat} : V.cl fr (.rptr 1 t i o : V) = some (.rptr 1 t i o) := rfl
theorem nls_rptr {l : Nat} {t : Nat} {i : Nat} {o : Nat} : V.nls (.rptr l t i o : V) = (.rptr l t i o : V) := rfl
theorem fixNl_rptr {l : Nat} {t : Nat} {i : Nat} {o : Nat} : fixNl P ty (.rptr l t i o : V) = (.rptr l t i o : V) := rfl
theorem sh_eptr {cells : List V} {o : Nat} : V.sh j (.eptr cells o : V) = (.eptr cells o : V) := rfl
theorem un_eptr {cells : List V} {o : Nat} : V.un j (.eptr cells o : V) = some (.eptr cells o : V) := rfl
theorem co_eptr {cells : List V} {o : Nat} : V.co stk (.eptr cells o : V) = some (.eptr cells o : V) := rfl
theorem fz_eptr {cells : List V} {o : Nat} : V.fzS (.eptr cells o : V) stk = stk := rfl
theorem pure_eptr {cells : List V} {o : Nat} : V.pure (.eptr cells o : V) = false := rfl
theorem cs_eptr {cells : List V} {o : Nat} : V.cs (.eptr cells o : V) = [(.eptr cells o : V)] := rfl
theorem cl_eptr {cells : List V} {o : Nat} : V.cl fr (.eptr cells o : V) = some (.eptr cells o : V) := rfl
theorem nls_eptr {cells : List V} {o : Nat} : V.nls (.eptr cells o : V) = (.eptr cells o : V) := rfl
theorem fixNl_eptr {cells : List V} {o : Nat} : fixNl P ty (.eptr cells o : V) = (.eptr cells o : V) := rfl
theorem sh_mp {l : Nat} {t : Nat} : V.sh j (.mp l t : V) = .mp (l + j) t := rfl
theorem un_mp {l : Nat} {t : Nat} : V.un j (.mp l t : V) = if j ≤ l then some (.mp (l - j) t) else none := rfl
theorem co_mp {l : Nat} {t : Nat} : V.co stk (.mp l t : V) = some (.mp l t : V) := rfl
theorem fz_mp {l : Nat} {t : Nat} : V.fzS (.mp l t : V) stk = stk := rfl
theorem pure_mp {l : Nat} {t : Nat} : V.pure (.mp l t : V) = false := rfl
theorem cs_mp {l : Nat} {t : Nat} : V.cs (.mp l t : V) = [(.mp l t : V)] := rfl
theorem cl_mp {t : Nat} : V.cl fr (.mp 0 t : V) = (match look fr t with | some _ => some (.mp 0 t : V) | none => none) := rfl
theorem cl_mp_some {t : Nat} {q : B} (h : look fr t = some q) : V.cl fr (.mp 0 t : V) = some (.mp 0 t : V) := by rw [cl_mp, h]
theorem cl_mp1 {t : Nat} : V.cl fr (.mp 1 t : V) = some (.mp 1 t) := rfl
theorem nls_mp {l : Nat} {t : Nat} : V.nls (.mp l t : V) = (.mp l t : V) := rfl
theorem fixNl_mp {l : Nat} {t : Nat} : fixNl P ty (.mp l t : V) = (.mp l t : V) := rfl
theorem sh_fn {f : FuncId} {a : List V} {b : List V} : V.sh j (.fn f a b : V) = .fn f (V.shL j a) (V.shL j b) := rfl
theorem co_fn {f : FuncId} {a : List V} {b : List V} : V.co stk (.fn f a b : V) = some (.fn f a b : V) := rfl
theorem fz_fn {f : FuncId} {a : List V} {b : List V} : V.fzS (.fn f a b : V) stk = stk := rfl
theorem pure_fn {f : FuncId} {a : List V} {b : List V} : V.pure (.fn f a b : V) = false := rfl
theorem cs_fn {f : FuncId} {a : List V} {b : List V} : V.cs (.fn f a b : V) = [(.fn f a b : V)] := rfl
theorem nls_fn {f : FuncId} {a : List V} {b : List V} : V.nls (.fn f a b : V) = (.fn f a b : V) := rfl
theorem fixNl_fn {f : FuncId} {a : List V} {b : List V} : fixNl P ty (.fn f a b : V) = (.fn f a b : V) := rfl
theorem sh_ifc {T : TypeId} {x : V} : V.sh j (.ifc T x : V) = .ifc T (V.sh j x) := rfl
theorem un_ifc {T : TypeId} {x : V} : V.un j (.ifc T x : V) = (V.un j x).map (.ifc T) := by simp only [V.un]; cases V.un j x <;> rfl
theorem co_ifc {T : TypeId} {x : V} : V.co stk (.ifc T x : V) = (V.co stk x).map (.ifc T) := by simp only [V.co]; cases V.co stk x <;> rfl
theorem fz_ifc {T : TypeId} {x : V} : V.fzS (.ifc T x : V) stk = V.fzS x stk := rfl
theorem pure_ifc {T : TypeId} {x : V} : V.pure (.ifc T x : V) = false := rfl
theorem cs_ifc {T : TypeId} {x : V} : V.cs (.ifc T x : V) = [(.ifc T x : V)] := rfl
theorem cl_ifc {T : TypeId} {x : V} : V.cl fr (.ifc T x : V) = (V.cl fr x).map (.ifc T) := by simp only [V.cl]; cases V.cl fr x <;> rfl
theorem nls_ifc {T : TypeId} {x : V} : V.nls (.ifc T x : V) = (.ifc T x : V) := rfl
theorem fixNl_ifc {T : TypeId} {x : V} : fixNl P ty (.ifc T x : V) = (.ifc T x : V) := rfl
theorem sh_nili  : V.sh j (.nili : V) = (.nili : V) := rfl
theorem un_nili  : V.un j (.nili : V) = some (.nili : V) := rfl
theorem co_nili  : V.co stk (.nili : V) = some (.nili : V) := rfl
theorem fz_nili  : V.fzS (.nili : V) stk = stk := rfl
theorem pure_nili  : V.pure (.nili : V) = false := rfl
theorem cs_nili  : V.cs (.nili : V) = [(.nili : V)] := rfl
theorem cl_nili  : V.cl fr (.nili : V) = some (.nili : V) := rfl
theorem nls_nili  : V.nls (.nili : V) = (.nili : V) := rfl
theorem fixNl_nili  : fixNl P ty (.nili : V) = (.nili : V) := rfl
theorem sh_nilp  : V.sh j (.nilp : V) = (.nilp : V) := rfl
theorem un_nilp  : V.un j (.nilp : V) = some (.nilp : V) := rfl
theorem co_nilp  : V.co stk (.nilp : V) = some (.nilp : V) := rfl
theorem fz_nilp  : V.fzS (.nilp : V) stk = stk := rfl
theorem pure_nilp  : V.pure (.nilp : V) = false := rfl
theorem cs_nilp  : V.cs (.nilp : V) = [(.nilp : V)] := rfl
theorem cl_nilp  : V.cl fr (.nilp : V) = some (.nilp : V) := rfl
theorem nls_nilp  : V.nls (.nilp : V) = (.nilp : V) := rfl
theorem fixNl_nilp  : fixNl P ty (.nilp : V) = (.nilp : V) := rfl
theorem sh_nilm  : V.sh j (.nilm : V) = (.nilm : V) := rfl
theorem un_nilm  : V.un j (.nilm : V) = some (.nilm : V) := rfl
theorem co_nilm  : V.co stk (.nilm : V) = some (.nilm : V) := rfl
theorem fz_nilm  : V.fzS (.nilm : V) stk = stk := rfl
theorem pure_nilm  : V.pure (.nilm : V) = false := rfl
theorem cs_nilm  : V.cs (.nilm : V) = [(.nilm : V)] := rfl
theorem cl_nilm  : V.cl fr (.nilm : V) = some (.nilm : V) := rfl
theorem nls_nilm  : V.nls (.nilm : V) = (.nilm : V) := rfl
theorem fixNl_nilm  : fixNl P ty (.nilm : V) = (.nilm : V) := rfl
theorem sh_nilf  : V.sh j (.nilf : V) = (.nilf : V) := rfl
theorem un_nilf  : V.un j (.nilf : V) = some (.nilf : V) := rfl
theorem co_nilf  : V.co stk (.nilf : V) = some (.nilf : V) := rfl
theorem fz_nilf  : V.fzS (.nilf : V) stk = stk := rfl
theorem pure_nilf  : V.pure (.nilf : V) = false := rfl
theorem cs_nilf  : V.cs (.nilf : V) = [(.nilf : V)] := rfl
theorem cl_nilf  : V.cl fr (.nilf : V) = some (.nilf : V) := rfl
theorem nls_nilf  : V.nls (.nilf : V) = (.nilf : V) := rfl
theorem fixNl_nilf  : fixNl P ty (.nilf : V) = (.nilf : V) := rfl
theorem sh_agg {cs : List V} : V.sh j (.agg cs : V) = .agg (V.shL j cs) := rfl
theorem un_agg {cs : List V} : V.un j (.agg cs : V) = (V.unL j cs).map .agg := by simp only [V.un]; cases V.unL j cs <;> rfl
theorem co_agg {cs : List V} : V.co stk (.agg cs : V) = (V.coL stk cs).map .agg := by simp only [V.co]; cases V.coL stk cs <;> rfl
theorem fz_agg {cs : List V} : V.fzS (.agg cs : V) stk = V.fzL cs stk := rfl
theorem pure_agg {cs : List V} : V.pure (.agg cs : V) = false := rfl
theorem cs_agg {cs : List V} : V.cs (.agg cs : V) = cs := rfl
theorem cl_agg {cs : List V} : V.cl fr (.agg cs : V) = (V.clL fr cs).map .agg := by simp only [V.cl]; cases V.clL fr cs <;> rfl
theorem nls_agg {cs : List V} : V.nls (.agg cs : V) = (.agg cs : V) := rfl
theorem fixNl_agg {cs : List V} : fixNl P ty (.agg cs : V) = (.agg cs : V) := rfl
theorem sh_tup {cs : List V} : V.sh j (.tup cs : V) = .tup (V.shL j cs) := rfl
theorem un_tup {cs : List V} : V.un j (.tup cs : V) = (V.unL j cs).map .tup := by simp only [V.un]; cases V.unL j cs <;> rfl
theorem co_tup {cs : List V} : V.co stk (.tup cs : V) = (V.coL stk cs).map .tup := by simp only [V.co]; cases V.coL stk cs <;> rfl
theorem fz_tup {cs : List V} : V.fzS (.tup cs : V) stk = V.fzL cs stk := rfl
theorem pure_tup {cs : List V} : V.pure (.tup cs : V) = false := rfl
theorem cs_tup {cs : List V} : V.cs (.tup cs : V) = [] := rfl
theorem cl_tup {cs : List V} : V.cl fr (.tup cs : V) = (V.clL fr cs).map .tup := by simp only [V.cl]; cases V.clL fr cs <;> rfl
theorem nls_tup {cs : List V} : V.nls (.tup cs : V) = (.tup cs : V) := rfl
theorem fixNl_tup {cs : List V} : fixNl P ty (.tup cs : V) = (.tup cs : V) := rfl
theorem sh_dead  : V.sh j (.dead : V) = (.dead : V) := rfl
theorem un_dead  : V.un j (.dead : V) = some (.dead : V) := rfl
theorem co_dead  : V.co stk (.dead : V) = some (.dead : V) := rfl
theorem fz_dead  : V.fzS (.dead : V) stk = stk := rfl
theorem pure_dead  : V.pure (.dead : V) = false := rfl
theorem cs_dead  : V.cs (.dead : V) = [] := rfl
theorem cl_dead  : V.cl fr (.dead : V) = some (.dead : V) := rfl
theorem nls_dead  : V.nls (.dead : V) = (.dead : V) := rfl
theorem fixNl_dead  : fixNl P ty (.dead : V) = (.dead : V) := rfl
def fn2 (f : FuncId) (a b : Option (List V)) : Option V := match a, b with
  | some a, some b => some (.fn f a b)
  | _, _ => none
theorem fn2_some {f : FuncId} {a b : List V} : fn2 f (some a) (some b) = some (.fn f a b) := rfl
theorem un_fn {f : FuncId} {a b : List V} : V.un j (.fn f a b) = fn2 f (V.unL j a) (V.unL j b) := by simp only [V.un, fn2]; rfl
theorem cl_fn {f : FuncId} {a b : List V} : V.cl fr (.fn f a b) = fn2 f (V.clL fr a) (V.clL fr b) := by simp only [V.cl, fn2]; rfl
theorem shL_nil : V.shL j [] = [] := rfl
theorem shL_cons {v : V} {r : List V} : V.shL j (v :: r) = V.sh j v :: V.shL j r := rfl
theorem unL_nil : V.unL j [] = some [] := rfl
theorem unL_cons {v : V} {r : List V} : V.unL j (v :: r) = cons2 (V.un j v) (V.unL j r) := by simp only [V.unL, cons2]; rfl
theorem coL_nil : V.coL stk [] = some [] := rfl
theorem coL_cons {v : V} {r : List V} : V.coL stk (v :: r) = cons2 (V.co stk v) (V.coL stk r) := by simp only [V.coL, cons2]; rfl
theorem clL_nil : V.clL fr [] = some [] := rfl
theorem clL_cons {v : V} {r : List V} : V.clL fr (v :: r) = cons2 (V.cl fr v) (V.clL fr r) := by simp only [V.clL, cons2]; rfl
theorem fzL_nil : V.fzL [] stk = stk := rfl
theorem fzL_cons {v : V} {r : List V} : V.fzL (v :: r) stk = V.fzL r (V.fzS v stk) := rfl
theorem up_zero {v : V} : V.up 0 v = v := rfl
theorem up_one {v : V} : V.up 1 v = v.sh 1 := rfl
theorem up_two {v : V} : V.up 2 v = v.sh 2 := rfl
theorem down_zero {v : V} : V.down 0 v = some v := rfl
theorem down_one {v : V} : V.down 1 v = v.un 1 := rfl
theorem down_two {v : V} : V.down 2 v = v.un 2 := rfl
theorem initT_nil {i : Nat} {acc : List (Nat × V)} : initT i [] acc = acc := rfl
theorem initT_cons {i : Nat} {v : V} {r : List V} {acc : List (Nat × V)} : initT i (v :: r) acc = initT (i + 1) r (ins i (v.sh 1) acc) := rfl
theorem prune_none {S : St} : prune none S = some S := rfl
def pru2 (r : Stk) : Option (List (Nat × V)) → Option Fr → Option St
  | some tm, some f' => some ⟨tm, f' :: r⟩
  | _, _ => none
theorem pru2_some {r : Stk} {tm : List (Nat × V)} {f' : Fr} : pru2 r (some tm) (some f') = some ⟨tm, f' :: r⟩ := rfl
theorem prune_some {ks : List Nat} {tm : List (Nat × V)} {f : Fr} {r : Stk} : prune (some ks) ⟨tm, f :: r⟩ = pru2 r (keepT ks (keepF ks f) tm) (keepB (keepF ks f) (keepF ks f)) := by simp only [prune, pru2]; rfl
def conT (a : Nat) : Option V → Option (List (Nat × V)) → Option (List (Nat × V))
  | some x, some r => some ((a, x.nls) :: r)
  | _, _ => none
theorem conT_some {a : Nat} {x : V} {r : List (Nat × V)} : conT a (some x) (some r) = some ((a, x.nls) :: r) := rfl
def conB (a : Nat) : Option B → Option Fr → Option Fr
  | some x, some r => some ((a, x) :: r)
  | _, _ => none
theorem conB_some {a : Nat} {x : B} {r : Fr} : conB a (some x) (some r) = some ((a, x) :: r) := rfl
theorem keepT_nil {ks : List Nat} : keepT ks fr [] = some [] := rfl
theorem keepT_cons {ks : List Nat} {a : Nat} {x : V} {r : List (Nat × V)} : keepT ks fr ((a, x) :: r) = if ks.contains a then conT a (V.cl fr x) (keepT ks fr r) else keepT ks fr r := by
  simp only [keepT, conT]; rfl
theorem keepF_nil {ks : List Nat} : keepF ks [] = [] := rfl
theorem keepF_cons {ks : List Nat} {a : Nat} {x : B} {r : Fr} : keepF ks ((a, x) :: r) = if ks.contains a then (a, x) :: keepF ks r else keepF ks r := rfl
theorem keepB_nil : keepB fr [] = some [] := rfl
theorem keepB_cons {a : Nat} {x : B} {r : Fr} : keepB fr ((a, x) :: r) = conB a (clB fr x) (keepB fr r) := by
  simp only [keepB, conB]; rfl
theorem clB_cells {cs : List V} : clB fr (.cells cs) = (V.clL fr cs).map .cells := by simp only [clB]; cases V.clL fr cs <;> rfl
theorem clB_tok {e sz n : Nat} : clB fr (.tok e sz n) = some (.tok e sz n) := rfl
theorem clB_row {sz : Nat} {xs : List (List V)} : clB fr (.row sz xs) = some (.row sz xs) := rfl
theorem clB_fz {sz : Nat} {xs : List (List V)} : clB fr (.fz sz xs) = some (.fz sz xs) := rfl
theorem clB_smap {es : List (ByteArray × V)} : clB fr (.smap es) = if es.all fun e => e.2.pure then some (.smap es) else none := rfl
end
/-! ### operations -/
section
variable {P : Program} {A : An} {call : Call} {F : FuncId} {rd : Option Stk} {q : Bool} {ops : Array Oper} {r : List Oper} {tm : List (Nat × V)} {stk : Stk} {ty : TypeId} {pos : String} {after : Array Edge} {dst : Option Nat}
/-- what an operation came to, and what follows -/
noncomputable def goL (P : Program) (A : An) (call : Call) (F : FuncId) (rd : Option Stk) (q : Bool) (ops : Array Oper) (r : List Oper) (tm : List (Nat × V)) (dst : Option Nat) : Option (V × Stk) → Option St
  | some (v, stk) => evL P A call F rd q ops r (putD dst v tm) stk
  | none => none
theorem goL_some {v : V} {d : Nat} : goL P A call F rd q ops r tm (some d) (some (v, stk)) = evL P A call F rd q ops r (ins d v tm) stk := rfl
theorem goL_skip {v : V} : goL P A call F rd q ops r tm none (some (v, stk)) = evL P A call F rd q ops r tm stk := rfl
noncomputable def goV (P : Program) (A : An) (call : Call) (F : FuncId) (rd : Option Stk) (q : Bool) (ops : Array Oper) (r : List Oper) (tm : List (Nat × V)) (stk : Stk) (dst : Option Nat) : Option V → Option St
  | some v => evL P A call F rd q ops r (putD dst v tm) stk
  | none => none
theorem goV_some {v : V} {d : Nat} : goV P A call F rd q ops r tm stk (some d) (some v) = evL P A call F rd q ops r (ins d v tm) stk := rfl
theorem goV_skip {v : V} : goV P A call F rd q ops r tm stk none (some v) = evL P A call F rd q ops r tm stk := rfl
noncomputable def goS (P : Program) (A : An) (call : Call) (F : FuncId) (rd : Option Stk) (q : Bool) (ops : Array Oper) (r : List Oper) (tm : List (Nat × V)) : Option Stk → Option St
  | some stk => evL P A call F rd q ops r tm stk
  | none => none
theorem goS_some : goS P A call F rd q ops r tm (some stk) = evL P A call F rd q ops r tm stk := rfl
theorem goL_map {o : Option V} : goL P A call F rd q ops r tm dst (o.map fun v => (v, stk)) = goV P A call F rd q ops r tm stk dst o := by cases o <;> rfl
theorem goL_mapS {o : Option Stk} : goL P A call F rd q ops r tm none (o.map fun s => (.dead, s)) = goS P A call F rd q ops r tm o := by cases o <;> rfl
theorem evL_nil : evL P A call F rd q ops [] tm stk = some ⟨tm, stk⟩ := rfl
theorem evL_one {o : Oper} (h : o.guard = none) : evL P A call F rd q ops (o :: r) tm stk = goL P A call F rd q ops r tm o.dst (evO P A call F q (rd.getD stk) o tm stk) := by
  simp only [evL, resG, h, gdV, goL]; rfl
/-- a guard's word -/
noncomputable def goG (P : Program) (A : An) (call : Call) (F : FuncId) (rd : Option Stk) (q : Bool) (ops : Array Oper) (r : List Oper) (tm : List (Nat × V)) (stk : Stk) (o : Oper) : Option Bool → Option St
  | some true => evL P A call F rd q ops ({ o with guard := none } :: r) tm stk
  | some false => evL P A call F rd q ops r (putD o.dst .dead tm) stk
  | none => none
def gw (b : Bool) : Option V → Option Bool
  | some (.bool c) => some (c == b)
  | some .dead => some false
  | _ => none
theorem gw_bool {b c : Bool} : gw b (some (.bool c)) = some (c == b) := rfl
theorem gw_dead {b : Bool} : gw b (some .dead) = some false := rfl
def gslot (ops : Array Oper) (j : Nat) : Option Nat := (ops[j]?).bind (·.dst)
def gl (tm : List (Nat × V)) (b : Bool) : Option Nat → Option Bool
  | some t => gw b (look tm t)
  | none => none
theorem gl_some {b : Bool} {t : Nat} : gl tm b (some t) = gw b (look tm t) := rfl
theorem gslot_zero {o : Oper} {l : List Oper} : gslot (o :: l).toArray 0 = o.dst := by simp [gslot]
theorem gslot_succ {o : Oper} {l : List Oper} {j : Nat} : gslot (o :: l).toArray (j + 1) = gslot l.toArray j := by simp [gslot]
theorem evL_guard {op : Op} {j : Nat} {b : Bool} : evL P A call F rd q ops ({ dst := dst, op := op, type := ty, pos := pos, after := after, guard := some (j, b) } :: r) tm stk =
    goG P A call F rd q ops r tm stk { dst := dst, op := op, type := ty, pos := pos, after := after, guard := none } (gl tm b (gslot ops j)) := by
  have e : gdV tm (resG ops { dst := dst, op := op, type := ty, pos := pos, after := after, guard := some (j, b) }) = gl tm b (gslot ops j) := by
    simp only [resG, gslot]
    cases (ops[j]?).bind (·.dst) with
    | none => rfl
    | some t =>
      simp only [gdV, gl, gw]
      cases look tm t with
      | none => rfl
      | some v => cases v <;> rfl
  rw [evL]
  rw [e]
  cases gl tm b (gslot ops j) with
  | none => rfl
  | some c =>
    cases c with
    | true => simp only [goG]; rw [evL_one rfl]; simp only [goL]; rfl
    | false => rfl
theorem goG_true {o : Oper} : goG P A call F rd q ops r tm stk o (some true) = evL P A call F rd q ops ({ o with guard := none } :: r) tm stk := rfl
theorem goG_false {op : Op} {d : Nat} : goG P A call F rd q ops r tm stk { dst := some d, op := op, type := ty, pos := pos, after := after, guard := none } (some false) = evL P A call F rd q ops r (ins d .dead tm) stk := rfl
theorem goG_false' {op : Op} : goG P A call F rd q ops r tm stk { dst := none, op := op, type := ty, pos := pos, after := after, guard := none } (some false) = evL P A call F rd q ops r tm stk := rfl

theorem evL_move {x : Operand} : evL P A call F rd q ops ({ dst := dst, op := .move x, type := ty, pos := pos, after := after, guard := none } :: r) tm stk = goV P A call F rd q ops r tm stk dst ((opd tm x).map (fixNl P ty)) := by
  rw [evL_one rfl]
  simp only [evO, evS]; cases opd tm x <;> rfl
noncomputable def asg (P : Program) (A : An) (F : FuncId) (ty : TypeId) (stk : Stk) (d : Nat) : V → Option (V × Stk)
  | .nl _ => if (A.grow F).contains d then
      match slTy P ty with
      | some (e, sz) => mkV stk (some d) (.tok e sz 0) fun d => .ap 0 d sz []
      | none => none
    else some (.nl ((slSz P ty).getD 0), stk)
  | v => some (v, stk)
theorem asg_int {k : IntKind} {n : Int} {d : Nat} : asg P A F ty stk d (.int k n : V) = some ((.int k n : V), stk) := rfl
theorem asg_bool {b : Bool} {d : Nat} : asg P A F ty stk d (.bool b : V) = some ((.bool b : V), stk) := rfl
theorem asg_str {s : ByteArray} {d : Nat} : asg P A F ty stk d (.str s : V) = some ((.str s : V), stk) := rfl
theorem asg_sl {sz : Nat} {rows : List (List V)} {d : Nat} : asg P A F ty stk d (.sl sz rows : V) = some ((.sl sz rows : V), stk) := rfl
theorem asg_ap {l : Nat} {t : Nat} {sz : Nat} {rows : List (List V)} {d : Nat} : asg P A F ty stk d (.ap l t sz rows : V) = some ((.ap l t sz rows : V), stk) := rfl
theorem asg_row {l : Nat} {t : Nat} {d : Nat} : asg P A F ty stk d (.row l t : V) = some ((.row l t : V), stk) := rfl
theorem asg_ptr {l : Nat} {t : Nat} {o : Nat} {d : Nat} : asg P A F ty stk d (.ptr l t o : V) = some ((.ptr l t o : V), stk) := rfl
theorem asg_rptr {l : Nat} {t : Nat} {i : Nat} {o : Nat} {d : Nat} : asg P A F ty stk d (.rptr l t i o : V) = some ((.rptr l t i o : V), stk) := rfl
theorem asg_eptr {cells : List V} {o : Nat} {d : Nat} : asg P A F ty stk d (.eptr cells o : V) = some ((.eptr cells o : V), stk) := rfl
theorem asg_mp {l : Nat} {t : Nat} {d : Nat} : asg P A F ty stk d (.mp l t : V) = some ((.mp l t : V), stk) := rfl
theorem asg_fn {f : FuncId} {a : List V} {b : List V} {d : Nat} : asg P A F ty stk d (.fn f a b : V) = some ((.fn f a b : V), stk) := rfl
theorem asg_ifc {T : TypeId} {x : V} {d : Nat} : asg P A F ty stk d (.ifc T x : V) = some ((.ifc T x : V), stk) := rfl
theorem asg_nili  {d : Nat} : asg P A F ty stk d (.nili : V) = some ((.nili : V), stk) := rfl
theorem asg_nilp  {d : Nat} : asg P A F ty stk d (.nilp : V) = some ((.nilp : V), stk) := rfl
theorem asg_nilm  {d : Nat} : asg P A F ty stk d (.nilm : V) = some ((.nilm : V), stk) := rfl
theorem asg_nilf  {d : Nat} : asg P A F ty stk d (.nilf : V) = some ((.nilf : V), stk) := rfl
theorem asg_agg {cs : List V} {d : Nat} : asg P A F ty stk d (.agg cs : V) = some ((.agg cs : V), stk) := rfl
theorem asg_tup {cs : List V} {d : Nat} : asg P A F ty stk d (.tup cs : V) = some ((.tup cs : V), stk) := rfl
theorem asg_dead  {d : Nat} : asg P A F ty stk d (.dead : V) = some ((.dead : V), stk) := rfl
theorem asg_nl {d s : Nat} : asg P A F ty stk d (.nl s) = if (A.grow F).contains d then (match slTy P ty with
      | some (e, sz) => mkV stk (some d) (.tok e sz 0) fun d => .ap 0 d sz []
      | none => none) else some (.nl ((slSz P ty).getD 0), stk) := rfl
theorem evL_assign {x : Operand} {d : Nat} : evL P A call F rd q ops ({ dst := some d, op := .assign x, type := ty, pos := pos, after := after, guard := none } :: r) tm stk = goL P A call F rd q ops r tm (some d) ((opd tm x).bind (asg P A F ty stk d)) := by
  rw [evL_one rfl]
  simp only [evO, evS]; cases h : opd tm x with
  | none => rfl
  | some v => cases v <;> rfl
def pck (a b : Option V) : Option V → Option V
  | some (.bool true) => a
  | some (.bool false) => b
  | _ => none
theorem pck_true {a b : Option V} : pck a b (some (.bool true)) = a := rfl
theorem pck_false {a b : Option V} : pck a b (some (.bool false)) = b := rfl
theorem evL_pick {c x y : Operand} : evL P A call F rd q ops ({ dst := dst, op := .pick c x y, type := ty, pos := pos, after := after, guard := none } :: r) tm stk = goV P A call F rd q ops r tm stk dst (pck (opd tm x) (opd tm y) (opd tm c)) := by
  rw [evL_one rfl]
  simp only [evO, evS]
  cases opd tm c with
  | none => rfl
  | some v => cases v <;> first | rfl | (rename_i b; cases b <;> (simp only [goL_map]; rfl))
theorem evL_alloc {t : TypeId} : evL P A call F rd q ops ({ dst := dst, op := .alloc t, type := ty, pos := pos, after := after, guard := none } :: r) tm stk = goL P A call F rd q ops r tm dst ((zeroC P t).bind fun cs => mkV stk dst (.cells cs) fun d => .ptr 0 d 0) := by
  rw [evL_one rfl]
  simp only [evO, evS]; cases zeroC P t <;> rfl
def bxV (stk : Stk) (d : Option Nat) (v : V) : Option (Bool × Nat) → Option (V × Stk)
  | some (_, n) => if v.cs.length = n then mkV stk d (.cells v.cs) fun d => .ptr 0 d 0 else none
  | none => none
theorem bxV_some {d : Option Nat} {v : V} {b : Bool} : bxV stk d v (some (b, v.cs.length)) = mkV stk d (.cells v.cs) fun d => .ptr 0 d 0 := by simp [bxV]
theorem bxV_eq {d : Option Nat} {v : V} {b : Bool} {n : Nat} : bxV stk d v (some (b, n)) = if v.cs.length = n then mkV stk d (.cells v.cs) fun d => .ptr 0 d 0 else none := rfl
theorem evL_box {t : TypeId} {x : Operand} : evL P A call F rd q ops ({ dst := dst, op := .box t x, type := ty, pos := pos, after := after, guard := none } :: r) tm stk = goL P A call F rd q ops r tm dst ((opd tm x).bind fun v => bxV stk dst v (tyAg P t)) := by
  rw [evL_one rfl]
  simp only [evO, evS]; cases opd tm x with
  | none => rfl
  | some v => cases tyAg P t <;> rfl
theorem evL_build {t : TypeId} {parts : Array (Nat × Operand)} : evL P A call F rd q ops ({ dst := dst, op := .build t parts, type := ty, pos := pos, after := after, guard := none } :: r) tm stk = goV P A call F rd q ops r tm stk dst (bldV P t (parts.toList.map (·.1)) (opds tm (parts.toList.map (·.2))) (zeroC P t)) := by
  rw [evL_one rfl]
  simp only [evO, evS]; rw [goL_map]
theorem evL_buildSlice {t : TypeId} {len : Nat} {parts : Array (Nat × Operand)} : evL P A call F rd q ops ({ dst := dst, op := .buildSlice t len parts, type := ty, pos := pos, after := after, guard := none } :: r) tm stk = goL P A call F rd q ops r tm dst (bslV P A F (rd.getD stk) stk dst len (parts.toList.map (·.1)) (opds tm (parts.toList.map (·.2))) (slTy P t)) := by
  rw [evL_one rfl]
  rfl
theorem evL_load {t : TypeId} {x : Operand} : evL P A call F rd q ops ({ dst := dst, op := .load t x, type := ty, pos := pos, after := after, guard := none } :: r) tm stk = goV P A call F rd q ops r tm stk dst ((opd tm x).bind (ldA P (rd.getD stk) t)) := by
  rw [evL_one rfl]
  simp only [evO, evS]; cases opd tm x with
  | none => rfl
  | some v => simp only [goL_map]; rfl
theorem evL_store {t : TypeId} {a x : Operand} : evL P A call F rd q ops ({ dst := none, op := .store t a x, type := ty, pos := pos, after := after, guard := none } :: r) tm stk = goS P A call F rd q ops r tm ((opd tm a).bind fun a => (opd tm x).bind fun x => stA P stk t a (fixNl P t x)) := by
  rw [evL_one rfl]
  simp only [evO, evS]; cases opd tm a with
  | none => rfl
  | some a => cases opd tm x with
    | none => rfl
    | some x => simp only [goL_mapS]; rfl
def nck : V → Option V
  | .ptr l t o => some (.ptr l t o)
  | .rptr l t i o => some (.rptr l t i o)
  | .eptr c o => some (.eptr c o)
  | _ => none
theorem nck_ptr {l t o : Nat} : nck (.ptr l t o) = some (.ptr l t o) := rfl
theorem nck_rptr {l t i o : Nat} : nck (.rptr l t i o) = some (.rptr l t i o) := rfl
theorem nck_eptr {c : List V} {o : Nat} : nck (.eptr c o) = some (.eptr c o) := rfl
theorem evL_nilCheck {x : Operand} : evL P A call F rd q ops ({ dst := dst, op := .nilCheck x, type := ty, pos := pos, after := after, guard := none } :: r) tm stk = goV P A call F rd q ops r tm stk dst ((opd tm x).bind nck) := by
  rw [evL_one rfl]
  simp only [evO, evS]; cases opd tm x with
  | none => rfl
  | some v => cases v <;> rfl
theorem evL_binOp {op : BinOp} {t u : TypeId} {x y : Operand} : evL P A call F rd q ops ({ dst := dst, op := .binOp op t x y u, type := ty, pos := pos, after := after, guard := none } :: r) tm stk = goV P A call F rd q ops r tm stk dst ((opd tm x).bind fun a => (opd tm y).bind fun b => biN (eqK P t) (isC x || isC y) op a b) := by
  rw [evL_one rfl]
  simp only [evO, evS]; cases opd tm x with
  | none => rfl
  | some a => cases opd tm y with
    | none => rfl
    | some b => simp only [goL_map]; rfl
theorem evL_unOp {op : UnOp} {t : TypeId} {x : Operand} : evL P A call F rd q ops ({ dst := dst, op := .unOp op t x, type := ty, pos := pos, after := after, guard := none } :: r) tm stk = goV P A call F rd q ops r tm stk dst ((opd tm x).bind (unV op)) := by
  rw [evL_one rfl]
  simp only [evO, evS]; cases opd tm x with
  | none => rfl
  | some a => simp only [goL_map]; rfl
theorem evL_convert {s t : TypeId} {x : Operand} : evL P A call F rd q ops ({ dst := dst, op := .convert s t x, type := ty, pos := pos, after := after, guard := none } :: r) tm stk = goV P A call F rd q ops r tm stk dst ((opd tm x).bind (cvV P (rd.getD stk) s t)) := by
  rw [evL_one rfl]
  simp only [evO, evS]; cases opd tm x with
  | none => rfl
  | some a => simp only [goL_map]; rfl
def mkI (P : Program) (t : TypeId) (x : V) : Option V := match P.underlying t with
  | some (.struct _) => some (.ifc t x)
  | some (.int _) => some (.ifc t x)
  | _ => none
theorem evL_makeInterface {t : TypeId} {x : Operand} : evL P A call F rd q ops ({ dst := dst, op := .makeInterface t x, type := ty, pos := pos, after := after, guard := none } :: r) tm stk = goV P A call F rd q ops r tm stk dst ((opd tm x).bind (mkI P t)) := by
  rw [evL_one rfl]
  simp only [evO, evS]
  cases opd tm x with
  | none => rfl
  | some a =>
    simp only [Option.bind_some, mkI]
    cases P.underlying t with
    | none => rfl
    | some u => cases u <;> rfl
theorem evL_makeFunc {f : FuncId} {a b : Array Operand} : evL P A call F rd q ops ({ dst := dst, op := .makeFunc (.func f) a b, type := ty, pos := pos, after := after, guard := none } :: r) tm stk = goV P A call F rd q ops r tm stk dst (fn2 f (opds tm a.toList) (opds tm b.toList)) := by
  rw [evL_one rfl]
  simp only [evO, evS, fn2]
  cases opds tm a.toList with
  | none => rfl
  | some x => cases opds tm b.toList <;> rfl
theorem evL_makeMap {t : TypeId} : evL P A call F rd q ops ({ dst := dst, op := .makeMap t none, type := ty, pos := pos, after := after, guard := none } :: r) tm stk = goL P A call F rd q ops r tm dst ((mpTy P t).bind fun s => if s.1 then mkV stk dst (.smap []) fun d => .mp 0 d else mkV stk dst (.imap []) fun d => .mp 0 d) := by
  rw [evL_one rfl]
  simp only [evO, evS]
  cases mpTy P t with
  | none => rfl
  | some s => obtain ⟨b, z⟩ := s; cases b <;> rfl
theorem msl2_some {a b : Int} {e sz : Nat} : msl2 P A F stk dst (.int .i64 a) (.int .i64 b) (some (e, sz)) = (zeroC P e).bind fun z => mslV P A F stk dst z e sz a b := rfl
theorem evL_makeSlice {t : TypeId} {l c : Operand} : evL P A call F rd q ops ({ dst := dst, op := .makeSlice t l c, type := ty, pos := pos, after := after, guard := none } :: r) tm stk = goL P A call F rd q ops r tm dst ((opd tm l).bind fun l => (opd tm c).bind fun c => msl2 P A F stk dst l c (slTy P t)) := by
  rw [evL_one rfl]
  simp only [evO, evS]; cases opd tm l with
  | none => rfl
  | some a => cases opd tm c <;> rfl
theorem evL_slice0 {t : TypeId} {x : Operand} : evL P A call F rd q ops ({ dst := dst, op := .slice t x none none none, type := ty, pos := pos, after := after, guard := none } :: r) tm stk = goV P A call F rd q ops r tm stk dst ((opd tm x).bind fun x => slV P (rd.getD stk) t x none none) := by
  rw [evL_one rfl]
  simp only [evO, evS, Option.map_none]; cases opd tm x with
  | none => rfl
  | some a => simp only [goL_map]; rfl
theorem evL_slice1 {t : TypeId} {x l : Operand} : evL P A call F rd q ops ({ dst := dst, op := .slice t x (some l) none none, type := ty, pos := pos, after := after, guard := none } :: r) tm stk = goV P A call F rd q ops r tm stk dst ((opd tm x).bind fun x => (opd tm l).bind fun l => slV P (rd.getD stk) t x (some l) none) := by
  rw [evL_one rfl]
  simp only [evO, evS, Option.map_none, Option.map_some]; cases opd tm x with
  | none => rfl
  | some a => cases opd tm l with
    | none => rfl
    | some b => simp only [goL_map]; rfl
theorem evL_slice2 {t : TypeId} {x h : Operand} : evL P A call F rd q ops ({ dst := dst, op := .slice t x none (some h) none, type := ty, pos := pos, after := after, guard := none } :: r) tm stk = goV P A call F rd q ops r tm stk dst ((opd tm x).bind fun x => (opd tm h).bind fun h => slV P (rd.getD stk) t x none (some h)) := by
  rw [evL_one rfl]
  simp only [evO, evS, Option.map_none, Option.map_some]; cases opd tm x with
  | none => rfl
  | some a => cases opd tm h with
    | none => rfl
    | some b => simp only [goL_map]; rfl
theorem evL_slice3 {t : TypeId} {x l h : Operand} : evL P A call F rd q ops ({ dst := dst, op := .slice t x (some l) (some h) none, type := ty, pos := pos, after := after, guard := none } :: r) tm stk = goV P A call F rd q ops r tm stk dst ((opd tm x).bind fun x => (opd tm l).bind fun l => (opd tm h).bind fun h => slV P (rd.getD stk) t x (some l) (some h)) := by
  rw [evL_one rfl]
  simp only [evO, evS, Option.map_some]; cases opd tm x with
  | none => rfl
  | some a => cases opd tm l with
    | none => rfl
    | some b => cases opd tm h with
      | none => rfl
      | some c => simp only [goL_map]; rfl
theorem evL_fieldAddr {t : TypeId} {x : Operand} {f : Nat} : evL P A call F rd q ops ({ dst := dst, op := .fieldAddr t x f, type := ty, pos := pos, after := after, guard := none } :: r) tm stk = goV P A call F rd q ops r tm stk dst ((opd tm x).bind (fdA P t f)) := by
  rw [evL_one rfl]
  simp only [evO, evS]; cases opd tm x with
  | none => rfl
  | some a => simp only [goL_map]; rfl
def ixI (k : Int → Option V) : V → Option V
  | .int _ i => k i
  | _ => none
theorem ixI_int {k : Int → Option V} {j : IntKind} {i : Int} : ixI k (.int j i) = k i := rfl
theorem evL_indexAddr {t : TypeId} {x i : Operand} : evL P A call F rd q ops ({ dst := dst, op := .indexAddr t x i, type := ty, pos := pos, after := after, guard := none } :: r) tm stk = goV P A call F rd q ops r tm stk dst ((opd tm x).bind fun x => (opd tm i).bind (ixI fun i => ixA P (rd.getD stk) t x i)) := by
  rw [evL_one rfl]
  simp only [evO, evS]; cases opd tm x with
  | none => rfl
  | some a => cases opd tm i with
    | none => rfl
    | some b => cases b <;> first | rfl | (simp only [goL_map]; rfl)
theorem evL_index {t : TypeId} {x i : Operand} : evL P A call F rd q ops ({ dst := dst, op := .index t x i, type := ty, pos := pos, after := after, guard := none } :: r) tm stk = goV P A call F rd q ops r tm stk dst ((opd tm x).bind fun x => (opd tm i).bind (ixI fun i => ixV P t x i)) := by
  rw [evL_one rfl]
  simp only [evO, evS]; cases opd tm x with
  | none => rfl
  | some a => cases opd tm i with
    | none => rfl
    | some b => cases b <;> first | rfl | (simp only [goL_map]; rfl)
theorem evL_lookup {t : TypeId} {x k : Operand} {ok : Bool} : evL P A call F rd q ops ({ dst := dst, op := .lookup t x k ok, type := ty, pos := pos, after := after, guard := none } :: r) tm stk = goV P A call F rd q ops r tm stk dst ((opd tm x).bind fun x => (opd tm k).bind fun k => lkM P (rd.getD stk) t x k ok) := by
  rw [evL_one rfl]
  simp only [evO, evS]; cases opd tm x with
  | none => rfl
  | some a => cases opd tm k with
    | none => rfl
    | some b => simp only [goL_map]; rfl
theorem evL_mapUpdate {t : TypeId} {m k x : Operand} : evL P A call F rd q ops ({ dst := none, op := .mapUpdate t m k x, type := ty, pos := pos, after := after, guard := none } :: r) tm stk = goS P A call F rd q ops r tm ((opd tm m).bind fun m => (opd tm k).bind fun k => (opd tm x).bind fun x => puM P stk t m k x) := by
  rw [evL_one rfl]
  simp only [evO, evS]; cases opd tm m with
  | none => rfl
  | some a => cases opd tm k with
    | none => rfl
    | some b => cases opd tm x with
      | none => rfl
      | some c => simp only [goL_mapS]; rfl
theorem evL_insert {t : TypeId} {m k x : Operand} : evL P A call F rd q ops ({ dst := none, op := .insert t m k x, type := ty, pos := pos, after := after, guard := none } :: r) tm stk = goS P A call F rd q ops r tm ((opd tm m).bind fun m => (opd tm k).bind fun k => (opd tm x).bind fun x => puM P stk t m k x) := by
  rw [evL_one rfl]
  simp only [evO, evS]; cases opd tm m with
  | none => rfl
  | some a => cases opd tm k with
    | none => rfl
    | some b => cases opd tm x with
      | none => rfl
      | some c => simp only [goL_mapS]; rfl
def xtV (i : Nat) : V → Option V
  | .tup vs => vs[i]?
  | _ => none
theorem xtV_tup {i : Nat} {vs : List V} : xtV i (.tup vs) = vs[i]? := rfl
theorem evL_extract {x : Operand} {i : Nat} : evL P A call F rd q ops ({ dst := dst, op := .extract x i, type := ty, pos := pos, after := after, guard := none } :: r) tm stk = goV P A call F rd q ops r tm stk dst ((opd tm x).bind (xtV i)) := by
  rw [evL_one rfl]
  simp only [evO, evS]; cases opd tm x with
  | none => rfl
  | some a => cases a <;> first | rfl | (simp only [goL_map]; rfl)
theorem evL_builtin {b : Builtin} {args : Array Operand} {ts : Array TypeId} : evL P A call F rd q ops ({ dst := dst, op := .call { callee := .builtin b, args := args, argTypes := ts }, type := ty, pos := pos, after := after, guard := none } :: r) tm stk = goL P A call F rd q ops r tm dst ((opds tm args.toList).bind (bltV P (rd.getD stk) stk dst b ts)) := by
  rw [evL_one rfl]
  simp only [evO]; cases opds tm args.toList <;> rfl
theorem evL_call {f : Operand} {args : Array Operand} {ts : Array TypeId} : evL P A call F rd q ops ({ dst := dst, op := .call { callee := .value f, args := args, argTypes := ts }, type := ty, pos := pos, after := after, guard := none } :: r) tm stk = goL P A call F rd q ops r tm dst (calK call q (rd.getD stk) stk (opd tm f) (opds tm args.toList)) := by
  rw [evL_one rfl]
  rfl
theorem evL_invoke {x : Operand} {name : String} {args : Array Operand} {ts : Array TypeId} : evL P A call F rd q ops ({ dst := dst, op := .call { callee := .invoke x name, args := args, argTypes := ts }, type := ty, pos := pos, after := after, guard := none } :: r) tm stk = goL P A call F rd q ops r tm dst (calI P call name q (rd.getD stk) stk (opd tm x) (opds tm args.toList)) := by
  rw [evL_one rfl]
  rfl
theorem calK_fn {rd : Stk} {g : FuncId} {a vs b : List V} : calK call q rd stk (some (.fn g a b)) (some vs) = calV call q rd stk g (a ++ vs ++ b) := rfl
def cal2 (call : Call) (g : FuncId) (s : Stk) : Option (List V) → Option (V × Stk)
  | some vs => call g vs s
  | none => none
theorem cal2_some {g : FuncId} {s : Stk} {vs : List V} : cal2 call g s (some vs) = call g vs s := rfl
theorem calV_false {rd : Stk} {g : FuncId} {vs : List V} : calV call false rd stk g vs = cal2 call g (V.fzL vs stk) (V.coL (V.fzL vs stk) vs) := by
  simp only [calV, Bool.false_eq_true, if_false, cal2]; cases V.coL (V.fzL vs stk) vs <;> rfl
def calQ (s stk : Stk) : Option (V × Stk) → Option (V × Stk)
  | some (r, s') => if stkEq s' s then some (r, stk) else none
  | none => none
theorem calQ_some {s : Stk} {v : V} : calQ s stk (some (v, s)) = some (v, stk) := by simp [calQ, stkEq_rfl]
noncomputable def calG (call : Call) (g : FuncId) (s stk : Stk) : Option (List V) → Option (V × Stk)
  | some vs => if V.okL s vs then calQ s stk (call g vs s) else none
  | none => none
theorem calG_some {g : FuncId} {s : Stk} {vs : List V} : calG call g s stk (some vs) = if V.okL s vs then calQ s stk (call g vs s) else none := rfl
theorem calV_true {rd : Stk} {g : FuncId} {vs : List V} : calV call true rd stk g vs = calG call g (noTok rd) stk (V.coL (noTok rd) vs) := by
  simp only [calV, if_true]
  cases V.coL (noTok rd) vs with
  | none => rfl
  | some vs =>
    simp only [calG, calQ]
    cases call g vs (noTok rd) <;> rfl
theorem noTok_nil : noTok [] = [] := rfl
theorem noTok_cons {f : Fr} {r : Stk} : noTok (f :: r) = noTokF f :: noTok r := rfl
theorem noTokF_eq {f : Fr} : noTokF f = noTokG f f := rfl
theorem noTokG_nil {f : Fr} : noTokG f [] = [] := rfl
theorem noTokG_cons {f : Fr} {a : Nat} {b : B} {r : Fr} : noTokG f ((a, b) :: r) = if noTokQ (look f a) then (a, b) :: noTokG f r else noTokG f r := rfl
theorem noTokQ_some {b : B} : noTokQ (some b) = quietB b := rfl
end

/-! ### small steps -/
section
variable {P : Program} {rd stk : Stk} {k : IntKind} {a b : Int} {s u : ByteArray} {x y : Bool} {t l c o i sz : Nat} {cs : List V} {rows : List (List V)}
theorem biN_int {K : EqK} {c : Bool} {op : BinOp} : biN K c op (.int k a) (.int k b) = arV op k a b := by simp [biN]
theorem biN_str {K : EqK} {c : Bool} {op : BinOp} : biN K c op (.str s) (.str u) = stV op s u := rfl
theorem biN_bool {c : Bool} {op : BinOp} : biN .bool c op (.bool x) (.bool y) = eqR op (some (x == y)) := rfl
theorem biN_nili {op : BinOp} : biN .ifc true op .nili .nili = eqR op (some true) := rfl
theorem biN_ifc {c : Bool} {op : BinOp} {T : TypeId} {v : V} : biN .ifc c op (.ifc T v) .nili = eqR op (some false) := rfl
theorem biN_agg {c : Bool} {op : BinOp} {ks : List Nat} {cs ds : List V} : biN (.flat ks) c op (.agg cs) (.agg ds) = eqR op (eqVL ks cs ds) := rfl
theorem eqR_eql : eqR .eql (some x) = some (.bool x) := rfl
theorem eqR_neq : eqR .neq (some x) = some (.bool (!x)) := rfl
theorem isC_tmp {t : Nat} : isC (.tmp t) = false := rfl
theorem isC_const {v : Value} : isC (.const v) = true := rfl
theorem eqVL_nil : eqVL [] [] [] = some true := rfl
theorem and2_some : and2 (some x) (some y) = some (x && y) := rfl
theorem eqVL_cons {κ : Nat} {ks : List Nat} {v w : V} {q r : List V} : eqVL (κ :: ks) (v :: q) (w :: r) = and2 (eqV κ v w) (eqVL ks q r) := rfl
theorem eqV_int : eqV 1 (.int k a) (.int k b) = some (decide (a = b)) := by simp [eqV]
theorem eqV_str : eqV 2 (.str s) (.str u) = some (strEq s u) := rfl
theorem eqV_bool : eqV 0 (.bool x) (.bool y) = some (x == y) := rfl
theorem ar_add : arV .add k a b = some (.int k (k.wrap (a + b))) := rfl
theorem ar_sub : arV .sub k a b = some (.int k (k.wrap (a - b))) := rfl
theorem ar_mul : arV .mul k a b = some (.int k (k.wrap (a * b))) := rfl
theorem ar_quo : arV .quo k a b = if b = 0 then none else some (.int k (k.wrap (a.tdiv b))) := rfl
theorem ar_rem : arV .rem k a b = if b = 0 then none else some (.int k (a.tmod b)) := rfl
theorem ar_eql : arV .eql k a b = some (.bool (decide (a = b))) := rfl
theorem ar_neq : arV .neq k a b = some (.bool (!decide (a = b))) := rfl
theorem ar_lss : arV .lss k a b = some (.bool (decide (a < b))) := rfl
theorem ar_leq : arV .leq k a b = some (.bool (decide (a ≤ b))) := rfl
theorem ar_gtr : arV .gtr k a b = some (.bool (decide (b < a))) := rfl
theorem ar_geq : arV .geq k a b = some (.bool (decide (b ≤ a))) := rfl
theorem st_add : stV .add s u = if s.size + u.size ≤ 4611686018427387904 then some (.str (s ++ u)) else none := rfl
theorem st_eql : stV .eql s u = some (.bool (strEq s u)) := rfl
theorem st_neq : stV .neq s u = some (.bool (!strEq s u)) := rfl
theorem st_lss : stV .lss s u = some (.bool (strLt s u)) := rfl
theorem st_leq : stV .leq s u = some (.bool (strLt s u || strEq s u)) := rfl
theorem st_gtr : stV .gtr s u = some (.bool (!strLt s u && !strEq s u)) := rfl
theorem st_geq : stV .geq s u = some (.bool (!strLt s u)) := rfl
theorem un_not : unV .not (.bool x) = some (.bool (!x)) := rfl
theorem un_neg : unV .neg (.int k a) = some (.int k (k.wrap (0 - a))) := rfl
theorem asSl_sl : asSl stk (.sl sz rows) = some (sz, rows) := rfl
theorem asSl_nl : asSl stk (.nl sz) = some (sz, []) := rfl
theorem asSl_ap : asSl stk (.ap l t sz rows) = some (sz, rows) := rfl
def rowSl : Option B → Option (Nat × List (List V))
  | some (.row sz xs) => some (sz, xs)
  | some (.fz sz xs) => some (sz, xs)
  | _ => none
theorem rowSl_row : rowSl (some (.row sz rows)) = some (sz, rows) := rfl
theorem rowSl_fz : rowSl (some (.fz sz rows)) = some (sz, rows) := rfl
theorem asSl_row : asSl stk (.row l t) = rowSl (lookB stk l t) := by
  simp only [asSl, rowSl]; rfl
theorem blt_len {d : Option Nat} {u : TypeId} {ts : List TypeId} {x : V} : bltV P rd stk d .len (u :: ts).toArray [x] = goP stk (lenV rd (kdT P u) x) := by simp [bltV]
theorem goP_some {v : V} : goP stk (some v) = some (v, stk) := rfl
theorem len_str : lenV rd 1 (.str s) = some (.int .i64 s.size) := rfl
theorem len_sl : lenV rd 2 (.sl sz rows) = some (.int .i64 rows.length) := rfl
theorem len_nl : lenV rd 2 (.nl sz) = some (.int .i64 ((0 : Nat) : Int)) := rfl
theorem len_ap : lenV rd 2 (.ap l t sz rows) = some (.int .i64 rows.length) := rfl
def rowLen : Option (Nat × List (List V)) → Option V
  | some (_, r) => some (.int .i64 r.length)
  | none => none
theorem rowLen_some : rowLen (some (sz, rows)) = some (.int .i64 rows.length) := rfl
theorem len_row : lenV rd 2 (.row l t) = rowLen (asSl rd (.row l t)) := by
  simp only [lenV, rowLen, if_true]; rfl
theorem blt_max {d : Option Nat} {ts : Array TypeId} : bltV P rd stk d .max ts [.int k a, .int k b] = some (.int k (if b > a then b else a), stk) := by simp [bltV]
theorem blt_min {d : Option Nat} {ts : Array TypeId} : bltV P rd stk d .min ts [.int k a, .int k b] = some (.int k (if b < a then b else a), stk) := by simp [bltV]
theorem blt_app {d : Option Nat} {v w : V} {e : TypeId} : bltV P rd stk d .append [e, e].toArray [v, w] = appV P rd stk d e v w := by simp [bltV]
def ld2 (cs : List V) : Option (Bool × Nat) → Option V
  | some (true, n) => if n ≤ cs.length then some (.agg (cs.take n)) else none
  | some (false, _) => cs.head?
  | none => none
theorem ld2_true : ld2 cs (some (true, t)) = if t ≤ cs.length then some (.agg (cs.take t)) else none := rfl
theorem ld2_false {v : V} : ld2 (v :: cs) (some (false, t)) = some v := rfl
theorem ldV_eq {ty : TypeId} : ldV P ty cs = ld2 cs (tyAg P ty) := by simp only [ldV, ld2]; rfl
def ldC (P : Program) (ty : TypeId) (l o : Nat) : Option B → Option V
  | some (.cells cs) => (ldV P ty (cs.drop o)).map (V.up l)
  | _ => none
theorem ldC_cells {ty : TypeId} : ldC P ty l o (some (.cells cs)) = (ldV P ty (cs.drop o)).map (V.up l) := rfl
theorem ldA_ptr {ty : TypeId} : ldA P stk ty (.ptr l t o) = ldC P ty l o (lookB stk l t) := by simp only [ldA, ldC]; rfl
theorem ldA_eptr {ty : TypeId} : ldA P stk ty (.eptr cs o) = ldV P ty (cs.drop o) := rfl
def ldR (P : Program) (ty : TypeId) (i o : Nat) : Option B → Option V
  | some (.row _ xs) => (xs[i]?).bind fun r => ldV P ty (r.drop o)
  | some (.fz _ xs) => (xs[i]?).bind fun r => ldV P ty (r.drop o)
  | _ => none
theorem ldR_row {ty : TypeId} : ldR P ty i o (some (.row sz rows)) = (rows[i]?).bind fun r => ldV P ty (r.drop o) := rfl
theorem ldR_fz {ty : TypeId} : ldR P ty i o (some (.fz sz rows)) = (rows[i]?).bind fun r => ldV P ty (r.drop o) := rfl
theorem ldA_rptr {ty : TypeId} : ldA P stk ty (.rptr l t i o) = ldR P ty i o (lookB stk l t) := by
  simp only [ldA, ldR]
  cases lookB stk l t with
  | none => rfl
  | some b =>
    cases b <;> first | rfl | skip
    · rename_i xs
      simp only
      cases xs[i]? <;> rfl
    · rename_i xs
      simp only
      cases xs[i]? <;> rfl
theorem fd_ptr {ty : TypeId} {f : Nat} : fdA P ty f (.ptr l t o) = (fdOff P ty f).map fun k => .ptr l t (o + k) := rfl
theorem fd_rptr {ty : TypeId} {f : Nat} : fdA P ty f (.rptr l t i o) = (fdOff P ty f).map fun k => .rptr l t i (o + k) := rfl
theorem fd_eptr {ty : TypeId} {f : Nat} : fdA P ty f (.eptr cs o) = (fdOff P ty f).map fun k => .eptr cs (o + k) := rfl
def ix2 (sz : Nat) (xs : List (List V)) (a : Int) : Option Nat → Option V
  | some sz' => if sz = sz' ∧ 0 ≤ a then (xs[a.toNat]?).map fun r => .eptr r 0 else none
  | none => none
theorem ix2_some : ix2 sz rows a (some sz) = if 0 ≤ a then (rows[a.toNat]?).map fun r => .eptr r 0 else none := by simp [ix2]
theorem ix_sl {ty : TypeId} : ixA P stk ty (.sl sz rows) a = ix2 sz rows a (slSz P ty) := by
  simp only [ixA, asSl, ix2]; cases slSz P ty <;> rfl
theorem ix_ap {ty : TypeId} : ixA P stk ty (.ap l t sz rows) a = ix2 sz rows a (slSz P ty) := by
  simp only [ixA, asSl, ix2]; cases slSz P ty <;> rfl
def ixr (sz' : Option Nat) (l t : Nat) (a : Int) : Option B → Option V
  | some (.row sz xs) => if some sz = sz' ∧ 0 ≤ a ∧ a < xs.length then some (.rptr l t a.toNat 0) else none
  | some (.fz sz xs) => if some sz = sz' ∧ 0 ≤ a then (xs[a.toNat]?).map fun r => .eptr r 0 else none
  | _ => none
theorem ixr_row : ixr (some sz) l t a (some (.row sz rows)) = if 0 ≤ a ∧ a < rows.length then some (.rptr l t a.toNat 0) else none := by simp [ixr]
theorem ixr_fz : ixr (some sz) l t a (some (.fz sz rows)) = if 0 ≤ a then (rows[a.toNat]?).map fun r => .eptr r 0 else none := by simp [ixr]
theorem ix_row {ty : TypeId} : ixA P stk ty (.row l t) a = ixr (slSz P ty) l t a (lookB stk l t) := by
  simp only [ixA, ixr]
  cases lookB stk l t with
  | none => cases slSz P ty <;> rfl
  | some b => cases b <;> cases slSz P ty <;> simp
def ixp (l t o : Nat) (a : Int) : Option (Nat × Nat) → Option V
  | some (n, sz) => if 0 ≤ a ∧ a < n then some (.ptr l t (o + a.toNat * sz)) else none
  | none => none
theorem ixp_some {n : Nat} : ixp l t o a (some (n, sz)) = if 0 ≤ a ∧ a < n then some (.ptr l t (o + a.toNat * sz)) else none := rfl
theorem ix_ptr {ty : TypeId} : ixA P stk ty (.ptr l t o) a = ixp l t o a (arrLen P ty) := by
  simp only [ixA, ixp]; rfl
theorem ixV_str {ty : TypeId} : ixV P ty (.str s) a = if kdT P ty = 1 then if 0 ≤ a then (s.data[a.toNat]?).map fun b => .int .u8 b.toNat else none else none := rfl
def bd2 (k : Nat × Nat → V) : Option (Nat × Nat) → Option V
  | some p => some (k p)
  | none => none
theorem bd2_some {k : Nat × Nat → V} {p : Nat × Nat} : bd2 k (some p) = some (k p) := rfl
theorem slV_str {u : TypeId} {lo hi : Option V} : slV P stk u (.str s) lo hi = if kdT P u = 1 then bd2 (fun p => .str (s.extract p.1 p.2)) (bdV s.size lo hi) else none := by
  simp only [slV, bd2]; cases bdV s.size lo hi <;> rfl
theorem slV_sl {u : TypeId} {lo hi : Option V} : slV P stk u (.sl sz rows) lo hi = if slSz P u = some sz then bd2 (fun p => .sl sz ((rows.take p.2).drop p.1)) (bdV rows.length lo hi) else none := by
  simp only [slV, asRd, bd2]; cases bdV rows.length lo hi <;> rfl
theorem slV_ap {u : TypeId} {lo hi : Option V} : slV P stk u (.ap l t sz rows) lo hi = if slSz P u = some sz then bd2 (fun p => .sl sz ((rows.take p.2).drop p.1)) (bdV rows.length lo hi) else none := by
  simp only [slV, asRd, bd2]; cases bdV rows.length lo hi <;> rfl
theorem bd_none {n : Nat} : bdV n none none = some (0, n) := rfl
theorem bd_lo {n : Nat} : bdV n (some (.int k a)) none = if 0 ≤ a ∧ a ≤ n then some (a.toNat, n) else none := rfl
theorem bd_hi {n : Nat} : bdV n none (some (.int k b)) = if 0 ≤ b ∧ b ≤ n then some (0, b.toNat) else none := rfl
theorem bd_both {n : Nat} {k' : IntKind} : bdV n (some (.int k a)) (some (.int k' b)) = if 0 ≤ a ∧ a ≤ b ∧ b ≤ n then some (a.toNat, b.toNat) else none := rfl
theorem mkV_some {f : Fr} {r : Stk} {d : Nat} {b : B} {v : Nat → V} (h : look f d = none) : mkV (f :: r) (some d) b v = some (v d, ins d b f :: r) := by simp [mkV, lookB, h, newB]
def st2 (l t o n : Nat) (stk : Stk) (x : V) : Option B → Option V → Option Stk
  | some (.cells cs), some x => if o + n ≤ cs.length then some (setB stk l t (.cells (spl cs o x.cs))) else none
  | _, _ => none
theorem st2_some {n : Nat} {v w : V} : st2 l t o n stk v (some (.cells cs)) (some w) = if o + n ≤ cs.length then some (setB stk l t (.cells (spl cs o w.cs))) else none := rfl
def st3 (i o n : Nat) (stk : Stk) (l t : Nat) : Option B → Option V → Option Stk
  | some (.row sz xs), some x => (xs[i]?).bind fun r => if o + n ≤ r.length ∧ x.cs.all V.pure then some (setB stk l t (.row sz (xs.set i (spl r o x.cs)))) else none
  | _, _ => none
theorem st3_some {n : Nat} {w : V} : st3 i o n stk l t (some (.row sz rows)) (some w) = (rows[i]?).bind fun r => if o + n ≤ r.length ∧ w.cs.all V.pure then some (setB stk l t (.row sz (rows.set i (spl r o w.cs)))) else none := rfl
def stT (f : Nat → Option Stk) (m : Nat) : Option (Bool × Nat) → Option Stk
  | some (_, n) => if m = n then f n else none
  | none => none
theorem stT_some {f : Nat → Option Stk} {n : Nat} {b : Bool} : stT f n (some (b, n)) = f n := by simp [stT]
theorem stA_ptr {ty : TypeId} {v : V} : stA P stk ty (.ptr l t o) v = stT (fun n => st2 l t o n stk v (lookB stk l t) (V.down l v)) v.cs.length (tyAg P ty) := by
  simp only [stA, stT, st2]; rfl
theorem stA_rptr {ty : TypeId} {v : V} : stA P stk ty (.rptr l t i o) v = stT (fun n => st3 i o n stk l t (lookB stk l t) (V.co stk v)) v.cs.length (tyAg P ty) := by
  simp only [stA, stT, st3]
  cases tyAg P ty with
  | none => rfl
  | some p =>
    simp only
    split
    · cases lookB stk l t with
      | none => rfl
      | some b =>
        cases b <;> first | rfl | skip
        cases V.co stk v with
        | none => rfl
        | some w =>
          rename_i xs
          simp only
          cases xs[i]? <;> rfl
    · rfl
/-- An element appended. -/
theorem app_ap {d : Option Nat} {ty e : TypeId} {xs ys : List (List V)} (h : slTy P ty = some (e, sz)) (hl : lookB stk l t = some (.tok e sz xs.length)) (hm : xs.length + ys.length ≤ most) :
    appV P rd stk d ty (.ap l t sz xs) (.sl sz ys) = some (.ap l t sz (xs ++ ys), setB stk l t (.tok e sz (xs.length + ys.length))) := by
  have : ys.length ≤ most := by omega
  simp [appV, h, asSl, hl, hm, this]
theorem elems_nil {n i : Nat} : elemsV stk n i [] = some [] := rfl
def elemC (sz : Nat) (r : Option (List (List V))) : Option V → Option (List (List V))
  | some v => if v.cs.length = sz && v.cs.all V.pure then r.map (v.cs :: ·) else none
  | none => none
theorem elemC_some {n : Nat} {r : List (List V)} {v : V} : elemC n (some r) (some v) = if v.cs.length = n && v.cs.all V.pure then some (v.cs :: r) else none := rfl
theorem elems_cons {n i j : Nat} {v : V} {r : List (Nat × V)} : elemsV stk n i ((j, v) :: r) = if i = j then elemC n (elemsV stk n (i + 1) r) (V.co stk v) else none := by
  simp only [elemsV, elemC]
  split
  · cases V.co stk v with
    | none => rfl
    | some w =>
      simp only
      split
      · cases elemsV stk n (i + 1) r <;> rfl
      · rfl
  · rfl
theorem resV_nil {S : St} : resV P S [] = some [] := rfl
theorem resV_tmp {tm : List (Nat × V)} {r : List ResultVar} : resV P ⟨tm, stk⟩ (.tmp t :: r) = cons2 (look tm t) (resV P ⟨tm, stk⟩ r) := by simp only [resV, cons2]; rfl
theorem resV_cell {tm : List (Nat × V)} {ty : TypeId} {r : List ResultVar} : resV P ⟨tm, stk⟩ (.cell t ty :: r) = cons2 ((look tm t).bind (ldA P stk ty)) (resV P ⟨tm, stk⟩ r) := by
  simp only [resV, cons2]
  cases look tm t with
  | none => rfl
  | some p => simp only [Option.bind_some]; rfl
def bk2 (r : Stk) : Option (List V) → Option (V × Stk)
  | some [v] => some (v, r)
  | some vs => some (.tup vs, r)
  | none => none
theorem bk2_one {r : Stk} {v : V} : bk2 r (some [v]) = some (v, r) := rfl
theorem bk2_two {r : Stk} {v w : V} {q : List V} : bk2 r (some (v :: w :: q)) = some (.tup (v :: w :: q), r) := rfl
def bk1 (stk : Stk) (o : Option (List V)) : Option (V × Stk) := o.bind fun vs => backW (V.coL (V.fzL vs stk) vs) (V.fzL vs stk)
theorem backV_eq {fn : Func} {tm : List (Nat × V)} : backV P fn ⟨tm, stk⟩ = bk1 stk (resV P ⟨tm, stk⟩ fn.results.toList) := rfl
theorem bk1_some {vs : List V} : bk1 stk (some vs) = backW (V.coL (V.fzL vs stk) vs) (V.fzL vs stk) := rfl
theorem bk3_cons {f : Fr} {r : Stk} {vs : List V} : backW (some vs) (f :: r) = bk2 r (V.unL 1 vs) := by
  simp only [backW, bk2]
  cases V.unL 1 vs with
  | none => rfl
  | some us =>
    cases us with
    | nil => rfl
    | cons u us => cases us <;> rfl
end

/-! ### a loop's last round -/
def roundE (ks : Option (List Nat)) : Option (Ex × St) → Option St
  | some (.nm, S) => prune ks S
  | _ => none
theorem roundE_nm {ks : Option (List Nat)} {S : St} : roundE ks (some (.nm, S)) = prune ks S := rfl
def lastE : Option (Ex × St) → Bool
  | some (.nm, _) => false
  | some _ => true
  | none => false
theorem lastE_ex {S : St} {i : Nat} : lastE (some (.ex i, S)) = true := rfl
theorem lastE_rt {S : St} : lastE (some (.rt, S)) = true := rfl
theorem ev_rounds_to {P : Program} {A : An} {pr : FuncId → Option (List V → Stk → Option (V × Stk))} {F : FuncId} {b : Code} {S : St} (m : Nat) (I : Nat → St) (h0 : prune (A.loop F (headR b)) S = some (I 0))
    (hr : ∀ i, i < m → roundE (A.loop F (headR b)) (ev P A pr F b (I i)) = some (I (i + 1)))
    (hn : lastE (ev P A pr F b (I m)) = true) : ev P A pr F (.loop b) S = ev P A pr F b (I m) := by
  cases h1 : ev P A pr F b (I m) with
  | none => rw [h1] at hn; cases hn
  | some r =>
    rw [h1] at hn
    refine ev_rounds m I h0 (fun i hi => ?_) h1 ?_
    · have := hr i hi
      unfold roundE at this
      split at this
      · rename_i S' hs
        exact ⟨S', hs, this⟩
      · cases this
    · obtain ⟨e, T⟩ := r
      intro he
      cases he
      cases hn

/-! ### numbers, truths -/
theorem beq_tt : (true == true) = true := rfl
theorem beq_ft : (false == true) = false := rfl
theorem beq_tf : (true == false) = false := rfl
theorem beq_ff : (false == false) = true := rfl
theorem wrap_i64 {n : Int} (h0 : -9223372036854775808 ≤ n) (h1 : n ≤ 9223372036854775807) : IntKind.i64.wrap n = n := by
  simp [IntKind.wrap, IntKind.bits, IntKind.signed]
  omega
theorem wrap_succ {n : Nat} (h : n < 4611686018427387904) : IntKind.i64.wrap ((n : Int) + 1) = ((n + 1 : Nat) : Int) := by
  rw [wrap_i64 (by omega) (by omega)]
  omega
end Go.Shade
