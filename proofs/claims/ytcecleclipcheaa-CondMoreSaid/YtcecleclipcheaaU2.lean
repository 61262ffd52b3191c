/-
  This program: notes, functions taken as given.
-/
import Derived.Test.YtcecleclipcheaaSh22
import Derived.Test.YtcecleclipcheaaNa
import Derived.Test.YtcecleclipcheaaProg
import Derived.KernelRfl
set_option linter.unusedVariables false
set_option linter.unusedSimpArgs false
namespace Go.Proofs.Ytcecleclipcheaa
open Go Go.Shade Go.Fence

def an : An where
  loop := fun F h => match F, h with
    | 6, 7 => some [1, 2, 5, 6, 7, 8]
    | 8, 8 => some [2, 3, 5, 6, 7, 8, 9]
    | 12, 21 => some [3, 7, 10, 13, 14, 15, 17]
    | 13, 13 => some [2, 5, 6, 8, 9, 10, 11]
    | 17, 7 => some [1, 3, 4, 5, 6]
    | 17, 13 => some [1, 3, 4, 5, 6, 7]
    | 23, 4 => some [0, 1, 5]
    | 27, 4 => some [0, 3]
    | 29, 5 => some [2, 3, 5, 6]
    | 31, 2 => some [1, 2, 5]
    | 36, 4 => some [1, 3]
    | 36, 9 => some [1, 4]
    | 36, 14 => some [1, 5]
    | 36, 19 => some [1, 5, 6]
    | 37, 6 => some [1, 2, 4, 5, 16, 19, 20, 21]
    | 38, 4 => some [2, 3, 5]
    | 38, 9 => some [2, 3, 5, 6]
    | 39, 4 => some [1, 24, 25, 26]
    | 39, 9 => some [1, 4, 24, 25, 26, 33, 34, 35]
    | 41, 4 => some [1, 2, 3, 23, 24, 25]
    | 42, 6 => some [2, 7, 8, 9]
    | 45, 4 => some [1, 3]
    | 48, 7 => some [3, 13, 24, 25, 26]
    | 48, 11 => some [3, 13, 24, 25, 26, 36, 37, 38]
    | 49, 5 => some [1, 3, 4, 13]
    | 49, 10 => some [1, 5, 6, 13]
    | 49, 14 => some [1, 5, 6, 7, 13]
    | 49, 21 => some [1, 5, 8, 9, 13, 78, 81]
    | 52, 4 => some [2, 3, 5]
    | 52, 9 => some [2, 3, 6]
    | 52, 14 => some [2, 3, 6, 7]
    | 52, 19 => some [2, 3, 8]
    | 54, 12 => some [0, 2, 4, 9]
    | 55, 4 => some [3, 4, 5]
    | 58, 4 => some [0, 1, 5]
    | 59, 3 => some [3, 6, 7, 8]
    | 60, 4 => some [1, 3]
    | 60, 9 => some [1, 3, 4]
    | 62, 3 => some [3, 7, 8, 9]
    | 65, 4 => some [1, 2, 3, 7, 8, 17, 18, 19]
    | 65, 15 => some [1, 2, 8, 14, 51, 52, 53]
    | 66, 4 => some [0, 1, 5]
    | 70, 2 => some [0, 1, 7, 8]
    | 72, 2 => some [0, 4]
    | 75, 4 => some [0, 4, 5, 7]
    | 78, 3 => some [1, 3, 4]
    | 78, 7 => some [1, 3, 5]
    | 78, 10 => some [1, 3, 5, 6]
    | 78, 14 => some [1, 3, 7]
    | 79, 5 => some [1, 6]
    | 79, 8 => some [1, 6, 7]
    | 79, 14 => some [1, 9]
    | 81, 3 => some [1, 5, 10, 11, 12, 13]
    | 83, 3 => some [1, 5, 10, 11, 12, 13]
    | 84, 3 => some [1, 5, 8, 9, 10]
    | 89, 2 => some [0, 1, 7, 8]
    | 91, 3 => some [0, 3, 4]
    | 93, 2 => some [0, 2, 5, 10, 11, 12]
    | 95, 4 => some [0, 2, 5, 17, 18, 19]
    | 97, 5 => some [0, 3, 4]
    | 98, 3 => some [0, 3, 4]
    | 100, 12 => some [0, 1, 5, 39, 40, 41]
    | 100, 22 => some [1, 8, 63, 64, 65]
    | 102, 4 => some [0, 1, 5, 6, 7]
    | 104, 6 => some [0, 4, 5, 6]
    | 105, 4 => some [0, 1, 5]
    | 107, 2 => some [0, 3]
    | 108, 2 => some [0, 3]
    | 110, 4 => some [3, 12, 23, 24, 25]
    | 110, 13 => some [3, 12, 23, 24, 25, 51, 52, 53]
    | 111, 4 => some [0, 3, 4, 5]
    | 115, 2 => some [2, 8, 9, 10]
    | 116, 3 => some [2, 3, 11, 12, 13, 21]
    | 119, 3 => some [1, 3, 12, 14, 15, 16]
    | 119, 8 => some [1, 3, 12, 27, 28, 29]
    | 119, 11 => some [1, 3, 12, 27, 28, 29, 34, 35, 36]
    | 119, 18 => some [3, 12, 51, 52, 53]
    | 121, 2 => some [0, 1, 7, 8]
    | 122, 2 => some [0, 1, 7, 8]
    | 123, 4 => some [0, 1, 5, 6, 7]
    | 124, 4 => some [1, 3]
    | 125, 13 => some [0, 1, 5, 6, 7, 8]
    | 127, 5 => some [1, 14, 15, 16]
    | 137, 3 => some [2, 3, 15, 16]
    | 140, 3 => some [2, 3, 15, 16]
    | 143, 3 => some [0, 2, 4, 8, 9, 10]
    | 149, 3 => some [0, 1, 5, 6]
    | 151, 6 => some [1, 3, 4, 14, 15, 16]
    | 152, 6 => some [0, 1, 5, 6, 7, 8, 20, 21, 22, 23, 24]
    | 152, 13 => some [0, 5, 6, 7, 8, 11, 20, 21, 37, 38, 39]
    | 153, 2 => some [1, 7, 8, 9]
    | 169, 1 => some [0, 5]
    | 178, 3 => some [3, 6, 7, 8]
    | 179, 2 => some [0, 1, 9, 10, 11]
    | 182, 2 => some [0, 1, 2, 3, 8, 9]
    | 199, 2 => some [1, 2, 10]
    | 209, 1 => some [0, 1, 3]
    | _, _ => none
  grow := fun F => match F with
    | 54 => [4]
    | 55 => [3]
    | 59 => [3]
    | 62 => [3]
    | 65 => [14]
    | 84 => [5]
    | 102 => [5]
    | 123 => [5]
    | _ => []
  apb := fun F => match F with
    | 7 => [27]
    | 9 => [88]
    | 14 => [102, 110]
    | 49 => [13, 78, 81]
    | 81 => [10]
    | 83 => [10]
    | 93 => [5]
    | 95 => [5]
    | 110 => [12]
    | 142 => [5]
    | 145 => [5]
    | 158 => [5]
    | 159 => [5]
    | 162 => [11]
    | _ => []
  rowb := fun F => match F with
    | 37 => [16]
    | _ => []
  eff := fun F r => match F, r with
    | 48, 4 => true
    | 48, 13 => true
    | _, _ => false
def noP : List V → Stk → Option (V × Stk) := fun _ _ => none
def prm : FuncId → Option (List V → Stk → Option (V × Stk)) := fun f => match f with
  | 63 | 141 | 187 | 188 | 189 | 190 | 192 | 193 | 195 | 196 | 203 => some noP
  | 174 => some (cfP 175)
  | 148 => some (keysP 169)
  | 147 => some (sortP 169)
  | _ => none

/-- The same functions, nothing known of them. -/
def prm0 : FuncId → Option (List V → Stk → Option (V × Stk)) := fun f => (prm f).map fun _ => noP
noncomputable def chkF (f : FuncId) : Bool := match prm f with
  | some _ => true
  | none => match Try.prog.funcs[f]? with
    | some fn => match fn.body with
      | some c => chkC an f fn.ntmps c && !(fn.name == "runtime.NumGoroutine")
      | none => true
    | none => true
theorem chk_all : ((List.range 238).all chkF) = true := by kernel_rfl
theorem nfuncs : Try.prog.funcs.size = 238 := by kernel_rfl
end Go.Proofs.Ytcecleclipcheaa
