/-
  Unrolling; calls that do not turn the stack.
-/
import Derived.Test.YtcecleclipcheaaSh26
set_option linter.unusedVariables false
namespace Go.Shade
open Go
section
variable {P : Program} {A : An} {pr : FuncId → Option (List V → Stk → Option (V × Stk))} {F : FuncId} {b : Code} {S : St}
noncomputable def again (P : Program) (A : An) (pr : FuncId → Option (List V → Stk → Option (V × Stk))) (F : FuncId) (b : Code) (S : St) : Option (Ex × St) := ev P A pr F (.loop b) S
theorem again_eq {tm : List (Nat × V)} {stk : Stk} : again P A pr F b ⟨tm, stk⟩ = ev P A pr F (.loop b) ⟨tm, stk⟩ := rfl
noncomputable def pruE (P : Program) (A : An) (pr : FuncId → Option (List V → Stk → Option (V × Stk))) (F : FuncId) (b : Code) : Option St → Option (Ex × St)
  | some S => thenE (ev P A pr F b S) (again P A pr F b)
  | none => none
theorem pruE_some {tm : List (Nat × V)} {stk : Stk} : pruE P A pr F b (some ⟨tm, stk⟩) = thenE (ev P A pr F b ⟨tm, stk⟩) (again P A pr F b) := rfl
theorem ev_unroll {tm : List (Nat × V)} {stk : Stk} : ev P A pr F (.loop b) ⟨tm, stk⟩ = pruE P A pr F b (prune (A.loop F (headR b)) ⟨tm, stk⟩) := by
  rw [ev_loop]
  cases prune (A.loop F (headR b)) ⟨tm, stk⟩ <;> rfl
end
end Go.Shade
namespace Go.Shade
theorem c1i : ((1 : Nat) : Int) = 1 := rfl
theorem c2i : ((2 : Nat) : Int) = 2 := rfl
theorem c3i : ((3 : Nat) : Int) = 3 := rfl
theorem c4i : ((4 : Nat) : Int) = 4 := rfl
theorem c20i : ((20 : Nat) : Int) = 20 := rfl
end Go.Shade
