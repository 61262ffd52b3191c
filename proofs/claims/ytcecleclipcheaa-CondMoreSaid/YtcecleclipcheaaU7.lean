/-
  Soundness over this program, nothing known of the functions taken as given.
-/
import Derived.Test.YtcecleclipcheaaU2
set_option linter.unusedVariables false
set_option linter.unusedSimpArgs false
namespace Go.Proofs.Ytcecleclipcheaa
open Go Go.Shade Go.Fence
theorem prim_no (f : FuncId) : PrimSnd Try.prog f noP := fun _ _ _ _ _ _ _ _ h => by cases h
/-- What is left to show for functions taken as given. -/
theorem sound_of (pr : FuncId → Option (List V → Stk → Option (V × Stk))) (hd : ∀ f, pr f = none → prm f = none) (hp : ∀ f p, pr f = some p → PrimSnd Try.prog f p) : Sound Try.prog an pr := by
  refine ⟨by kernel_rfl, hp, fun f fn c hp hf hb => ?_⟩
  have hlt : f < Try.prog.funcs.size := (Array.getElem?_eq_some_iff.1 hf).1
  rw [nfuncs] at hlt
  have := List.all_eq_true.1 chk_all f (List.mem_range.2 hlt)
  unfold chkF at this
  rw [hd f hp] at this
  simp only at this
  rw [hf] at this
  simp only at this
  rw [hb] at this
  simp only [Bool.and_eq_true, Bool.not_eq_true'] at this
  exact this
theorem snd0 : Sound Try.prog an prm0 := sound_of prm0 (fun f h => by
    unfold prm0 at h
    cases hp : prm f with
    | none => rfl
    | some p => rw [hp] at h; cases h) (fun f p h => by
    unfold prm0 at h
    cases hp : prm f with
    | none => rw [hp] at h; cases h
    | some q => rw [hp] at h; cases h; exact prim_no f)
end Go.Proofs.Ytcecleclipcheaa
