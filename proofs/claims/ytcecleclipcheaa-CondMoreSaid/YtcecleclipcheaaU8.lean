/-
  Soundness over this program.
-/
import Derived.Test.YtcecleclipcheaaP3
set_option linter.unusedVariables false
set_option linter.unusedSimpArgs false
namespace Go.Proofs.Ytcecleclipcheaa
open Go Go.Shade Go.Fence
theorem snd : Sound Try.prog an prm := sound_of prm (fun f h => h) (fun f p h => by
  unfold prm at h
  split at h <;> first
    | (cases h; done)
    | (cases h; exact prim_no _)
    | (cases h; exact prim_cf)
    | (cases h; exact prim_keys)
    | (cases h; exact prim_sort))
end Go.Proofs.Ytcecleclipcheaa
