/-
  The program may be entered: by the kernel (50 seconds, 8 GB: so it stands alone).
-/
import Derived.Test.YtcecleclipcheaaRows
import Derived.ProofKit
namespace Go.Proofs.Ytcecleclipcheaa
theorem mayEnter : Try.pinned.checked.prog.mayEnter = true := by kernel_rfl
end Go.Proofs.Ytcecleclipcheaa
