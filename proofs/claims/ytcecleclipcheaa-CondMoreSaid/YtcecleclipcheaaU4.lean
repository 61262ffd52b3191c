/-
  What the program lifts: by the kernel (55 seconds, 7.5 GB: so it stands alone).
-/
import Derived.Test.YtcecleclipcheaaRows
import Derived.ProofKit
namespace Go.Proofs.Ytcecleclipcheaa
theorem liftsFinal : (Rows.codeSpoiltRow.lifted == Try.pinned.checked.prog.liftsFinal) = true := by kernel_rfl
end Go.Proofs.Ytcecleclipcheaa
