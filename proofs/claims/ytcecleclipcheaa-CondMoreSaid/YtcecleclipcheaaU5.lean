/-
  What a row's builder asks of the program, in parts.
-/
import Derived.Test.YtcecleclipcheaaU3
import Derived.Test.YtcecleclipcheaaU4
namespace Go.Proofs.Ytcecleclipcheaa
open Go.RowKit
theorem fLaid : laidOutB Try.pinned.checked.prog = true := by kernel_rfl
theorem fRowed : mapsRowed Try.pinned.checked.prog = true := by kernel_rfl
theorem fStops : (Try.pinned.checked.prog.stops == []) = true := by kernel_rfl
theorem fKnobs : (Try.pinned.checked.prog.stopKnobs == []) = true := by kernel_rfl
theorem fHeard : Try.pinned.checked.prog.stopsHeard = true := by kernel_rfl
theorem fPlain : Try.pinned.checked.prog.plainKeys = Rows.codeSpoiltRow.plainKeys := by kernel_rfl
theorem fMake : Try.pinned.checked.prog.make = some Rows.codeSpoiltRow.make := by kernel_rfl
end Go.Proofs.Ytcecleclipcheaa
