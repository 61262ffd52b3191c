/-
  This program's types, read.
-/
import Derived.Test.YtcecleclipcheaaSh24
import Derived.Test.YtcecleclipcheaaNa
import Derived.Test.YtcecleclipcheaaProg
import Derived.KernelRfl
set_option linter.unusedVariables false
set_option linter.unusedSimpArgs false
namespace Go.Proofs.Ytcecleclipcheaa
open Go Go.Shade Go.Fence

/-- A struct's fields in the model's table. -/
def flds (P : Program) (t : TypeId) : List (TypeId × Nat) := match P.underlying t with
  | some (.struct fs) => fs.toList.map fun f => (f.type, f.offset)
  | _ => []

theorem rInt : Reads Try.prog 3 Int (fun n => [.int .i64 n]) I64 := Reads.int (by kernel_rfl) (by kernel_rfl)
theorem rBool : Reads Try.prog 4 Bool (fun b => [.bool b]) (fun _ => True) := Reads.bool (by kernel_rfl) (by kernel_rfl)
theorem rU8 : Reads Try.prog 5 Int (fun n => [.int .u8 n]) (fun n => (Lit.int .u8 n).wf = true) := Reads.int (by kernel_rfl) (by kernel_rfl)
theorem rStr : Reads Try.prog 9 ByteArray (fun s => [.str s]) S47 := Reads.str (by kernel_rfl) (by kernel_rfl)
theorem rInts : Reads Try.prog 22 (List Int) (fun l => [ints l]) intsFit := Reads.slice (u := 3) (sz := 1) (by kernel_rfl) (by kernel_rfl) (by kernel_rfl) rInt

theorem rLine : Reads Try.prog 66 Line Line.e Line.Fit :=
  (Reads.struct Try.underlying66 (.cons 1 rfl (by kernel_rfl) rInt (.cons 1 rfl (by kernel_rfl) rStr (.cons 1 rfl (by kernel_rfl) rStr (.cons 1 rfl (by kernel_rfl) rStr (.cons 1 rfl (by kernel_rfl) rInt (.nil _)))))) (by kernel_rfl)).iso
    (fun x => ⟨x.1, x.2.1, x.2.2.1, x.2.2.2.1, x.2.2.2.2.1⟩) (fun x => rfl) (fun x h => ⟨h.1, h.2.1, h.2.2.1, h.2.2.2.1, h.2.2.2.2.1⟩) (fun x => by rw [show Try.prog.cellsOf 66 = 5 by kernel_rfl]; rfl)
theorem rCell : Reads Try.prog 73 Cell Cell.e Cell.Fit :=
  (Reads.struct Try.underlying73 (.cons 1 rfl (by kernel_rfl) rStr (.cons 1 rfl (by kernel_rfl) rInt (.nil _))) (by kernel_rfl)).iso
    (fun x => ⟨x.1, x.2.1⟩) (fun x => rfl) (fun x h => ⟨h.1, h.2.1⟩) (fun x => by rw [show Try.prog.cellsOf 73 = 2 by kernel_rfl]; rfl)
theorem rAtom : Reads Try.prog 53 Atom Atom.e Atom.Fit :=
  (Reads.struct Try.underlying53 (.cons 1 rfl (by kernel_rfl) rInt (.cons 1 rfl (by kernel_rfl) rStr (.cons 1 rfl (by kernel_rfl) rInt (.nil _)))) (by kernel_rfl)).iso
    (fun x => ⟨x.1, x.2.1, x.2.2.1⟩) (fun x => rfl) (fun x h => ⟨h.1, h.2.1, h.2.2.1⟩) (fun x => by rw [show Try.prog.cellsOf 53 = 3 by kernel_rfl]; rfl)
theorem rStp : Reads Try.prog 70 Stp Stp.e Stp.Fit :=
  (Reads.struct Try.underlying70 (.cons 1 rfl (by kernel_rfl) rInt (.cons 1 rfl (by kernel_rfl) rInt (.cons 1 rfl (by kernel_rfl) rInt (.cons 1 rfl (by kernel_rfl) rInt (.cons 1 rfl (by kernel_rfl) rInt (.nil _)))))) (by kernel_rfl)).iso
    (fun x => ⟨x.1, x.2.1, x.2.2.1, x.2.2.2.1, x.2.2.2.2.1⟩) (fun x => rfl) (fun x h => ⟨h.1, h.2.1, h.2.2.1, h.2.2.2.1, h.2.2.2.2.1⟩) (fun x => by rw [show Try.prog.cellsOf 70 = 5 by kernel_rfl]; rfl)
theorem rLines : Reads Try.prog 61 (List Line) (fun l => [.sl 5 (l.map Line.e)]) linesFit := Reads.slice (u := 66) (sz := 5) Try.underlying61 (by kernel_rfl) (by kernel_rfl) rLine
theorem rThr : Reads Try.prog 63 (List Line) thr linesFit :=
  (Reads.struct Try.underlying63 (.cons 1 rfl (by kernel_rfl) rLines (.nil _)) (by kernel_rfl)).iso (fun x => x.1) (fun x => rfl) (fun x h => h.1) (fun x => by rw [show Try.prog.cellsOf 63 = 1 by kernel_rfl]; rfl)
theorem rOut : Reads Try.prog 35 Out Out.e Out.Fit :=
  (Reads.struct Try.underlying35 (.cons 1 rfl (by kernel_rfl) rInts (.cons 1 rfl (by kernel_rfl) rInts (.nil _))) (by kernel_rfl)).iso
    (fun x => ⟨x.1, x.2.1⟩) (fun x => rfl) (fun x h => ⟨h.1, h.2.1⟩) (fun x => by rw [show Try.prog.cellsOf 35 = 2 by kernel_rfl]; rfl)
theorem rOuts : Reads Try.prog 44 (List Out) (fun l => [.sl 2 (l.map Out.e)]) (fun l => l.length ≤ maxLen ∧ ∀ o ∈ l, o.Fit) := Reads.slice (u := 35) (sz := 2) Try.underlying44 (by kernel_rfl) (by kernel_rfl) rOut
theorem rStps : Reads Try.prog 68 (List Stp) stps stpsFit := Reads.slice (u := 70) (sz := 5) Try.underlying68 (by kernel_rfl) (by kernel_rfl) rStp
theorem rPrg : Reads Try.prog 25 Prg Prg.e Prg.Fit :=
  (Reads.struct Try.underlying25 (.cons 1 rfl (by kernel_rfl) rInts (.cons 1 rfl (by kernel_rfl) (Reads.slice (u := 68) (sz := 1) Try.underlying23 (by kernel_rfl) (by kernel_rfl) rStps) (.nil _))) (by kernel_rfl)).iso
    (fun x => ⟨x.1, x.2.1⟩) (fun x => rfl) (fun x h => ⟨h.1, h.2.1⟩) (fun x => by rw [show Try.prog.cellsOf 25 = 2 by kernel_rfl]; rfl)
theorem rFile : Reads Try.prog 43 File File.e File.Fit :=
  (Reads.struct Try.underlying43 (.cons 1 rfl (by kernel_rfl) rStr (.cons 1 rfl (by kernel_rfl) (Reads.slice (u := 73) (sz := 2) Try.underlying39 (by kernel_rfl) (by kernel_rfl) rCell) (.cons 1 rfl (by kernel_rfl) (Reads.slice (u := 63) (sz := 1) Try.underlying40 (by kernel_rfl) (by kernel_rfl) rThr)
    (.cons 1 rfl (by kernel_rfl) rBool (.cons 1 rfl (by kernel_rfl) (Reads.slice (u := 53) (sz := 3) Try.underlying41 (by kernel_rfl) (by kernel_rfl) rAtom) (.nil _)))))) (by kernel_rfl)).iso
    (fun x => ⟨x.1, x.2.1, x.2.2.1, x.2.2.2.1, x.2.2.2.2.1⟩) (fun x => rfl) (fun x h => ⟨h.1, h.2.1, h.2.2.1, h.2.2.2.2.1⟩) (fun x => by rw [show Try.prog.cellsOf 43 = 5 by kernel_rfl]; rfl)
end Go.Proofs.Ytcecleclipcheaa
