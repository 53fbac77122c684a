/- What the law DiskTimes reaches: the closed facts of its row. -/
import Derived.Test.YtbckbkcpfejllaaGreatDoorJo
namespace Go.Proofs.YtbckbkcpfejllaaGreatDoor
open Go.ChangeShapes Go.WideShapes Go.ChangeAt Go.RowKit
-- (facts on what the function reaches, each a lemma of its own: in one declaration they outgrow the kernel's memory)
theorem times_f1 : (Rows.diskTimesRow.inPlace == Tryz.prog.inPlace 4) = true := by kernel_rfl
theorem times_f2 : (Rows.diskTimesRow.unfollowed == Tryz.prog.unfollowed 4) = true := by kernel_rfl
theorem times_f3 : (Rows.diskTimesRow.recurses == Tryz.prog.recurses 4) = true := by kernel_rfl
theorem times_f4 : (Rows.diskTimesRow.named == Tryz.prog.varsNamed 4) = true := by kernel_rfl
theorem times_closed : joinedFacts Tryz.prog 4 Tryz.f4 Rows.diskTimesSpec Rows.diskTimesRow = true := by
  unfold joinedFacts
  rw [times_f1, times_f2, times_f3, times_f4]
  kernel_rfl
end Go.Proofs.YtbckbkcpfejllaaGreatDoor
