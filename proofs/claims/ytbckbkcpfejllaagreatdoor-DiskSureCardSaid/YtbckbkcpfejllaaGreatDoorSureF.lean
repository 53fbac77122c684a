/- What the law DiskSure reaches: the closed facts of its row. -/
import Derived.Test.YtbckbkcpfejllaaGreatDoorJo
namespace Go.Proofs.YtbckbkcpfejllaaGreatDoor
open Go.ChangeShapes Go.WideShapes Go.ChangeAt Go.RowKit
-- (facts on what the function reaches, each a lemma of its own: in one declaration they outgrow the kernel's memory)
theorem sure_f1 : (Rows.diskSureRow.inPlace == Tryz.prog.inPlace 3) = true := by kernel_rfl
theorem sure_f2 : (Rows.diskSureRow.unfollowed == Tryz.prog.unfollowed 3) = true := by kernel_rfl
theorem sure_f3 : (Rows.diskSureRow.recurses == Tryz.prog.recurses 3) = true := by kernel_rfl
theorem sure_f4 : (Rows.diskSureRow.named == Tryz.prog.varsNamed 3) = true := by kernel_rfl
theorem sure_closed : joinedFacts Tryz.prog 3 Tryz.f3 Rows.diskSureSpec Rows.diskSureRow = true := by
  unfold joinedFacts
  rw [sure_f1, sure_f2, sure_f3, sure_f4]
  kernel_rfl
end Go.Proofs.YtbckbkcpfejllaaGreatDoor
