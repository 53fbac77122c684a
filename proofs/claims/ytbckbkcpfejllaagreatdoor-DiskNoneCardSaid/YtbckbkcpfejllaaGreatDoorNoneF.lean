/- What the law DiskNone reaches: the closed facts of its row. -/
import Derived.Test.YtbckbkcpfejllaaGreatDoorJo
namespace Go.Proofs.YtbckbkcpfejllaaGreatDoor
open Go.ChangeShapes Go.WideShapes Go.ChangeAt Go.RowKit
-- (facts on what the function reaches, each a lemma of its own: in one declaration they outgrow the kernel's memory)
theorem none_f1 : (Rows.diskNoneRow.inPlace == Tryz.prog.inPlace 5) = true := by kernel_rfl
theorem none_f2 : (Rows.diskNoneRow.unfollowed == Tryz.prog.unfollowed 5) = true := by kernel_rfl
theorem none_f3 : (Rows.diskNoneRow.recurses == Tryz.prog.recurses 5) = true := by kernel_rfl
theorem none_f4 : (Rows.diskNoneRow.named == Tryz.prog.varsNamed 5) = true := by kernel_rfl
theorem none_closed : joinedFacts Tryz.prog 5 Tryz.f5 Rows.diskNoneSpec Rows.diskNoneRow = true := by
  unfold joinedFacts
  rw [none_f1, none_f2, none_f3, none_f4]
  kernel_rfl
end Go.Proofs.YtbckbkcpfejllaaGreatDoor
