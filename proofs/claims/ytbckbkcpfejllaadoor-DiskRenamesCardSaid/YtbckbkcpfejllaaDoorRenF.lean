/- What the law DiskRenames reaches: the closed facts of its row. -/
import Derived.Test.YtbckbkcpfejllaaDoorJo
namespace Go.Proofs.YtbckbkcpfejllaaDoor
open Go.ChangeShapes Go.WideShapes Go.ChangeAt Go.RowKit
-- (facts on what the function reaches, each a lemma of its own: in one declaration they outgrow the kernel's memory)
theorem renames_f1 : (Rows.diskRenamesRow.inPlace == Tryd.prog.inPlace 6) = true := by kernel_rfl
theorem renames_f2 : (Rows.diskRenamesRow.unfollowed == Tryd.prog.unfollowed 6) = true := by kernel_rfl
theorem renames_f3 : (Rows.diskRenamesRow.recurses == Tryd.prog.recurses 6) = true := by kernel_rfl
theorem renames_f4 : (Rows.diskRenamesRow.named == Tryd.prog.varsNamed 6) = true := by kernel_rfl
theorem renames_closed : joinedFacts Tryd.prog 6 Tryd.f6 Rows.diskRenamesSpec Rows.diskRenamesRow = true := by
  unfold joinedFacts
  rw [renames_f1, renames_f2, renames_f3, renames_f4]
  kernel_rfl
end Go.Proofs.YtbckbkcpfejllaaDoor
