/- What the law ReclogSure reaches: the closed facts of its row. -/
import Derived.Test.YtbckbkcpfejllaaGreatDoorJo
namespace Go.Proofs.YtbckbkcpfejllaaGreatDoor
open Go.ChangeShapes Go.WideShapes Go.ChangeAt Go.RowKit
-- (facts on what the function reaches, each a lemma of its own: in one declaration they outgrow the kernel's memory)
theorem rsure_f1 : (Rows.reclogSureRow.inPlace == Tryz.prog.inPlace 8) = true := by kernel_rfl
theorem rsure_f2 : (Rows.reclogSureRow.unfollowed == Tryz.prog.unfollowed 8) = true := by kernel_rfl
theorem rsure_f3 : (Rows.reclogSureRow.recurses == Tryz.prog.recurses 8) = true := by kernel_rfl
theorem rsure_f4 : (Rows.reclogSureRow.named == Tryz.prog.varsNamed 8) = true := by kernel_rfl
theorem rsure_closed : joinedFacts Tryz.prog 8 Tryz.f8 Rows.reclogSureSpec Rows.reclogSureRow = true := by
  unfold joinedFacts
  rw [rsure_f1, rsure_f2, rsure_f3, rsure_f4]
  kernel_rfl
end Go.Proofs.YtbckbkcpfejllaaGreatDoor
