/- What the law ReclogSpare reaches: the closed facts of its row. -/
import Derived.Test.YtbckbkcpfejllaaGreatDoorJo
namespace Go.Proofs.YtbckbkcpfejllaaGreatDoor
open Go.ChangeShapes Go.WideShapes Go.ChangeAt Go.RowKit
-- (facts on what the function reaches, each a lemma of its own: in one declaration they outgrow the kernel's memory)
theorem spare_f1 : (Rows.reclogSpareRow.inPlace == Tryz.prog.inPlace 6) = true := by kernel_rfl
theorem spare_f2 : (Rows.reclogSpareRow.unfollowed == Tryz.prog.unfollowed 6) = true := by kernel_rfl
theorem spare_f3 : (Rows.reclogSpareRow.recurses == Tryz.prog.recurses 6) = true := by kernel_rfl
theorem spare_f4 : (Rows.reclogSpareRow.named == Tryz.prog.varsNamed 6) = true := by kernel_rfl
theorem spare_closed : joinedFacts Tryz.prog 6 Tryz.f6 Rows.reclogSpareSpec Rows.reclogSpareRow = true := by
  unfold joinedFacts
  rw [spare_f1, spare_f2, spare_f3, spare_f4]
  kernel_rfl
end Go.Proofs.YtbckbkcpfejllaaGreatDoor
