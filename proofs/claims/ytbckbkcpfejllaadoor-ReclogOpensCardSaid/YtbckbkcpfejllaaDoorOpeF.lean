/- What the law ReclogOpens reaches: the closed facts of its row. -/
import Derived.Test.YtbckbkcpfejllaaDoorJo
namespace Go.Proofs.YtbckbkcpfejllaaDoor
open Go.ChangeShapes Go.WideShapes Go.ChangeAt Go.RowKit
-- (facts on what the function reaches, each a lemma of its own: in one declaration they outgrow the kernel's memory)
theorem opens_f1 : (Rows.reclogOpensRow.inPlace == Tryd.prog.inPlace 3) = true := by kernel_rfl
theorem opens_f2 : (Rows.reclogOpensRow.unfollowed == Tryd.prog.unfollowed 3) = true := by kernel_rfl
theorem opens_f3 : (Rows.reclogOpensRow.recurses == Tryd.prog.recurses 3) = true := by kernel_rfl
theorem opens_f4 : (Rows.reclogOpensRow.named == Tryd.prog.varsNamed 3) = true := by kernel_rfl
theorem opens_closed : joinedFacts Tryd.prog 3 Tryd.f3 Rows.reclogOpensSpec Rows.reclogOpensRow = true := by
  unfold joinedFacts
  rw [opens_f1, opens_f2, opens_f3, opens_f4]
  kernel_rfl
end Go.Proofs.YtbckbkcpfejllaaDoor
