/- What the law ReclogNone reaches: the closed facts of its row. -/
import Derived.Test.YtbckbkcpfejllaaDoorJo
namespace Go.Proofs.YtbckbkcpfejllaaDoor
open Go.ChangeShapes Go.WideShapes Go.ChangeAt Go.RowKit
-- (facts on what the function reaches, each a lemma of its own: in one declaration they outgrow the kernel's memory)
theorem rnone_f1 : (Rows.reclogNoneRow.inPlace == Tryd.prog.inPlace 4) = true := by kernel_rfl
theorem rnone_f2 : (Rows.reclogNoneRow.unfollowed == Tryd.prog.unfollowed 4) = true := by kernel_rfl
theorem rnone_f3 : (Rows.reclogNoneRow.recurses == Tryd.prog.recurses 4) = true := by kernel_rfl
theorem rnone_f4 : (Rows.reclogNoneRow.named == Tryd.prog.varsNamed 4) = true := by kernel_rfl
theorem rnone_closed : joinedFacts Tryd.prog 4 Tryd.f4 Rows.reclogNoneSpec Rows.reclogNoneRow = true := by
  unfold joinedFacts
  rw [rnone_f1, rnone_f2, rnone_f3, rnone_f4]
  kernel_rfl
end Go.Proofs.YtbckbkcpfejllaaDoor
