/- What the law ReclogRewrites reaches: the closed facts of its row. -/
import Derived.Test.YtbckbkcpfejllaaGreatDoorJo
namespace Go.Proofs.YtbckbkcpfejllaaGreatDoor
open Go.ChangeShapes Go.WideShapes Go.ChangeAt Go.RowKit
-- (facts on what the function reaches, each a lemma of its own: in one declaration they outgrow the kernel's memory)
theorem rewrites_f1 : (Rows.reclogRewritesRow.inPlace == Tryz.prog.inPlace 7) = true := by kernel_rfl
theorem rewrites_f2 : (Rows.reclogRewritesRow.unfollowed == Tryz.prog.unfollowed 7) = true := by kernel_rfl
theorem rewrites_f3 : (Rows.reclogRewritesRow.recurses == Tryz.prog.recurses 7) = true := by kernel_rfl
theorem rewrites_f4 : (Rows.reclogRewritesRow.named == Tryz.prog.varsNamed 7) = true := by kernel_rfl
theorem rewrites_closed : joinedFacts Tryz.prog 7 Tryz.f7 Rows.reclogRewritesSpec Rows.reclogRewritesRow = true := by
  unfold joinedFacts
  rw [rewrites_f1, rewrites_f2, rewrites_f3, rewrites_f4]
  kernel_rfl
end Go.Proofs.YtbckbkcpfejllaaGreatDoor
