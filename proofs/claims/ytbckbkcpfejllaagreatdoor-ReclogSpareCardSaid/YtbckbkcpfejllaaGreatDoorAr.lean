/- What an argument reads as: records. -/
import Derived.Test.YtbckbkcpfejllaaGreatDoorAo
import Derived.Test.YtbckbkcpfejllaaGreatDoorLw
namespace Go.Proofs.YtbckbkcpfejllaaGreatDoor
open Go.RowKit Go.Maps Go.WideMaps Go.ChangeShapes Go.WideShapes Go.Deep

theorem rd_recs {H : Type} {enc : TypeId × Value → H} {w : World} {base : Nat} {held : Bool} {fuel : Nat} {cs : List Value} {x : DataW H × List MemPlace} (h : DataW.trod enc Tryz.prog w base (fun _ => true) held fuel 53 cs = some x) : ∃ v l, cs = [v] ∧ RecsIn w v l := by
  obtain ⟨v, vs, ls, hcs, hl, hn, hb⟩ := rd_rows (R := fun v l => Bin w v l) Tryz.underlying53 (by kernel_rfl) (fun n v y hy => by
    obtain ⟨v', l, e, h⟩ := rd_bytes hy
    obtain rfl : v = v' := by simpa using e
    exact ⟨l, h⟩) h
  exact ⟨v, ls, hcs, vs, hl, hn, hb⟩
end Go.Proofs.YtbckbkcpfejllaaGreatDoor
