/- What an argument reads as: a file to be opened. -/
import Derived.Test.YtbckbkcpfejllaaDoorAo
namespace Go.Proofs.YtbckbkcpfejllaaDoor
open Go.RowKit Go.Maps Go.WideMaps Go.ChangeShapes Go.WideShapes Go.Deep

section
variable {H : Type} {enc : TypeId × Value → H} {w : World} {base : Nat} {held : Bool}
theorem rd_bool {fuel : Nat} {t : TypeId} {cs : List Value} {x : DataW H × List MemPlace} (ht : Tryd.prog.underlying t = some .bool) (h : DataW.trod enc Tryd.prog w base (fun _ => true) held fuel t cs = some x) : ∃ b, cs = [.bool b] := by
  cases fuel with
  | zero => cases h
  | succ fuel =>
    unfold DataW.trod at h
    rw [ht] at h
    split at h <;> simp_all
theorem rd_opened {fuel : Nat} {cs : List Value} {x : DataW H × List MemPlace} (h : DataW.trod enc Tryd.prog w base (fun _ => true) held fuel 24 cs = some x) :
    ∃ (bv : Value) (b : Bs) (k : Nat) (there spare : Bool), cs = [bv, .int .u8 k, .bool there, .bool spare] ∧ Bin w bv b ∧ k < 256 := by
  obtain ⟨xs, n, _, _, hl, hlen, hf⟩ := DataW.trod_struct Tryd.underlying24 h
  rw [show Tryd.prog.cellsOf 24 = 4 by kernel_rfl] at hl
  obtain ⟨v0, v1, v2, v3, rfl⟩ := four_of hl
  obtain ⟨y0, y1, y2, y3, rfl⟩ := four_of hlen
  have h0 : DataW.trod enc Tryd.prog w base (fun _ => true) held n 22 (List.take (Tryd.prog.cellsOf 22) [v0, v1, v2, v3]) = some y0 := hf 0 _ rfl
  have h1 : DataW.trod enc Tryd.prog w base (fun _ => true) held n 5 (List.take (Tryd.prog.cellsOf 5) [v1, v2, v3]) = some y1 := hf 1 _ rfl
  have h2 : DataW.trod enc Tryd.prog w base (fun _ => true) held n 4 (List.take (Tryd.prog.cellsOf 4) [v2, v3]) = some y2 := hf 2 _ rfl
  have h3 : DataW.trod enc Tryd.prog w base (fun _ => true) held n 4 (List.take (Tryd.prog.cellsOf 4) [v3]) = some y3 := hf 3 _ rfl
  rw [cells_1.2.2.1] at h0
  rw [show Tryd.prog.cellsOf 5 = 1 by kernel_rfl] at h1
  rw [show Tryd.prog.cellsOf 4 = 1 by kernel_rfl] at h2 h3
  obtain ⟨bv, b, e0, hb⟩ := rd_bytes h0
  obtain ⟨n1, e1, w1⟩ := rd_int Tryd.underlying5 h1
  obtain ⟨b2, e2⟩ := rd_bool Tryd.underlying4 h2
  obtain ⟨b3, e3⟩ := rd_bool Tryd.underlying4 h3
  simp at e0 e1 e2 e3
  subst e0 e1 e2 e3
  have hw := wf_u8 w1
  exact ⟨v0, b, n1.toNat, b2, b3, by rw [Int.toNat_of_nonneg hw.1], hb, by omega⟩
end
end Go.Proofs.YtbckbkcpfejllaaDoor
