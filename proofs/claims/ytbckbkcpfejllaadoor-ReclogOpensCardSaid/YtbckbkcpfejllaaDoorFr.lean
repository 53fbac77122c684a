/- reclog: a log's head, a record's frame: the walks. -/
import Derived.Test.YtbckbkcpfejllaaDoorPr
import Derived.Test.YtbckbkcpfejllaaDoorCr
import Derived.Lib.SlBytesConst
namespace Go.Proofs.YtbckbkcpfejllaaDoor
open Go.RowKit Go.Maps Go.WideMaps

def headP (k : UInt8) : Bs := [66, 76, 87, 49, k, 0, 0, 0]
def frameP (b : Bs) : Bs := le32 b.length ++ le32 (crcP b) ++ b
theorem len_le32 (n : Nat) : (le32 n).length = 4 := rfl
theorem len_frameP (b : Bs) : (frameP b).length = 8 + b.length := by simp [frameP, len_le32]; omega
theorem bown_new {w : World} {g : Nat} {xs : Bs} (h : w.heap[g]? = some (.cells (xs.map byteV).toArray 5 (0, 0))) (hl : xs.length ≤ maxLen) : Bown w 5 (.slice (some ⟨g, 0, none⟩) xs.length xs.length) xs :=
  ⟨by simp, Or.inr ⟨g, xs.length, _, rfl, h, Nat.le_refl _, by simp, hl, by rw [Nat.mul_one]; exact List.take_of_length_le (by simp)⟩⟩
set_option maxRecDepth 100000 in
theorem head_at (w : World) (k : UInt8) : Calls Tryd.prog 35 #[.int .u8 k.toNat] w fun e w' => ∃ a c, e = .returned (.slice a 8 c) ∧ Bown w' 5 (.slice a 8 c) (headP k) ∧ Below w.heap.size w w' ∧ (∀ q, (Value.slice a 8 c).ownBlock = some q → w.heap.size ≤ q) := by
  obtain ⟨i0, hi, hz0, hz1, hz2⟩ := info_parts info_u8
  have HI := Lib.hid (And.intro hi (And.intro hz0 (And.intro hz1 hz2)))
  clear hi hz0 hz1 hz2
  have kc := fun (w : World) (C : Array Value) (n c : Nat) => Lib.run_convert_bytes_const (P := Tryd.prog) w 22 5 C n c Tryd.underlying22 Tryd.underlying5
  have hA : ((w.alloc (.cells #[.int .u8 66, .int .u8 76, .int .u8 87, .int .u8 49] 5 (4, 5))).alloc (.cells #[.int .u8 k.toNat, .int .u8 0, .int .u8 0, .int .u8 0] 5)).heap[w.heap.size]? = some (.cells #[.int .u8 66, .int .u8 76, .int .u8 87, .int .u8 49] 5 (4, 5)) := heap_alloc_of (heap_alloc_new w _) _
  have hB : ((w.alloc (.cells #[.int .u8 66, .int .u8 76, .int .u8 87, .int .u8 49] 5 (4, 5))).alloc (.cells #[.int .u8 k.toNat, .int .u8 0, .int .u8 0, .int .u8 0] 5)).heap[w.heap.size + 1]? = some (.cells #[.int .u8 k.toNat, .int .u8 0, .int .u8 0, .int .u8 0] 5 (0, 0)) := heap_alloc_at (by simp) _
  have a0 : ((w.alloc (.cells #[.int .u8 66, .int .u8 76, .int .u8 87, .int .u8 49] 5 (4, 5))).alloc (.cells #[.int .u8 k.toNat, .int .u8 0, .int .u8 0, .int .u8 0] 5)).cell? ⟨w.heap.size, 0, none⟩ = some (.int .u8 66) := by rw [cell_at hA]; rfl
  have a1 : ((w.alloc (.cells #[.int .u8 66, .int .u8 76, .int .u8 87, .int .u8 49] 5 (4, 5))).alloc (.cells #[.int .u8 k.toNat, .int .u8 0, .int .u8 0, .int .u8 0] 5)).cell? ⟨w.heap.size, 1, none⟩ = some (.int .u8 76) := by rw [cell_at hA]; rfl
  have a2 : ((w.alloc (.cells #[.int .u8 66, .int .u8 76, .int .u8 87, .int .u8 49] 5 (4, 5))).alloc (.cells #[.int .u8 k.toNat, .int .u8 0, .int .u8 0, .int .u8 0] 5)).cell? ⟨w.heap.size, 2, none⟩ = some (.int .u8 87) := by rw [cell_at hA]; rfl
  have a3 : ((w.alloc (.cells #[.int .u8 66, .int .u8 76, .int .u8 87, .int .u8 49] 5 (4, 5))).alloc (.cells #[.int .u8 k.toNat, .int .u8 0, .int .u8 0, .int .u8 0] 5)).cell? ⟨w.heap.size, 3, none⟩ = some (.int .u8 49) := by rw [cell_at hA]; rfl
  have b0 : ((w.alloc (.cells #[.int .u8 66, .int .u8 76, .int .u8 87, .int .u8 49] 5 (4, 5))).alloc (.cells #[.int .u8 k.toNat, .int .u8 0, .int .u8 0, .int .u8 0] 5)).cell? ⟨w.heap.size + 1, 0, none⟩ = some (.int .u8 k.toNat) := by rw [cell_at hB]; rfl
  have b1 : ((w.alloc (.cells #[.int .u8 66, .int .u8 76, .int .u8 87, .int .u8 49] 5 (4, 5))).alloc (.cells #[.int .u8 k.toNat, .int .u8 0, .int .u8 0, .int .u8 0] 5)).cell? ⟨w.heap.size + 1, 1, none⟩ = some (.int .u8 0) := by rw [cell_at hB]; rfl
  have b2 : ((w.alloc (.cells #[.int .u8 66, .int .u8 76, .int .u8 87, .int .u8 49] 5 (4, 5))).alloc (.cells #[.int .u8 k.toNat, .int .u8 0, .int .u8 0, .int .u8 0] 5)).cell? ⟨w.heap.size + 1, 2, none⟩ = some (.int .u8 0) := by rw [cell_at hB]; rfl
  have b3 : ((w.alloc (.cells #[.int .u8 66, .int .u8 76, .int .u8 87, .int .u8 49] 5 (4, 5))).alloc (.cells #[.int .u8 k.toNat, .int .u8 0, .int .u8 0, .int .u8 0] 5)).cell? ⟨w.heap.size + 1, 3, none⟩ = some (.int .u8 0) := by rw [cell_at hB]; rfl
  clear hA hB
  go_enter Tryd.func35, Tryd.ntmps35
  go_wp2_with fail
  go_ret
  have hge := grownCap_ge w 8 4 5
  have hgm := grownCap_le_maxLen w 8 4 5 (by unfold maxLen; omega)
  unfold grownCap at hge hgm
  generalize (Question.appendCap 8 4 5).cut (w.tape w.drawn (Question.appendCap 8 4 5)) = G at hge hgm ⊢
  refine ⟨_, G, rfl, ⟨rfl, Or.inr ⟨w.heap.size + 1 + 1, G, _, rfl, heap_alloc_at (by simp) _, hge, ?_, hgm, ?_⟩⟩, (((((Below.refl _ w).alloc (Nat.le_refl _) _).alloc (by simp) _).alloc (by simp; omega) _).drew), fun q hq => ?_⟩
  · simp only [Array.size_append, size_zeroCells]
    simp
    omega
  · simp [headP, byteV]
  · have : w.heap.size + 1 + 1 = q := Option.some.inj hq
    omega
set_option maxRecDepth 100000 in
theorem frame_long {w : World} {v : Value} {b : Bs} (hb : Bin w v b) (hl : 4096 < b.length) : Calls Tryd.prog 42 #[v] w fun e w' => e = .returned (.tuple #[.slice none 0 0, .int .i64 3]) ∧ w = w' := by
  obtain ⟨va, vc, rfl⟩ : ∃ a c, v = .slice a b.length c := by obtain ⟨a, c, e, _⟩ := hb; exact ⟨a, c, e⟩
  have g : decide ((4096 : Int) < (b.length : Int)) = true := by simp; omega
  clear hb
  go_enter Tryd.func42, Tryd.ntmps42
  go_wp2_with fail
  go_ret2
  exact ⟨rfl, rfl⟩
set_option maxRecDepth 100000 in
theorem frame_good {w : World} {v : Value} {b : Bs} (hb : Bin w v b) (hl : b.length ≤ 4096) :
    Calls Tryd.prog 42 #[v] w fun e w' => ∃ a c, e = .returned (.tuple #[.slice a (8 + b.length) c, .int .i64 0]) ∧ Bown w' 5 (.slice a (8 + b.length) c) (frameP b) ∧ Below w.heap.size w w' ∧ (∀ q, (Value.slice a (8 + b.length) c).ownBlock = some q → w.heap.size ≤ q) := by
  obtain ⟨va, vc, rfl⟩ : ∃ a c, v = .slice a b.length c := by obtain ⟨a, c, e, _⟩ := hb; exact ⟨a, c, e⟩
  have g : decide ((4096 : Int) < (b.length : Int)) = false := by simp; omega
  obtain ⟨i0, hi, hz0, hz1, hz2⟩ := info_parts info_u8
  have HI := Lib.hid (And.intro hi (And.intro hz0 (And.intro hz1 hz2)))
  clear hi hz0 hz1 hz2
  have hu := u32_at (Bin.nil w) (by simp) b.length (by omega)
  simp only [List.length_nil, Nat.zero_add, List.nil_append] at hu
  have Hu := Lib.hid hu
  have Hb := Lib.hid hb
  clear hu hb
  go_enter Tryd.func42, Tryd.ntmps42
  go_wp2_with fail
  refine Hu.out.mono ?_
  rintro e w1 ⟨a1, c1, rfl, hown1, hb1, hf1⟩
  have hs := sum_at w1 (Hb.out.keep fun q _ hq => hb1.block q hq) (by omega)
  have Hs := Lib.hid hs
  have H1 := Lib.hid (And.intro hown1 (And.intro hb1 hf1))
  clear hs hown1 hb1 hf1
  go_wp2_with fail
  refine Hs.out.mono ?_
  rintro e w2 ⟨rfl, rfl⟩
  have hu := u32_at (w := w1) (b := le32 b.length) (Bown.bin (xs := le32 b.length) H1.out.1) (by simp [len_le32]) (crcP b) (crcP_lt b)
  rw [len_le32] at hu
  have Hu2 := Lib.hid hu
  clear hu
  go_wp2_with fail
  refine Hu2.out.mono ?_
  rintro e w3 ⟨a3, c3, rfl, hown3, hb3, hf3⟩
  have hb3w : Below w.heap.size w w3 := H1.out.2.1.trans (hb3.mono H1.out.2.1.size)
  have hf3w : ∀ q, (Value.slice a3 (4 + 4) c3).ownBlock = some q → w.heap.size ≤ q := fun q hq => Nat.le_trans H1.out.2.1.size (hf3 q hq)
  have hrow3 : Row w3 5 1 (.slice a3 8 c3) 8 ((le32 b.length ++ le32 (crcP b)).map byteV) := hown3
  have hb3b : Bin w3 (.slice va b.length vc) b := Hb.out.keep fun q _ hq => hb3w.block q hq
  have Hrow3 := Lib.hid hrow3
  have H3 := Lib.hid (And.intro hb3w hf3w)
  have Hb3 := Lib.hid hb3b
  clear hown3 hb3 hf3 hb3w hf3w hrow3 hb3b
  go_wp2_with (first
    | (at_builtin; refine wpList_append_row _ rfl _ _ 22 22 rfl rfl _ rfl Hrow3.out (by decide) i0 (.int .u8 0) 1 Tryd.underlying22 HI.out.1 HI.out.2.1 HI.out.2.2.1 HI.out.2.2.2 rfl b.length _ (Hb3.out.src Tryd.underlying22) (by unfold maxLen; omega) (by omega) ?_; intro b' c' w4 hr4 hk4 hw4 hn4 hz4; replace hk4 : Keeps (fun q => (Value.slice a3 8 c3).ownBlock = some q) w3 w4 := hk4; replace hw4 : ∀ q, (Value.slice b' (8 + b.length) c').ownBlock = some q → (Value.slice a3 8 c3).ownBlock = some q ∨ w3.heap.size ≤ q := hw4; clear hn4; have Hr4 := Lib.hid hr4; have Hk4 := Lib.hid hk4; have Hw4 := Lib.hid hw4; clear hr4 hk4 hw4 hz4)
    | fail)
  go_ret2
  refine ⟨b', c', rfl, ?_, H3.out.1.trans (Hk4.out.below H3.out.1.size fun q hq h => by have := H3.out.2 q h; omega), fun q hq => (Hw4.out q hq).elim (H3.out.2 q) (fun h => Nat.le_trans H3.out.1.size h)⟩
  unfold Bown
  rw [len_frameP]
  have e : (frameP b).map byteV = (le32 b.length ++ le32 (crcP b)).map byteV ++ b.map byteV := by unfold frameP; rw [List.map_append]
  rw [e]
  exact Hr4.out
end Go.Proofs.YtbckbkcpfejllaaDoor
