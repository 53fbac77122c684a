/- What an argument reads as, in the words of the walks: rows of bytes, of whole numbers, of rows of bytes. -/
import Derived.Test.YtbckbkcpfejllaaDoorLa0
import Derived.Deep.Matrix
import Derived.Deep.Strs
import Derived.Carry
import Derived.WalkKit
import Derived.OpenShut
namespace Go.Proofs.YtbckbkcpfejllaaDoor
open Go.RowKit Go.Maps Go.WideMaps Go.ChangeShapes Go.WideShapes Go.Deep

theorem two_of {α : Type} {l : List α} (h : l.length = 2) : ∃ a b, l = [a, b] := by
  match l, h with
  | [a, b], _ => exact ⟨a, b, rfl⟩
theorem six_of {α : Type} {l : List α} (h : l.length = 6) : ∃ a b c d e f, l = [a, b, c, d, e, f] := by
  match l, h with
  | [a, b, c, d, e, f], _ => exact ⟨a, b, c, d, e, f, rfl⟩
theorem four_of {α : Type} {l : List α} (h : l.length = 4) : ∃ a b c d, l = [a, b, c, d] := by
  match l, h with
  | [a, b, c, d], _ => exact ⟨a, b, c, d, rfl⟩
theorem five_of {α : Type} {l : List α} (h : l.length = 5) : ∃ a b c d e, l = [a, b, c, d, e] := by
  match l, h with
  | [a, b, c, d, e], _ => exact ⟨a, b, c, d, e, rfl⟩
section
variable {H : Type} {enc : TypeId × Value → H} {w : World} {base : Nat} {held : Bool}
theorem plain_addr {a : Addr} {v : Value} (h : w.cell? (a.add 0) = some v) : ∃ b o, a = ⟨b, o, none⟩ := by
  obtain ⟨b, o, spot⟩ := a
  have hspot : spot = none := by simpa [Addr.add] using World.cell?_spot h
  subst hspot
  exact ⟨b, o, rfl⟩
theorem plain_add (b o j : Nat) : (⟨b, o, none⟩ : Addr).add j = ⟨b, o + j, none⟩ := by unfold Addr.add; split <;> simp_all
theorem wf_u8 {n : Int} (h : (Lit.int .u8 n).wf = true) : 0 ≤ n ∧ n ≤ 255 := by simpa [Lit.wf, IntKind.min, IntKind.max, IntKind.signed, IntKind.bits] using h
theorem wf_i64 {n : Int} (h : (Lit.int .i64 n).wf = true) : -9223372036854775808 ≤ n ∧ n ≤ 9223372036854775807 := by simpa [Lit.wf, IntKind.min, IntKind.max, IntKind.signed, IntKind.bits] using h
theorem rd_bytes {fuel : Nat} {cs : List Value} {x : DataW H × List MemPlace} (h : DataW.trod enc Tryd.prog w base (fun _ => true) held fuel 22 cs = some x) : ∃ v l, cs = [v] ∧ Bin w v l := by
  rcases open_ints Tryd.underlying22 Tryd.underlying5 (by kernel_rfl) h with ⟨rfl, _⟩ | ⟨a, len, cap, zs, rfl, _, hl, hm, hz, _, hcell, hwz⟩
  · exact ⟨_, [], rfl, Bin.nil w⟩
  · simp only [if_true] at hz
    have hlen : ((zs.take len).map fun n => UInt8.ofNat n.toNat).length = len := by simp; omega
    refine ⟨_, (zs.take len).map fun n => UInt8.ofNat n.toNat, rfl, some a, cap, by rw [hlen], by omega, (fun h => by cases h), fun j hj => ?_⟩
    rw [hlen] at hj
    obtain ⟨b, o, rfl⟩ := plain_addr (hcell 0 (by omega))
    refine ⟨b, o, rfl, ?_⟩
    have hc := hcell j (by omega)
    rw [plain_add] at hc
    rw [hc]
    have e : zs.getD j 0 = zs[j]'(by omega) := by simp [List.getD, List.getElem?_eq_getElem (show j < zs.length by omega)]
    have hr := wf_u8 (hwz _ (List.getElem_mem (show j < zs.length by omega)))
    rw [e]
    simp only [List.getElem_map, List.getElem_take]
    unfold byteV
    congr 2
    simp only [UInt8.toNat_ofNat']
    omega
theorem rd_ints {fuel : Nat} {cs : List Value} {x : DataW H × List MemPlace} (h : DataW.trod enc Tryd.prog w base (fun _ => true) held fuel 55 cs = some x) :
    ∃ v, ∃ zs : List Int, cs = [v] ∧ Lst w v (zs.map intV) ∧ ∀ t ∈ zs, -9223372036854775808 ≤ t ∧ t ≤ 9223372036854775807 := by
  rcases open_ints Tryd.underlying55 Tryd.underlying3 (by kernel_rfl) h with ⟨rfl, _⟩ | ⟨a, len, cap, zs, rfl, _, hl, hm, hz, _, hcell, hwz⟩
  · exact ⟨_, [], rfl, Lst.nil w, fun t ht => by cases ht⟩
  · simp only [if_true] at hz
    have hlen : ((zs.take len).map intV).length = len := by simp; omega
    refine ⟨_, zs.take len, rfl, ⟨some a, cap, by rw [hlen], by omega, (fun h => by cases h), fun j hj => ?_⟩, fun t ht => wf_i64 (hwz t (List.mem_of_mem_take ht))⟩
    rw [hlen] at hj
    obtain ⟨b, o, rfl⟩ := plain_addr (hcell 0 (by omega))
    refine ⟨b, o, rfl, ?_⟩
    have hc := hcell j (by omega)
    rw [plain_add] at hc
    rw [hc]
    have e : zs.getD j 0 = zs[j]'(by omega) := by simp [List.getD, List.getElem?_eq_getElem (show j < zs.length by omega)]
    rw [e]
    simp only [List.getElem_map, List.getElem_take]
    rfl
theorem rd_int {fuel : Nat} {k : IntKind} {t : TypeId} {cs : List Value} {x : DataW H × List MemPlace} (ht : Tryd.prog.underlying t = some (.int k)) (h : DataW.trod enc Tryd.prog w base (fun _ => true) held fuel t cs = some x) :
    ∃ n, cs = [.int k n] ∧ (Lit.int k n).wf = true := by
  cases fuel with
  | zero => cases h
  | succ fuel =>
    unfold DataW.trod at h
    rw [ht] at h
    split at h <;> simp_all
theorem rd_str {fuel : Nat} {cs : List Value} {x : DataW H × List MemPlace} (h : DataW.trod enc Tryd.prog w base (fun _ => true) held fuel 9 cs = some x) : ∃ s : ByteArray, cs = [.string s] := by
  obtain ⟨s, h, _⟩ := DataW.trod_string Tryd.underlying9 h
  exact ⟨s, h⟩
/-- A slice's elements, one by one. -/
theorem rd_rows {t e : TypeId} {fuel : Nat} {cs : List Value} {x : DataW H × List MemPlace} (ht : Tryd.prog.underlying t = some (.slice e)) (hc : Tryd.prog.cellsOf e = 1)
    {β : Type} {R : Value → β → Prop} (hR : ∀ n v y, DataW.trod enc Tryd.prog w base (fun _ => true) held n e [v] = some y → ∃ l, R v l)
    (h : DataW.trod enc Tryd.prog w base (fun _ => true) held fuel t cs = some x) :
    ∃ v vs, ∃ ls : List β, cs = [v] ∧ Lst w v vs ∧ vs.length = ls.length ∧ ∀ j (h1 : j < vs.length) (h2 : j < ls.length), R vs[j] ls[j] := by
  rcases open_slice1 ht hc h with ⟨rfl, _⟩ | ⟨a, len, cap, m, n, V, D, Pl, rfl, _, hl, hm, hmm, _, hx⟩
  · exact ⟨_, [], [], rfl, Lst.nil w, rfl, fun j h1 => by cases h1⟩
  · simp only [if_true] at hmm
    subst hmm
    have hch : ∃ L : Nat → Option β, ∀ j, j < len → ∃ l, L j = some l ∧ R (V j) l := by
      refine ⟨fun j => if hj : j < len then some (Classical.choose (hR _ _ _ (hx j (by omega)).2)) else none, fun j hj => ⟨_, dif_pos hj, Classical.choose_spec (hR _ _ _ (hx j (by omega)).2)⟩⟩
    obtain ⟨L, hL⟩ := hch
    have hls : ∃ ls : List β, ls.length = len ∧ ∀ j (h : j < ls.length), R (V j) ls[j] := by
      refine ⟨(List.range len).attach.map fun j => (L j.1).get (by obtain ⟨l, e, _⟩ := hL j.1 (List.mem_range.1 j.2); rw [e]; rfl), by simp, fun j hj => ?_⟩
      simp only [List.length_map, List.length_attach, List.length_range] at hj
      obtain ⟨l, e, hr⟩ := hL j hj
      simpa [e] using hr
    obtain ⟨ls, hln, hlr⟩ := hls
    refine ⟨_, (List.range len).map V, ls, rfl, ⟨some a, m, by simp, by simpa using hl, (fun h => by cases h), fun j hj => ?_⟩, by simp [hln], fun j h1 h2 => by simpa using hlr j h2⟩
    simp only [List.length_map, List.length_range] at hj
    obtain ⟨b, o, rfl⟩ := plain_addr (hx 0 (by omega)).1
    refine ⟨b, o, rfl, ?_⟩
    have hc := (hx j (by omega)).1
    rw [plain_add] at hc
    rw [hc]
    simp
theorem cells_1 : Tryd.prog.cellsOf 3 = 1 ∧ Tryd.prog.cellsOf 9 = 1 ∧ Tryd.prog.cellsOf 22 = 1 ∧ Tryd.prog.cellsOf 55 = 1 := ⟨by kernel_rfl, by kernel_rfl, by kernel_rfl, by kernel_rfl⟩
theorem rd_keep {fuel : Nat} {cs : List Value} {x : DataW H × List MemPlace} (h : DataW.trod enc Tryd.prog w base (fun _ => true) held fuel 57 cs = some x) :
    ∃ dir tv, ∃ tails : List Int, cs = [.int .i64 dir, tv] ∧ (-9223372036854775808 ≤ dir ∧ dir ≤ 9223372036854775807) ∧ Lst w tv (tails.map intV) ∧ ∀ t ∈ tails, -9223372036854775808 ≤ t ∧ t ≤ 9223372036854775807 := by
  obtain ⟨y0, y1, n, _, hl, h0, h1⟩ := trod_struct2 Tryd.underlying57 h
  rw [show Tryd.prog.cellsOf 57 = 2 by kernel_rfl] at hl
  obtain ⟨c0, c1, rfl⟩ : ∃ c0 c1, cs = [c0, c1] := two_of hl
  dsimp only at h0 h1
  rw [cells_1.1] at h0
  rw [cells_1.2.2.2] at h1
  obtain ⟨d, e0, hw⟩ := rd_int Tryd.underlying3 h0
  obtain ⟨tv, tails, e1, hl1, hb1⟩ := rd_ints h1
  simp at e0 e1
  subst e0 e1
  exact ⟨d, c1, tails, rfl, wf_i64 hw, hl1, hb1⟩
end
end Go.Proofs.YtbckbkcpfejllaaDoor
