/- What a row of acts reads as. -/
import Derived.Test.YtbckbkcpfejllaaGreatDoorLz0
namespace Go.Proofs.YtbckbkcpfejllaaGreatDoor
open Go.RowKit Go.Maps Go.WideMaps Go.ChangeShapes Go.WideShapes Go.Deep

section
variable {H : Type} {enc : TypeId × Value → H} {w : World} {base : Nat} {held : Bool}
theorem rd_act {fuel : Nat} {cs : List Value} {x : DataW H × List MemPlace} (h : DataW.trod enc Tryz.prog w base (fun _ => true) held fuel 40 cs = some x) :
    ∃ (a : PAct) (bv tv : Value), cs = [.int .i64 a.what, .int .i64 a.n, .string a.name, .string a.to, bv, tv] ∧ Bin w bv a.b ∧ Lst w tv (a.tails.map intV) ∧ a.Ok := by
  obtain ⟨xs, n, _, _, hl, hlen, hf⟩ := DataW.trod_struct Tryz.underlying40 h
  rw [show Tryz.prog.cellsOf 40 = 6 by kernel_rfl] at hl
  obtain ⟨v0, v1, v2, v3, v4, v5, rfl⟩ := six_of hl
  obtain ⟨y0, y1, y2, y3, y4, y5, rfl⟩ := six_of hlen
  have h0 : DataW.trod enc Tryz.prog w base (fun _ => true) held n 3 (List.take (Tryz.prog.cellsOf 3) [v0, v1, v2, v3, v4, v5]) = some y0 := hf 0 _ rfl
  have h1 : DataW.trod enc Tryz.prog w base (fun _ => true) held n 3 (List.take (Tryz.prog.cellsOf 3) [v1, v2, v3, v4, v5]) = some y1 := hf 1 _ rfl
  have h2 : DataW.trod enc Tryz.prog w base (fun _ => true) held n 9 (List.take (Tryz.prog.cellsOf 9) [v2, v3, v4, v5]) = some y2 := hf 2 _ rfl
  have h3 : DataW.trod enc Tryz.prog w base (fun _ => true) held n 9 (List.take (Tryz.prog.cellsOf 9) [v3, v4, v5]) = some y3 := hf 3 _ rfl
  have h4 : DataW.trod enc Tryz.prog w base (fun _ => true) held n 23 (List.take (Tryz.prog.cellsOf 23) [v4, v5]) = some y4 := hf 4 _ rfl
  have h5 : DataW.trod enc Tryz.prog w base (fun _ => true) held n 24 (List.take (Tryz.prog.cellsOf 24) [v5]) = some y5 := hf 5 _ rfl
  rw [cells_1.1] at h0 h1
  rw [cells_1.2.1] at h2 h3
  rw [cells_1.2.2.1] at h4
  rw [cells_1.2.2.2] at h5
  obtain ⟨n0, e0, w0⟩ := rd_int Tryz.underlying3 h0
  obtain ⟨n1, e1, w1⟩ := rd_int Tryz.underlying3 h1
  obtain ⟨s2, e2⟩ := rd_str h2
  obtain ⟨s3, e3⟩ := rd_str h3
  obtain ⟨bv, l4, e4, b4⟩ := rd_bytes h4
  obtain ⟨tv, l5, e5, b5, r5⟩ := rd_ints h5
  simp at e0 e1 e2 e3 e4 e5
  subst e0 e1 e2 e3 e4 e5
  exact ⟨⟨n0, n1, s2, s3, l4, l5⟩, _, _, rfl, b4, b5, ⟨wf_i64 w0, wf_i64 w1, r5⟩⟩
theorem rd_acts {fuel : Nat} {cs : List Value} {x : DataW H × List MemPlace} (h : DataW.trod enc Tryz.prog w base (fun _ => true) held fuel 22 cs = some x) : ∃ v, ∃ l : List PAct, cs = [v] ∧ Acts w v l := by
  rcases open_slice Tryz.underlying22 h with ⟨rfl, _⟩ | ⟨a, len, cap, m, n, D, Pl, rfl, _, hl, hm, hmm, _, hx⟩
  · exact ⟨_, [], rfl, none, 0, rfl, Nat.le_refl _, fun j hj => by cases hj⟩
  · simp only [if_true] at hmm
    subst hmm
    rw [show Tryz.prog.cellsOf 40 = 6 by kernel_rfl] at hx
    have key : ∀ j, j < len → ∃ y : PAct × Value × Value × Nat × Nat, a = ⟨y.2.2.2.1, y.2.2.2.2, none⟩ ∧ ActAt w y.2.2.2.1 (y.2.2.2.2 + j * 6) y.2.1 y.2.2.1 y.1 := by
      intro j hj
      obtain ⟨cs', hc, ht⟩ := hx j (by omega)
      obtain ⟨p, bv, tv, rfl, hb, ht, hok⟩ := rd_act ht
      have hcell := (World.cells?_some hc).2.2
      have hp : ∃ b o, a = ⟨b, o, none⟩ := by
        obtain ⟨cs0, hc0, ht0⟩ := hx 0 (by omega)
        obtain ⟨p0, bv0, tv0, rfl, _⟩ := rd_act ht0
        have := (World.cells?_some hc0).2.2 0 (by omega)
        have e : a.add (0 * 6) = a := by unfold Addr.add; simp
        rw [e] at this
        exact plain_addr this
      obtain ⟨b, o, rfl⟩ := hp
      rw [plain_add] at hcell
      have g : ∀ i, i < 6 → w.cell? ⟨b, o + j * 6 + i, none⟩ = [Value.int IntKind.i64 p.what, Value.int IntKind.i64 p.n, Value.string p.name, Value.string p.to, bv, tv][i]? := fun i hi => by
        have := hcell i hi
        rwa [plain_add] at this
      exact ⟨(p, bv, tv, b, o), rfl, g 0 (by omega), g 1 (by omega), g 2 (by omega), g 3 (by omega), g 4 (by omega), g 5 (by omega), hb, ht, hok⟩
    have : Inhabited (PAct × Value × Value × Nat × Nat) := ⟨⟨0, 0, ByteArray.empty, ByteArray.empty, [], []⟩, .nilFunc, .nilFunc, 0, 0⟩
    obtain ⟨f, hf⟩ := choose_lt key
    refine ⟨_, (List.range len).map fun j => (f j).1, rfl, some a, m, by simp, by simp; omega, fun j hj => ?_⟩
    simp only [List.length_map, List.length_range] at hj
    obtain ⟨e, hat⟩ := hf j hj
    refine ⟨_, _, (f j).2.1, (f j).2.2.1, congrArg some e, ?_⟩
    simpa using hat
end
end Go.Proofs.YtbckbkcpfejllaaGreatDoor
