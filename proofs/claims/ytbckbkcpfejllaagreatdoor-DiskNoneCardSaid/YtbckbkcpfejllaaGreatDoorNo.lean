/- DiskNone: a disk that is not there is down, and does nothing: the walk. -/
import Derived.Test.YtbckbkcpfejllaaGreatDoorNn
namespace Go.Proofs.YtbckbkcpfejllaaGreatDoor
open Go.RowKit Go.Maps Go.WideMaps

set_option maxRecDepth 100000 in
set_option maxHeartbeats 1000000 in
theorem none_at (w : World) (x : PAct) {bv tv : Value} (hb : Bin w bv x.b) (hok : x.Ok) :
    Calls Tryz.prog 5 #[.agg #[.int .i64 x.what, .int .i64 x.n, .string x.name, .string x.to, bv, tv]] w fun e w' => e = .returned (.bool true) ∧ Below w.heap.size w w' := by
  obtain ⟨ba, bc, rfl⟩ : ∃ a c, bv = .slice a x.b.length c := by obtain ⟨a, c, e, _⟩ := hb; exact ⟨a, c, e⟩
  obtain ⟨w0, hw0⟩ : ∃ w0 : World, w.alloc (.cells #[.int .i64 x.what, .int .i64 x.n, .string x.name, .string x.to, .slice ba x.b.length bc, tv] 40) = w0 := ⟨_, rfl⟩
  have hb0 : Below w.heap.size w w0 := by rw [← hw0]; exact (Below.refl _ w).alloc (Nat.le_refl _) _
  have hx0 : w0.heap[w.heap.size]? = some (.cells #[.int .i64 x.what, .int .i64 x.n, .string x.name, .string x.to, .slice ba x.b.length bc, tv] 40 (0, 0)) := by rw [← hw0]; exact heap_alloc_new w _
  have hcs : ∀ w' : World, w'.heap[w.heap.size]? = w0.heap[w.heap.size]? → w'.cell? ⟨w.heap.size, 0, none⟩ = some (.int .i64 x.what) ∧ w'.cell? ⟨w.heap.size, 1, none⟩ = some (.int .i64 x.n) ∧ w'.cell? ⟨w.heap.size, 2, none⟩ = some (.string x.name) ∧ w'.cell? ⟨w.heap.size, 3, none⟩ = some (.string x.to) ∧ w'.cell? ⟨w.heap.size, 4, none⟩ = some (.slice ba x.b.length bc) ∧ w'.cell? ⟨w.heap.size, 5, none⟩ = some tv := fun w' h => by
    have h' := h.trans hx0
    exact ⟨by rw [cell_at h']; rfl, by rw [cell_at h']; rfl, by rw [cell_at h']; rfl, by rw [cell_at h']; rfl, by rw [cell_at h']; rfl, by rw [cell_at h']; rfl⟩
  have hsz0 := lt_of_heap hx0
  have Hcs := Lib.hid hcs
  have Hb0 := Lib.hid hb0
  clear hb0 hx0 hcs hb
  obtain ⟨z0, z1, z2, z3, z4, z5⟩ := Hcs.out w0 rfl
  by_cases q1 : 120 < x.name.size
  · have g1 : decide ((120 : Int) < (x.name.size : Int)) = true := by simp; omega
    go_enter Tryz.func5, Tryz.ntmps5
    go_wp2_with fail
    go_ret
    exact ⟨rfl, Hb0.out⟩
  have g1 : decide ((120 : Int) < (x.name.size : Int)) = false := by simp; omega
  by_cases q2 : 17000 < x.b.length
  · have g2 : decide ((17000 : Int) < (x.b.length : Int)) = true := by simp; omega
    go_enter Tryz.func5, Tryz.ntmps5
    go_wp2_with fail
    go_ret
    exact ⟨rfl, Hb0.out⟩
  have g2 : decide ((17000 : Int) < (x.b.length : Int)) = false := by simp; omega
  go_enter Tryz.func5, Tryz.ntmps5
  go_wp2_with fail
  refine (turns_nil w0 x.n).mono ?_
  rintro e w1 ⟨rfl, rfl⟩
  go_wp2_with fail
  refine (restart_nil w0 x.n _).mono ?_
  rintro e w1 ⟨rfl, hb1⟩
  have Hb1 := Lib.hid hb1
  clear z0 z1 z2 z3 z4 z5 hb1
  obtain ⟨z0, z1, z2, z3, z4, z5⟩ := Hcs.out w1 (Hb1.out.block _ hsz0)
  clear hw0
  go_wp2_with fail
  refine (read_nil w1 x.name).mono ?_
  rintro e w2 ⟨rfl, rfl⟩
  go_wp2_with fail
  refine (stat_nil w1 x.name).mono ?_
  rintro e w2 ⟨rfl, hb2⟩
  have Hb2 := Lib.hid (Hb1.out.trans (hb2.mono Hb1.out.size))
  clear z0 z1 z2 z3 z4 z5 hb2
  go_wp2_with fail
  have hb3 : Below w0.heap.size w0 (w2.alloc (.cells #[.int .i64 0, .int .i64 0] 36)) := Hb2.out.alloc Hb2.out.size _
  have Hb3 := Lib.hid hb3
  clear hb3
  go_loopw [8] (fun i wr => ∃ k : Nat, k ≤ 7 ∧ i = .int .i64 k ∧ Below w0.heap.size w0 wr) (fun i _ => 7 - (intOf i).toNat)
  case atStart => exact ⟨0, by omega, rfl, Hb3.out⟩
  case round =>
    clear Hb1 Hb2 Hb3
    obtain ⟨k, hk, rfl, hbw⟩ := hrel
    have Hbw := Lib.hid hbw
    clear hbw
    obtain ⟨z0, z1, z2, z3, z4, z5⟩ := Hcs.out wr (Hbw.out.block _ hsz0)
    by_cases hlt : k < 7
    · go_wp2_with fail
      refine (lawdeed_nil wr k (by omega) hok.n).mono ?_
      rintro e w4 ⟨rfl, hb4⟩
      have Hb4 := Lib.hid (Hbw.out.trans (hb4.mono Hbw.out.size))
      clear hb4
      go_wp2_with fail
      go_roundw
      case rel => exact ⟨k + 1, by omega, by go_num, Hb4.out⟩
      case measure => simp [intOf]; omega
    · obtain rfl : k = 7 := by omega
      go_wp2_with fail
      refine (names_nil wr).mono ?_
      rintro e w4 ⟨rfl, rfl⟩
      go_wp2_with fail
      refine (used_nil_at wr).mono ?_
      rintro e w4 ⟨rfl, rfl⟩
      go_wp2_with fail
      refine (deeds_nil wr).mono ?_
      rintro e w4 ⟨rfl, rfl⟩
      go_wp2_with fail
      refine (down_nil wr).mono ?_
      rintro e w4 ⟨rfl, rfl⟩
      go_wp2_with fail
      refine (awake4_at wr).mono ?_
      rintro e w4 ⟨rfl, hb4⟩
      go_wp2_with fail
      go_ret
      exact ⟨rfl, Hb0.out.trans ((Hbw.out.trans (hb4.mono Hbw.out.size)).mono Hb0.out.size)⟩
end Go.Proofs.YtbckbkcpfejllaaGreatDoor
