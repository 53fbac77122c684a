/- The walks of the small functions of package disk: New, tick, Arm, Down, Deeds: what each answers, and what it turns. -/
import Derived.Test.YtbckbkcpfejllaaGreatDoorProg
import Derived.WalkKit
import Derived.WalkLawsBesides
import Derived.WalkSpells
import Derived.Carry
import Derived.Lib.Hide
namespace Go.Proofs.YtbckbkcpfejllaaGreatDoor
open Go.RowKit

theorem tick_at (d : Nat) (c : Int) (w : World) (h0 : 0 ≤ c) (h1 : c < 4611686018427387904)
    (hc : w.cell? ⟨d, 1, none⟩ = some (.int .i64 c)) (hf : w.frozen? ⟨d, 1, none⟩ = false) :
    Calls Tryz.prog 143 #[.pointer (some ⟨d, 0, none⟩)] w fun e w' => e = .returned (.int .i64 c) ∧ w.setCell ⟨d, 1, none⟩ (.int .i64 (c + 1)) = w' := by
  go_enter Tryz.func143, Tryz.ntmps143
  go_wp2
  go_ret
  exact ⟨by congr 2, rfl⟩

theorem arm_at (d : Nat) (n c : Int) (w : World) 
    (hc : w.cell? ⟨d, 3, none⟩ = some (.int .i64 c)) (hf : w.frozen? ⟨d, 3, none⟩ = false) :
    Calls Tryz.prog 22 #[.pointer (some ⟨d, 0, none⟩), .int .i64 n] w fun e w' => e = .returned (.tuple #[]) ∧ w.setCell ⟨d, 3, none⟩ (.int .i64 (max n (-1))) = w' := by
  go_enter Tryz.func22, Tryz.ntmps22
  go_wp2
  all_goals
    go_end0
    refine ⟨rfl, ?_⟩
    congr 2
    omega

theorem down_at (d : Nat) (b : Bool) (w : World) (hc : w.cell? ⟨d, 4, none⟩ = some (.bool b)) :
    Calls Tryz.prog 30 #[.pointer (some ⟨d, 0, none⟩)] w fun e w' => e = .returned (.bool b) ∧ w = w' := by
  go_enter Tryz.func30, Tryz.ntmps30
  go_wp2
  all_goals (go_ret; exact ⟨rfl, rfl⟩)

theorem down_nil (w : World) :
    Calls Tryz.prog 30 #[.pointer none] w fun e w' => e = .returned (.bool true) ∧ w = w' := by
  go_enter Tryz.func30, Tryz.ntmps30
  go_wp2
  all_goals (go_ret; exact ⟨rfl, rfl⟩)

theorem deeds_at (d : Nat) (b : Int) (w : World) (hc : w.cell? ⟨d, 2, none⟩ = some (.int .i64 b)) :
    Calls Tryz.prog 29 #[.pointer (some ⟨d, 0, none⟩)] w fun e w' => e = .returned (.int .i64 b) ∧ w = w' := by
  go_enter Tryz.func29, Tryz.ntmps29
  go_wp2
  all_goals (go_ret; exact ⟨rfl, rfl⟩)

theorem deeds_nil (w : World) :
    Calls Tryz.prog 29 #[.pointer none] w fun e w' => e = .returned (.int .i64 0) ∧ w = w' := by
  go_enter Tryz.func29, Tryz.ntmps29
  go_wp2
  all_goals (go_ret; exact ⟨rfl, rfl⟩)

theorem new_ok (q : Int) (w : World) (h0 : 0 ≤ q) (h1 : q ≤ 16777216) :
    Calls Tryz.prog 32 #[.int .i64 q] w fun e w' => e = .returned (.tuple #[.pointer (some ⟨w.heap.size + 2, 0, none⟩), .int .i64 0]) ∧
      ((w.alloc (.map #[] 0)).alloc (.map #[] 0)).alloc (.cells #[.int .i64 q, .int .i64 1, .int .i64 0, .int .i64 (-1), .bool false, .map (some w.heap.size), .map (some (w.heap.size + 1)), .slice none 0 0] 148) = w' := by
  have hmm := @run_makeMap Tryz.prog
  go_enter Tryz.func32, Tryz.ntmps32
  go_wp2
  go_ret2
  exact ⟨rfl, rfl⟩

theorem turns_nil (w : World) (n : Int) :
    Calls Tryz.prog 22 #[.pointer none, .int .i64 n] w fun e w' => e = .returned (.tuple #[]) ∧ w = w' := by
  go_enter Tryz.func22, Tryz.ntmps22
  go_wp2
  all_goals (go_end0; exact ⟨rfl, rfl⟩)
end Go.Proofs.YtbckbkcpfejllaaGreatDoor
