/- The walks of the small functions of package disk: New, tick, Arm, Down, Deeds: what each answers, and what it turns. -/
import Derived.Test.YtbckbkcpfejllaaDoorProg
import Derived.WalkKit
import Derived.WalkLawsBesides
import Derived.WalkSpells
import Derived.Carry
import Derived.Lib.Hide
namespace Go.Proofs.YtbckbkcpfejllaaDoor
open Go.RowKit

theorem tick_at (d : Nat) (c : Int) (w : World) (h0 : 0 ≤ c) (h1 : c < 4611686018427387904)
    (hc : w.cell? ⟨d, 1, none⟩ = some (.int .i64 c)) (hf : w.frozen? ⟨d, 1, none⟩ = false) :
    Calls Tryd.prog 51 #[.pointer (some ⟨d, 0, none⟩)] w fun e w' => e = .returned (.int .i64 c) ∧ w.setCell ⟨d, 1, none⟩ (.int .i64 (c + 1)) = w' := by
  go_enter Tryd.func51, Tryd.ntmps51
  go_wp2
  go_ret
  exact ⟨by congr 2, rfl⟩

theorem arm_at (d : Nat) (n c : Int) (w : World) 
    (hc : w.cell? ⟨d, 3, none⟩ = some (.int .i64 c)) (hf : w.frozen? ⟨d, 3, none⟩ = false) :
    Calls Tryd.prog 20 #[.pointer (some ⟨d, 0, none⟩), .int .i64 n] w fun e w' => e = .returned (.tuple #[]) ∧ w.setCell ⟨d, 3, none⟩ (.int .i64 (max n (-1))) = w' := by
  go_enter Tryd.func20, Tryd.ntmps20
  go_wp2
  all_goals
    go_end0
    refine ⟨rfl, ?_⟩
    congr 2
    omega

theorem down_at (d : Nat) (b : Bool) (w : World) (hc : w.cell? ⟨d, 4, none⟩ = some (.bool b)) :
    Calls Tryd.prog 28 #[.pointer (some ⟨d, 0, none⟩)] w fun e w' => e = .returned (.bool b) ∧ w = w' := by
  go_enter Tryd.func28, Tryd.ntmps28
  go_wp2
  all_goals (go_ret; exact ⟨rfl, rfl⟩)

theorem down_nil (w : World) :
    Calls Tryd.prog 28 #[.pointer none] w fun e w' => e = .returned (.bool true) ∧ w = w' := by
  go_enter Tryd.func28, Tryd.ntmps28
  go_wp2
  all_goals (go_ret; exact ⟨rfl, rfl⟩)

theorem deeds_at (d : Nat) (b : Int) (w : World) (hc : w.cell? ⟨d, 2, none⟩ = some (.int .i64 b)) :
    Calls Tryd.prog 29 #[.pointer (some ⟨d, 0, none⟩)] w fun e w' => e = .returned (.int .i64 b) ∧ w = w' := by
  go_enter Tryd.func29, Tryd.ntmps29
  go_wp2
  all_goals (go_ret; exact ⟨rfl, rfl⟩)

theorem deeds_nil (w : World) :
    Calls Tryd.prog 29 #[.pointer none] w fun e w' => e = .returned (.int .i64 0) ∧ w = w' := by
  go_enter Tryd.func29, Tryd.ntmps29
  go_wp2
  all_goals (go_ret; exact ⟨rfl, rfl⟩)

theorem new_ok (q : Int) (w : World) (h0 : 0 ≤ q) (h1 : q ≤ 16777216) :
    Calls Tryd.prog 8 #[.int .i64 q] w fun e w' => e = .returned (.tuple #[.pointer (some ⟨w.heap.size + 2, 0, none⟩), .int .i64 0]) ∧
      ((w.alloc (.map #[] 0)).alloc (.map #[] 0)).alloc (.cells #[.int .i64 q, .int .i64 1, .int .i64 0, .int .i64 (-1), .bool false, .map (some w.heap.size), .map (some (w.heap.size + 1)), .slice none 0 0] 68) = w' := by
  have hmm := @run_makeMap Tryd.prog
  go_enter Tryd.func8, Tryd.ntmps8
  go_wp2
  go_ret2
  exact ⟨rfl, rfl⟩

theorem turns_nil (w : World) (n : Int) :
    Calls Tryd.prog 20 #[.pointer none, .int .i64 n] w fun e w' => e = .returned (.tuple #[]) ∧ w = w' := by
  go_enter Tryd.func20, Tryd.ntmps20
  go_wp2
  all_goals (go_end0; exact ⟨rfl, rfl⟩)
end Go.Proofs.YtbckbkcpfejllaaDoor
