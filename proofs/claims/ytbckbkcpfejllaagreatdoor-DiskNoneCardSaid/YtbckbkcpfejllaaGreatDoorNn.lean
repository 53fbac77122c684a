/- A disk that is not there: it is down and does nothing. -/
import Derived.Test.YtbckbkcpfejllaaGreatDoorLz0
namespace Go.Proofs.YtbckbkcpfejllaaGreatDoor
open Go.RowKit Go.Maps Go.WideMaps

theorem bal {w w' : World} (h : Below w.heap.size w w') (o : Obj) : Below w.heap.size w (w'.alloc o) := h.alloc h.size o
theorem bdr {w w' : World} (h : Below w.heap.size w w') : Below w.heap.size w w'.drew := h.drew
theorem names_nil (w : World) : Calls Tryz.prog 27 #[.pointer none] w fun e w' => e = .returned (.slice none 0 0) ∧ w = w' := by
  go_enter Tryz.func27, Tryz.ntmps27
  go_wp2
  all_goals (go_ret; exact ⟨rfl, rfl⟩)
theorem used_nil_at (w : World) : Calls Tryz.prog 28 #[.pointer none] w fun e w' => e = .returned (.int .i64 0) ∧ w = w' := by
  go_enter Tryz.func28, Tryz.ntmps28
  go_wp2
  all_goals (go_ret; exact ⟨rfl, rfl⟩)
theorem read_nil (w : World) (s : ByteArray) : Calls Tryz.prog 25 #[.pointer none, .string s] w fun e w' => e = .returned (.tuple #[.slice none 0 0, .int .i64 8]) ∧ w = w' := by
  go_enter Tryz.func25, Tryz.ntmps25
  go_wp2_with fail
  refine (look_nil w s).mono ?_
  rintro e w1 ⟨rfl, rfl⟩
  go_wp2_with fail
  go_ret2
  exact ⟨rfl, rfl⟩
theorem stat_nil (w : World) (s : ByteArray) : Calls Tryz.prog 21 #[.pointer none, .string s] w fun e w' => e = .returned (.tuple #[.agg #[.int .i64 0, .int .i64 0], .int .i64 8]) ∧ Below w.heap.size w w' := by
  go_enter Tryz.func21, Tryz.ntmps21
  go_wp2_with fail
  refine (look_nil _ s).mono ?_
  rintro e w1 ⟨rfl, rfl⟩
  go_wp2_with fail
  refine bodyPost_ret (v := .tuple #[.agg #[.int .i64 0, .int .i64 0], .int .i64 8]) (by simp [results, Tryz.results21, go_sem]) rfl ⟨rfl, bal (Below.refl _ w) _⟩
theorem restart_nil (w : World) (dir : Int) (tv : Value) : Calls Tryz.prog 23 #[.pointer none, .agg #[.int .i64 dir, tv]] w fun e w' => e = .returned (.tuple #[]) ∧ Below w.heap.size w w' := by
  go_enter Tryz.func23, Tryz.ntmps23
  go_wp2_with fail
  refine bodyPost_ret (v := .tuple #[]) (by simp [results, Tryz.results23, go_sem]) rfl ⟨rfl, bal (Below.refl _ w) _⟩
theorem there_nil (w : World) (name : ByteArray) (f : Nat) (cap : Array Value) :
    Calls Tryz.prog 72 #[.pointer none, .string name, .func (.func f) #[] cap] w fun e w' => e = .returned (.func (.func 144) #[] #[.pointer (some ⟨w.heap.size, 0, none⟩), .pointer (some ⟨w.heap.size + 1, 0, none⟩), .pointer (some ⟨w.heap.size + 1 + 1, 0, none⟩)]) ∧
      ((w.alloc (.cells #[.pointer none] 28)).alloc (.cells #[.string name] 9)).alloc (.cells #[.func (.func f) #[] cap] 143) = w' := by
  go_enter Tryz.func72, Tryz.ntmps72
  go_wp2_with fail
  go_ret
  exact ⟨rfl, rfl⟩
def Nil8 (w : World) (e : Ending) (w' : World) : Prop := e = .returned (.int .i64 8) ∧ Below w.heap.size w w'
theorem write_nil (w : World) (name : ByteArray) (a : Option Addr) (n c : Nat) : Calls Tryz.prog 18 #[.pointer none, .string name, .slice a n c] w (Nil8 w) := by
  go_enter Tryz.func18, Tryz.ntmps18
  go_wp2_with fail
  refine (deed_nil _ _ _ _ rfl).mono ?_
  rintro e w1 ⟨rfl, rfl⟩
  go_wp2_with fail
  go_ret
  exact ⟨rfl, (by repeat first | exact Below.refl _ _ | apply bal | apply bdr)⟩
theorem append_nil (w : World) (name : ByteArray) (a : Option Addr) (n c : Nat) : Calls Tryz.prog 81 #[.pointer none, .string name, .slice a n c] w (Nil8 w) := by
  go_enter Tryz.func81, Tryz.ntmps81
  go_wp2_with fail
  refine (deed_nil _ _ _ _ rfl).mono ?_
  rintro e w1 ⟨rfl, rfl⟩
  go_wp2_with fail
  go_ret
  exact ⟨rfl, (by repeat first | exact Below.refl _ _ | apply bal | apply bdr)⟩
theorem syncdir_nil (w : World)  : Calls Tryz.prog 20 #[.pointer none] w (Nil8 w) := by
  go_enter Tryz.func20, Tryz.ntmps20
  go_wp2_with fail
  refine (deed_nil _ _ _ _ rfl).mono ?_
  rintro e w1 ⟨rfl, rfl⟩
  go_wp2_with fail
  go_ret
  exact ⟨rfl, (by repeat first | exact Below.refl _ _ | apply bal | apply bdr)⟩
theorem sync_nil (w : World) (name : ByteArray) : Calls Tryz.prog 19 #[.pointer none, .string name] w (Nil8 w) := by
  go_enter Tryz.func19, Tryz.ntmps19
  go_wp2_with fail
  refine (there_nil _ name _ _).mono ?_
  rintro e w1 ⟨rfl, rfl⟩
  go_wp2_with fail
  refine (deed_nil _ _ _ _ rfl).mono ?_
  rintro e w2 ⟨rfl, rfl⟩
  go_wp2_with fail
  go_ret
  exact ⟨rfl, (by repeat first | exact Below.refl _ _ | apply bal | apply bdr)⟩
theorem remove_nil (w : World) (name : ByteArray) : Calls Tryz.prog 84 #[.pointer none, .string name] w (Nil8 w) := by
  go_enter Tryz.func84, Tryz.ntmps84
  go_wp2_with fail
  refine wp_region_reg (by kernel_rfl) (by kernel_rfl) ?_
  refine reg_quiet 0 rfl (by kernel_rfl) (fun K hK => ?_)
  go_simp
  refine hK _ ?_; clear hK K
  refine reg_quiet 1 rfl (by kernel_rfl) (fun K hK => ?_)
  go_simp
  refine hK _ ?_; clear hK K
  refine reg_quiet 2 rfl (by kernel_rfl) (fun K hK => ?_)
  go_simp
  refine hK _ ?_; clear hK K
  refine reg_quiet 3 rfl (by kernel_rfl) (fun K hK => ?_)
  go_simp
  refine hK _ ?_; clear hK K
  refine reg_quiet 5 rfl (by kernel_rfl) (fun K hK => ?_)
  go_simp
  refine hK _ ?_; clear hK K
  refine reg_turns [4, 6] (by kernel_rfl) rfl ?_
  refine turns_cons [5, 0] rfl (by kernel_rfl) (fun K hK => ?_) ?_
  · go_simp
    refine (there_nil _ name _ _).mono ?_
    rintro e w1 ⟨rfl, rfl⟩
    refine hK _ _ (StayOk.cons rfl (by go_simp) (StayOk.cons rfl (by go_simp) (StayOk.nil))) ?_; clear hK K
    refine reg_turn 6 [0] rfl (by kernel_rfl) (by kernel_rfl) (fun K hK => ?_)
    go_simp
    refine hK _ _ (StayOk.cons rfl (by go_simp) (StayOk.nil)) ?_; clear hK K
    refine reg_turn 7 [] rfl (by kernel_rfl) (by kernel_rfl) (fun K hK => ?_)
    go_simp
    refine (deed_nil _ _ _ _ rfl).mono ?_
    rintro e w2 ⟨rfl, rfl⟩
    refine hK _ _ (StayOk.nil) ?_; clear hK K
    refine reg_quiet 8 rfl (by kernel_rfl) (fun K hK => ?_)
    go_simp
    refine hK _ ?_; clear hK K
    refine reg_done (by kernel_rfl) ?_
    go_wp2_with fail
    go_ret
    exact ⟨rfl, (by repeat first | exact Below.refl _ _ | apply bal | apply bdr)⟩
  refine turns_cons [3, 2, 1, 0] rfl (by kernel_rfl) (fun K hK => ?_) ?_
  · go_simp
    refine hK _ _ (StayOk.cons rfl (by go_simp) (StayOk.cons rfl (by go_simp) (StayOk.cons rfl (by go_simp) (StayOk.cons rfl (by go_simp) (StayOk.nil))))) ?_; clear hK K
    refine reg_turn 4 [0] rfl (by kernel_rfl) (by kernel_rfl) (fun K hK => ?_)
    go_simp
    refine (there_nil _ name _ _).mono ?_
    rintro e w1 ⟨rfl, rfl⟩
    refine hK _ _ (StayOk.cons rfl (by go_simp) (StayOk.nil)) ?_; clear hK K
    refine reg_turn 7 [] rfl (by kernel_rfl) (by kernel_rfl) (fun K hK => ?_)
    go_simp
    refine (deed_nil _ _ _ _ rfl).mono ?_
    rintro e w2 ⟨rfl, rfl⟩
    refine hK _ _ (StayOk.nil) ?_; clear hK K
    refine reg_quiet 8 rfl (by kernel_rfl) (fun K hK => ?_)
    go_simp
    refine hK _ ?_; clear hK K
    refine reg_done (by kernel_rfl) ?_
    go_wp2_with fail
    go_ret
    exact ⟨rfl, (by repeat first | exact Below.refl _ _ | apply bal | apply bdr)⟩
  exact turns_nil'
theorem rename_nil (w : World) (name to : ByteArray) : Calls Tryz.prog 83 #[.pointer none, .string name, .string to] w (Nil8 w) := by
  go_enter Tryz.func83, Tryz.ntmps83
  go_wp2_with fail
  refine wp_region_reg (by kernel_rfl) (by kernel_rfl) ?_
  refine reg_quiet 0 rfl (by kernel_rfl) (fun K hK => ?_)
  go_simp
  refine hK _ ?_; clear hK K
  refine reg_quiet 1 rfl (by kernel_rfl) (fun K hK => ?_)
  go_simp
  refine hK _ ?_; clear hK K
  refine reg_quiet 2 rfl (by kernel_rfl) (fun K hK => ?_)
  go_simp
  refine hK _ ?_; clear hK K
  refine reg_quiet 3 rfl (by kernel_rfl) (fun K hK => ?_)
  go_simp
  refine hK _ ?_; clear hK K
  refine reg_quiet 5 rfl (by kernel_rfl) (fun K hK => ?_)
  go_simp
  refine hK _ ?_; clear hK K
  refine reg_quiet 6 rfl (by kernel_rfl) (fun K hK => ?_)
  go_simp
  refine hK _ ?_; clear hK K
  refine reg_turns [4, 7] (by kernel_rfl) rfl ?_
  refine turns_cons [6, 5, 0] rfl (by kernel_rfl) (fun K hK => ?_) ?_
  · go_simp
    refine (there_nil _ name _ _).mono ?_
    rintro e w1 ⟨rfl, rfl⟩
    refine hK _ _ (StayOk.cons rfl (by go_simp) (StayOk.cons rfl (by go_simp) (StayOk.cons rfl (by go_simp) (StayOk.nil)))) ?_; clear hK K
    refine reg_turn 7 [0] rfl (by kernel_rfl) (by kernel_rfl) (fun K hK => ?_)
    go_simp
    refine hK _ _ (StayOk.cons rfl (by go_simp) (StayOk.nil)) ?_; clear hK K
    refine reg_turn 8 [] rfl (by kernel_rfl) (by kernel_rfl) (fun K hK => ?_)
    go_simp
    refine (deed_nil _ _ _ _ rfl).mono ?_
    rintro e w2 ⟨rfl, rfl⟩
    refine hK _ _ (StayOk.nil) ?_; clear hK K
    refine reg_quiet 9 rfl (by kernel_rfl) (fun K hK => ?_)
    go_simp
    refine hK _ ?_; clear hK K
    refine reg_done (by kernel_rfl) ?_
    go_wp2_with fail
    go_ret
    exact ⟨rfl, (by repeat first | exact Below.refl _ _ | apply bal | apply bdr)⟩
  refine turns_cons [3, 2, 1, 0] rfl (by kernel_rfl) (fun K hK => ?_) ?_
  · go_simp
    refine hK _ _ (StayOk.cons rfl (by go_simp) (StayOk.cons rfl (by go_simp) (StayOk.cons rfl (by go_simp) (StayOk.cons rfl (by go_simp) (StayOk.nil))))) ?_; clear hK K
    refine reg_turn 4 [0] rfl (by kernel_rfl) (by kernel_rfl) (fun K hK => ?_)
    go_simp
    refine (there_nil _ name _ _).mono ?_
    rintro e w1 ⟨rfl, rfl⟩
    refine hK _ _ (StayOk.cons rfl (by go_simp) (StayOk.nil)) ?_; clear hK K
    refine reg_turn 8 [] rfl (by kernel_rfl) (by kernel_rfl) (fun K hK => ?_)
    go_simp
    refine (deed_nil _ _ _ _ rfl).mono ?_
    rintro e w2 ⟨rfl, rfl⟩
    refine hK _ _ (StayOk.nil) ?_; clear hK K
    refine reg_quiet 9 rfl (by kernel_rfl) (fun K hK => ?_)
    go_simp
    refine hK _ ?_; clear hK K
    refine reg_done (by kernel_rfl) ?_
    go_wp2_with fail
    go_ret
    exact ⟨rfl, (by repeat first | exact Below.refl _ _ | apply bal | apply bdr)⟩
  exact turns_nil'
theorem cut_nil (w : World) (name : ByteArray) (m : Int) : Calls Tryz.prog 82 #[.pointer none, .string name, .int .i64 m] w (Nil8 w) := by
  go_enter Tryz.func82, Tryz.ntmps82
  go_wp2_with fail
  refine wp_region_reg (by kernel_rfl) (by kernel_rfl) ?_
  refine reg_quiet 0 rfl (by kernel_rfl) (fun K hK => ?_)
  go_simp
  refine hK _ ?_; clear hK K
  refine reg_quiet 1 rfl (by kernel_rfl) (fun K hK => ?_)
  go_simp
  refine hK _ ?_; clear hK K
  refine reg_quiet 2 rfl (by kernel_rfl) (fun K hK => ?_)
  go_simp
  refine hK _ ?_; clear hK K
  refine reg_quiet 3 rfl (by kernel_rfl) (fun K hK => ?_)
  go_simp
  refine hK _ ?_; clear hK K
  refine reg_quiet 5 rfl (by kernel_rfl) (fun K hK => ?_)
  go_simp
  refine hK _ ?_; clear hK K
  refine reg_turns [4, 6] (by kernel_rfl) rfl ?_
  refine turns_cons [5, 0] rfl (by kernel_rfl) (fun K hK => ?_) ?_
  · go_simp
    refine (there_nil _ name _ _).mono ?_
    rintro e w1 ⟨rfl, rfl⟩
    refine hK _ _ (StayOk.cons rfl (by go_simp) (StayOk.cons rfl (by go_simp) (StayOk.nil))) ?_; clear hK K
    refine reg_turn 6 [0] rfl (by kernel_rfl) (by kernel_rfl) (fun K hK => ?_)
    go_simp
    refine hK _ _ (StayOk.cons rfl (by go_simp) (StayOk.nil)) ?_; clear hK K
    refine reg_turn 7 [] rfl (by kernel_rfl) (by kernel_rfl) (fun K hK => ?_)
    go_simp
    refine (deed_nil _ _ _ _ rfl).mono ?_
    rintro e w2 ⟨rfl, rfl⟩
    refine hK _ _ (StayOk.nil) ?_; clear hK K
    refine reg_quiet 8 rfl (by kernel_rfl) (fun K hK => ?_)
    go_simp
    refine hK _ ?_; clear hK K
    refine reg_done (by kernel_rfl) ?_
    go_wp2_with fail
    go_ret
    exact ⟨rfl, (by repeat first | exact Below.refl _ _ | apply bal | apply bdr)⟩
  refine turns_cons [3, 2, 1, 0] rfl (by kernel_rfl) (fun K hK => ?_) ?_
  · go_simp
    refine hK _ _ (StayOk.cons rfl (by go_simp) (StayOk.cons rfl (by go_simp) (StayOk.cons rfl (by go_simp) (StayOk.cons rfl (by go_simp) (StayOk.nil))))) ?_; clear hK K
    refine reg_turn 4 [0] rfl (by kernel_rfl) (by kernel_rfl) (fun K hK => ?_)
    go_simp
    refine (there_nil _ name _ _).mono ?_
    rintro e w1 ⟨rfl, rfl⟩
    refine hK _ _ (StayOk.cons rfl (by go_simp) (StayOk.nil)) ?_; clear hK K
    refine reg_turn 7 [] rfl (by kernel_rfl) (by kernel_rfl) (fun K hK => ?_)
    go_simp
    refine (deed_nil _ _ _ _ rfl).mono ?_
    rintro e w2 ⟨rfl, rfl⟩
    refine hK _ _ (StayOk.nil) ?_; clear hK K
    refine reg_quiet 8 rfl (by kernel_rfl) (fun K hK => ?_)
    go_simp
    refine hK _ ?_; clear hK K
    refine reg_done (by kernel_rfl) ?_
    go_wp2_with fail
    go_ret
    exact ⟨rfl, (by repeat first | exact Below.refl _ _ | apply bal | apply bdr)⟩
  exact turns_nil'
theorem Nil8.of_alloc {w : World} {o : Obj} {e : Ending} {w' : World} (h : Nil8 (w.alloc o) e w') : Nil8 w e w' := ⟨h.1, ((Below.refl _ w).alloc (Nat.le_refl _) o).trans (h.2.mono (by simp))⟩
set_option maxRecDepth 100000 in
theorem lawdeed_nil (w : World) (c : Nat) (hc : c ≤ 6) {m wh : Int} {name to : ByteArray} {a : Option Addr} {n cp : Nat} {tv : Value} (hm : isI64 m) :
    Calls Tryz.prog 24 #[.pointer none, .int .i64 c, .agg #[.int .i64 wh, .int .i64 m, .string name, .string to, (.slice a n cp), tv]] w (Nil8 w) := by
  have hx : (w.alloc (.cells #[.int .i64 wh, .int .i64 m, .string name, .string to, (.slice a n cp), tv] 40)).heap[w.heap.size]? = some (.cells #[.int .i64 wh, .int .i64 m, .string name, .string to, (.slice a n cp), tv] 40 (0, 0)) := heap_alloc_new w _
  have z1 := cell_at (o := 1) hx
  have z2 := cell_at (o := 2) hx
  have z3 := cell_at (o := 3) hx
  have z4 := cell_at (o := 4) hx
  simp only [List.getElem?_toArray, List.getElem?_cons_zero, List.getElem?_cons_succ] at z1 z2 z3 z4
  clear hx
  obtain rfl | rfl | rfl | rfl | rfl | rfl | rfl : c = 0 ∨ c = 1 ∨ c = 2 ∨ c = 3 ∨ c = 4 ∨ c = 5 ∨ c = 6 := by omega
  · go_enter Tryz.func24, Tryz.ntmps24
    go_wp2_with fail
    refine (write_nil _ name a n cp).mono ?_
    intro e w1 ht1
    obtain ⟨rfl, hb⟩ := ht1.of_alloc
    have Hb := Lib.hid hb
    clear ht1 hb
    go_wp2_with fail
    go_ret
    exact ⟨rfl, Hb.out⟩
  · go_enter Tryz.func24, Tryz.ntmps24
    go_wp2_with fail
    refine (append_nil _ name a n cp).mono ?_
    intro e w1 ht1
    obtain ⟨rfl, hb⟩ := ht1.of_alloc
    have Hb := Lib.hid hb
    clear ht1 hb
    go_wp2_with fail
    go_ret
    exact ⟨rfl, Hb.out⟩
  · go_enter Tryz.func24, Tryz.ntmps24
    go_wp2_with fail
    refine (cut_nil _ name m).mono ?_
    intro e w1 ht1
    obtain ⟨rfl, hb⟩ := ht1.of_alloc
    have Hb := Lib.hid hb
    clear ht1 hb
    go_wp2_with fail
    go_ret
    exact ⟨rfl, Hb.out⟩
  · go_enter Tryz.func24, Tryz.ntmps24
    go_wp2_with fail
    refine (rename_nil _ name to).mono ?_
    intro e w1 ht1
    obtain ⟨rfl, hb⟩ := ht1.of_alloc
    have Hb := Lib.hid hb
    clear ht1 hb
    go_wp2_with fail
    go_ret
    exact ⟨rfl, Hb.out⟩
  · go_enter Tryz.func24, Tryz.ntmps24
    go_wp2_with fail
    refine (remove_nil _ name).mono ?_
    intro e w1 ht1
    obtain ⟨rfl, hb⟩ := ht1.of_alloc
    have Hb := Lib.hid hb
    clear ht1 hb
    go_wp2_with fail
    go_ret
    exact ⟨rfl, Hb.out⟩
  · go_enter Tryz.func24, Tryz.ntmps24
    go_wp2_with fail
    refine (sync_nil _ name).mono ?_
    intro e w1 ht1
    obtain ⟨rfl, hb⟩ := ht1.of_alloc
    have Hb := Lib.hid hb
    clear ht1 hb
    go_wp2_with fail
    go_ret
    exact ⟨rfl, Hb.out⟩
  · go_enter Tryz.func24, Tryz.ntmps24
    go_wp2_with fail
    refine (syncdir_nil _).mono ?_
    intro e w1 ht1
    obtain ⟨rfl, hb⟩ := ht1.of_alloc
    have Hb := Lib.hid hb
    clear ht1 hb
    go_wp2_with fail
    go_ret
    exact ⟨rfl, Hb.out⟩
end Go.Proofs.YtbckbkcpfejllaaGreatDoor
