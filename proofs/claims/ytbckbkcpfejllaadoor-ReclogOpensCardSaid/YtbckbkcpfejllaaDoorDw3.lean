/- slices.Clone of bytes: a row of its own, nil where there was none. -/
import Derived.Test.YtbckbkcpfejllaaDoorDw2
import Derived.OwnWalk
namespace Go.Proofs.YtbckbkcpfejllaaDoor
open Go.RowKit Go.Maps Go.WideMaps

theorem info_u8 : (Tryd.prog.info? 5).map (fun i => (i.zero, i.size, i.bytes)) = some (some (.int .u8 0), 1, 1) := by kernel_rfl

def Cloned (w : World) (xs : Bs) (v : Value) (e : Ending) (w' : World) : Prop :=
  ∃ a c, e = .returned (.slice a xs.length c) ∧ Bown w' 5 (.slice a xs.length c) xs ∧ Below w.heap.size w w' ∧ (∀ b, (Value.slice a xs.length c).ownBlock = some b → w.heap.size ≤ b) ∧ (v = .slice none 0 0 → a = none ∧ c = 0)

set_option maxHeartbeats 400000 in
theorem clone_at {w : World} {v : Value} {xs : Bs} (h : Bin w v xs) (hl : xs.length ≤ 1000000000) : Calls Tryd.prog 41 #[v] w (Cloned w xs v) := by
  have h' := h
  obtain ⟨a, cap, rfl, h1, h3, h4⟩ := h
  cases a with
  | none =>
    have hc := h3 rfl
    have h0 : xs = [] := List.length_eq_zero_iff.1 (by omega)
    subst h0 hc
    have hq := Lib.run_eql_slice_nil (P := Tryd.prog) w
    clear h' h4 h3
    simp only [List.length_nil]
    go_enter Tryd.func41, Tryd.ntmps41
    go_wp2
    go_ret
    exact ⟨none, 0, rfl, Row.nil _ _ _, Below.refl _ _, (fun b hb => by cases hb), fun _ => ⟨rfl, rfl⟩⟩
  | some a =>
    obtain ⟨i0, hi, hz0, hz1, hz2⟩ := info_parts info_u8
    have hq : (binOp .eql 22 (.slice (some a) xs.length cap) (.slice none 0 0)).run Tryd.prog w = .ok (.bool false) w := Lib.run_eql_slice_nil (P := Tryd.prog) w 22 5 (some a) _ cap 0 0 Tryd.underlying22
    have Hb := Lib.hid h'
    clear h' h4 h3
    go_enter Tryd.func41, Tryd.ntmps41
    go_wp2_with (first
      | (at_builtin; refine wpList_append_row _ rfl _ _ 22 22 rfl rfl _ rfl (Row.fresh0 w 5 1) (by decide) i0 (.int .u8 0) 1 Tryd.underlying22 hi hz0 hz1 hz2 rfl xs.length _ ((Hb.out.alloc _).src Tryd.underlying22) (by unfold maxLen; omega) (by omega) ?_; intro b' c' w' hr hk hw hn hsz)
      | fail)
    go_ret
    rw [Nat.zero_add] at hr hw
    refine ⟨b', c', rfl, by simpa using hr, ?_, fun b hb => ?_, fun h => by cases h⟩
    · refine (((Keeps.refl (fun _ => False) w).alloc _).trans hk (fun b hb hS => ?_)).below (Nat.le_refl _) (fun _ _ h => h)
      have : w.heap.size = b := Option.some.inj hS
      omega
    · rcases hw b hb with h | h
      · cases h; exact Nat.le_refl _
      · simp at h; omega

theorem look_down {w : World} {L : Lay} {D : PD} (h : DiskAt w L D) (hd : D.down = true) (s : ByteArray) :
    Calls Tryd.prog 40 #[.pointer (some ⟨L.d, 0, none⟩), .string s] w fun e w' => e = .returned (.tuple #[.pointer none, .int .i64 8]) ∧ w = w' := by
  have c4 := h.cell 4
  simp only [List.getElem?_toArray, List.getElem?_cons_zero, List.getElem?_cons_succ, hd] at c4
  clear h hd
  go_enter Tryd.func40, Tryd.ntmps40
  go_wp2
  go_ret2
  exact ⟨rfl, rfl⟩
theorem look_nil (w : World) (s : ByteArray) :
    Calls Tryd.prog 40 #[.pointer none, .string s] w fun e w' => e = .returned (.tuple #[.pointer none, .int .i64 8]) ∧ w = w' := by
  go_enter Tryd.func40, Tryd.ntmps40
  go_wp2
  go_ret2
  exact ⟨rfl, rfl⟩
set_option maxRecDepth 100000 in
theorem look_up {w : World} {L : Lay} {D : PD} (h : DiskAt w L D) (hd : D.down = false) (s : ByteArray) (hs : s.size ≤ 1000000) :
    Calls Tryd.prog 40 #[.pointer (some ⟨L.d, 0, none⟩), .string s] w fun e w' => e = .returned (.tuple #[ptrV (Dir.find D.files (bs s)), .int .i64 (if (Dir.find D.files (bs s)).isSome then 0 else 6)]) ∧ w = w' := by
  have c4 := h.cell 4
  have c5 := h.cell 5
  have hlk := h.hf.look Tryd.underlying9 Tryd.underlying65 (zero_ptr w) s (by unfold maxLen; omega) false
  simp only [List.getElem?_toArray, List.getElem?_cons_zero, List.getElem?_cons_succ, hd] at c4 c5
  clear h hd
  cases hf : Dir.find D.files (bs s) with
  | none =>
    rw [hf] at hlk
    simp only [ptrV_none, Bool.false_eq_true, if_false] at hlk
    clear hf
    go_enter Tryd.func40, Tryd.ntmps40
    go_wp2
    go_ret2
    exact ⟨rfl, rfl⟩
  | some p =>
    rw [hf] at hlk
    simp only [ptrV_some, Bool.false_eq_true, if_false] at hlk
    clear hf
    go_enter Tryd.func40, Tryd.ntmps40
    go_wp2
    go_ret2
    exact ⟨rfl, rfl⟩
end Go.Proofs.YtbckbkcpfejllaaDoor
