/- The walks of Read and Stat. -/
import Derived.Test.YtbckbkcpfejllaaDoorDw3
import Derived.RegionTactic
import Derived.BigRegion
namespace Go.Proofs.YtbckbkcpfejllaaDoor
open Go.RowKit Go.Maps Go.WideMaps

/-- What Read answers: a row of its own with the file's bytes; or an error. -/
def ReadOf (w : World) (D : PD) (n : Bs) (e : Ending) (w' : World) : Prop :=
  Below w.heap.size w w' ∧ if D.down then e = .returned (.tuple #[.slice none 0 0, .int .i64 8]) else
    match Dir.find D.files n with
    | none => e = .returned (.tuple #[.slice none 0 0, .int .i64 6])
    | some p => ∃ a c, e = .returned (.tuple #[.slice a (D.fs p).b.length c, .int .i64 0]) ∧ Bown w' 5 (.slice a (D.fs p).b.length c) (D.fs p).b ∧ ∀ b, (Value.slice a (D.fs p).b.length c).ownBlock = some b → w.heap.size ≤ b
def StatOf (w : World) (D : PD) (n : Bs) (e : Ending) (w' : World) : Prop :=
  Below w.heap.size w w' ∧ if D.down then e = .returned (.tuple #[.agg #[.int .i64 0, .int .i64 0], .int .i64 8]) else
    match Dir.find D.files n with
    | none => e = .returned (.tuple #[.agg #[.int .i64 0, .int .i64 0], .int .i64 6])
    | some p => e = .returned (.tuple #[.agg #[.int .i64 (D.fs p).b.length, .int .i64 (D.fs p).time], .int .i64 0])

set_option maxRecDepth 100000 in
theorem read_at {w : World} {L : Lay} {D : PD} (h : DiskAt w L D) (s : ByteArray) (hs : s.size ≤ 1000000) :
    Calls Tryd.prog 13 #[.pointer (some ⟨L.d, 0, none⟩), .string s] w (ReadOf w D (bs s)) := by
  cases hd : D.down with
  | true =>
    have hl := look_down h hd s
    have Hl := Lib.hid hl
    have hfin : ReadOf w D (bs s) (.returned (.tuple #[.slice none 0 0, .int .i64 8])) w := ⟨Below.refl _ _, by rw [hd]; rfl⟩
    have Hfin := Lib.hid hfin
    clear hl hfin h hd
    go_enter Tryd.func13, Tryd.ntmps13
    go_wp2_with (go_at_call 40; refine Hl.out.mono ?_; rintro e w' ⟨rfl, rfl⟩)
    go_ret2
    exact Hfin.out
  | false =>
    have hl := look_up h hd s hs
    cases hf : Dir.find D.files (bs s) with
    | none =>
      rw [hf] at hl
      have Hl := Lib.hid hl
      have hfin : ReadOf w D (bs s) (.returned (.tuple #[.slice none 0 0, .int .i64 6])) w := ⟨Below.refl _ _, by rw [hd, hf]; rfl⟩
      have Hfin := Lib.hid hfin
      clear hl hfin h hd hf
      go_enter Tryd.func13, Tryd.ntmps13
      go_wp2_with (go_at_call 40; refine Hl.out.mono ?_; rintro e w' ⟨rfl, rfl⟩)
      go_ret2
      exact Hfin.out
    | some p =>
      rw [hf] at hl
      have Hl := Lib.hid hl
      have hp := h.okf _ (find_mem hf)
      obtain ⟨h1, h2, _⟩ := h.file p hp
      have hb := (h.okb p hp).1
      have c0 : w.cell? ⟨p, 0, none⟩ = some (L.vs p) := by rw [cell_at h1]; rfl
      have hfin : ∀ a c w', Bown w' 5 (.slice a (D.fs p).b.length c) (D.fs p).b → Below w.heap.size w w' → (∀ b, (Value.slice a (D.fs p).b.length c).ownBlock = some b → w.heap.size ≤ b) →
          ReadOf w D (bs s) (.returned (.tuple #[.slice a (D.fs p).b.length c, .int .i64 0])) w' := fun a c w' r1 r2 r3 => ⟨r2, by rw [hd, hf]; exact ⟨a, c, rfl, r1, r3⟩⟩
      have Hfin := Lib.hid hfin
      have hcl := fun hbin : Bin w (L.vs p) (D.fs p).b => clone_at hbin (by omega)
      have Hcl := Lib.hid hcl
      have Hbin : Hid (Bin w (L.vs p) (D.fs p).b) := Lib.hid h2.bin
      obtain ⟨a0, c0', hv⟩ := h2.slv
      rw [hv] at Hcl c0 Hbin
      clear hl hfin h hd hf h1 h2 hcl
      go_enter Tryd.func13, Tryd.ntmps13
      go_wp2_with (first
        | (go_at_call 40; refine Hl.out.mono ?_; rintro e w' ⟨rfl, rfl⟩)
        | (go_at_call 41; refine (Hcl.out Hbin.out).mono ?_; rintro e w' ⟨a, c, rfl, r1, r2, r3, _⟩))
      go_ret2
      exact Hfin.out _ _ _ r1 r2 r3

set_option maxRecDepth 100000 in
theorem stat_at {w : World} {L : Lay} {D : PD} (h : DiskAt w L D) (s : ByteArray) (hs : s.size ≤ 1000000) :
    Calls Tryd.prog 12 #[.pointer (some ⟨L.d, 0, none⟩), .string s] w (StatOf w D (bs s)) := by
  have hbl := (Below.refl w.heap.size w).alloc (Nat.le_refl _) (.cells #[.int .i64 0, .int .i64 0] 37)
  cases hd : D.down with
  | true =>
    have hl := look_down (w := w.alloc (.cells #[.int .i64 0, .int .i64 0] 37)) (h.below hbl) hd s
    have Hl := Lib.hid hl
    clear hl
    go_enter Tryd.func12, Tryd.ntmps12
    go_wp2_with (go_at_call 40; refine Hl.out.mono ?_; rintro e w' ⟨rfl, rfl⟩)
    refine bodyPost_ret (v := .tuple #[.agg #[.int .i64 0, .int .i64 0], .int .i64 8]) (by simp [results, Tryd.results12, go_sem]) rfl ⟨?_, by rw [hd]; rfl⟩
    first | exact (Below.refl _ _).alloc (Nat.le_refl _) _ | exact ((Below.refl _ _).alloc (Nat.le_refl _) _).drew | exact ((Below.refl _ _).drew).alloc (Nat.le_refl _) _
  | false =>
    have hl := look_up (w := w.alloc (.cells #[.int .i64 0, .int .i64 0] 37)) (h.below hbl) hd s hs
    cases hf : Dir.find D.files (bs s) with
    | none =>
      rw [hf] at hl
      have Hl := Lib.hid hl
      clear hl
      go_enter Tryd.func12, Tryd.ntmps12
      go_wp2_with (go_at_call 40; refine Hl.out.mono ?_; rintro e w' ⟨rfl, rfl⟩)
      refine bodyPost_ret (v := .tuple #[.agg #[.int .i64 0, .int .i64 0], .int .i64 6]) (by simp [results, Tryd.results12, go_sem]) rfl ⟨?_, by rw [hd, hf]; rfl⟩
      first | exact (Below.refl _ _).alloc (Nat.le_refl _) _ | exact ((Below.refl _ _).alloc (Nat.le_refl _) _).drew | exact ((Below.refl _ _).drew).alloc (Nat.le_refl _) _
    | some p =>
      rw [hf] at hl
      have Hl := Lib.hid hl
      have hp := h.okf _ (find_mem hf)
      obtain ⟨h1, h2, _⟩ := h.file p hp
      have hb := (h.okb p hp).1
      have hpl := lt_of_heap h1
      obtain ⟨a0, c0', hv⟩ := h2.slv
      have c0 : w.cell? ⟨p, 0, none⟩ = some (.slice a0 (D.fs p).b.length c0') := by rw [cell_at h1, ← hv]; rfl
      have c2 : w.cell? ⟨p, 2, none⟩ = some (.int .i64 (D.fs p).time) := by rw [cell_at h1]; rfl
      have hfin : ∀ w', Below w.heap.size w w' → StatOf w D (bs s) (.returned (.tuple #[.agg #[.int .i64 (D.fs p).b.length, .int .i64 (D.fs p).time], .int .i64 0])) w' := fun w' r => ⟨r, by rw [hd, hf]; rfl⟩
      have Hfin := Lib.hid hfin
      clear hl h hd hf h1 h2 hfin hv
      go_enter Tryd.func12, Tryd.ntmps12
      go_wp2_with (go_at_call 40; refine Hl.out.mono ?_; rintro e w' ⟨rfl, rfl⟩)
      go_region
      go_wp2
      refine bodyPost_ret (v := .tuple #[.agg #[.int .i64 (D.fs p).b.length, .int .i64 (D.fs p).time], .int .i64 0]) (by simp [results, Tryd.results12, go_sem]) rfl (Hfin.out _ ?_)
      first | exact (Below.refl _ _).alloc (Nat.le_refl _) _ | exact ((Below.refl _ _).alloc (Nat.le_refl _) _).drew | exact ((Below.refl _ _).drew).alloc (Nat.le_refl _) _
end Go.Proofs.YtbckbkcpfejllaaDoor
