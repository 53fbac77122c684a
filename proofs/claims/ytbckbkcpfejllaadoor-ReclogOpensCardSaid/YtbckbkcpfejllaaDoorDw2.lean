/- The walks of fits and look: they read a disk. -/
import Derived.Test.YtbckbkcpfejllaaDoorDw0
import Derived.Test.YtbckbkcpfejllaaDoorDw1
import Derived.Deep.RegionHeld3
import Derived.IntWalk
namespace Go.Proofs.YtbckbkcpfejllaaDoor
open Go.RowKit Go.Maps Go.WideMaps

theorem used_bd {D : PD} (hD : D.Ok) : 0 ≤ D.used ∧ D.used ≤ 65536000000 := by
  have := sumLeft_bd hD (Maps.has (Dir.data D.files))
  have := hD.nf
  rw [sumLeft_start] at *
  omega

set_option maxRecDepth 100000 in
set_option maxHeartbeats 400000 in
theorem fits_at {w : World} {L : Lay} {D : PD} (h : DiskAt w L D) (hD : D.Ok) (s : ByteArray) (hs : s.size ≤ 1000000) (z : Int) (hz0 : 0 ≤ z) (hz1 : z ≤ 1000000000000) :
    Calls Tryd.prog 50 #[.pointer (some ⟨L.d, 0, none⟩), .string s, .int .i64 z] w fun e w' => e = .returned (.int .i64 (D.fits (bs s) z)) ∧ Below w.heap.size w w' := by
  have hlk := h.hf.look Tryd.underlying9 Tryd.underlying65 (zero_ptr w) s (by unfold maxLen; omega) true
  have hln := h.hf.len Tryd.underlying65
  have c0 := h.cell 0
  have c5 := h.cell 5
  have hu := used_bd hD
  have hnf := hD.nf
  have hq0 := hD.q0
  have hq1 := hD.q1
  simp only [List.getElem?_toArray, List.getElem?_cons_zero, List.getElem?_cons_succ] at c0 c5
  have hdl := lt_of_heap h.hd
  have hus : ∀ wx : World, (wx.cell? ⟨L.d, 0, none⟩ = some (.int .i64 D.quota) ∧ Below w.heap.size w wx) → Calls Tryd.prog 74 #[.pointer (some ⟨L.d, 0, none⟩)] wx fun e w' =>
      e = .returned (.int .i64 D.used) ∧ (w'.cell? ⟨L.d, 0, none⟩ = some (.int .i64 D.quota) ∧ Below w.heap.size w w') := fun wx hx =>
    (used_at (h.below hx.2) hD).mono fun e w' he => ⟨he.1, (he.2.cell (Nat.lt_of_lt_of_le hdl hx.2.size)).trans hx.1, hx.2.trans (he.2.mono hx.2.size)⟩
  have Hus := Lib.hid hus
  cases hf : Dir.find D.files (bs s) with
  | none =>
    rw [hf] at hlk
    simp only [ptrV_none, Option.isSome_none, if_true] at hlk
    have hold : D.old (bs s) = 0 := by simp [PD.old, hf]
    have hfin : D.fits (bs s) z = if 65536 < z then 3 else if D.files.length = 200 then 3 else if D.quota < D.used + z then 7 else 0 := by
      simp [PD.fits, hf, hold]
    have Hfin := Lib.hid hfin
    clear hus hf hfin hold h hD
    go_enter Tryd.func50, Tryd.ntmps50
    go_wp2_with fail
    · go_ret
      have hz : 65536 < z := by assumption
      exact ⟨ret_int (by rw [Hfin.out, if_pos hz]), Below.refl _ _⟩
    · go_ret
      have hz : z ≤ 65536 := by assumption
      have hz' : ((D.files.length : Int) == 200) = true := by assumption
      have hz3 : (D.files.length : Int) = 200 := by simpa using hz'
      have hz2 : D.files.length = 200 := by omega
      exact ⟨ret_int (by rw [Hfin.out, if_neg (by omega), if_pos hz2]), Below.refl _ _⟩
    · have hz : z ≤ 65536 := by assumption
      have hz' : ((D.files.length : Int) == 200) = false := by assumption
      have Hz' := Lib.hid hz'
      clear hz'
      go_region_held3 (fun w' => w'.cell? ⟨L.d, 0, none⟩ = some (.int .i64 D.quota) ∧ Below w.heap.size w w') (first | exact ⟨c0, (Below.refl _ _).drew⟩ | assumption)
        (first | (go_at_call 74; refine (Hus.out _ (by assumption)).mono ?_; rintro e w' ⟨rfl, hb⟩))
      have hz3 : D.files.length ≠ 200 := fun e => by have := Hz'.out; rw [e] at this; cases this
      go_wp2
      · go_ret
        have hq : D.quota < IntKind.i64.wrap (IntKind.i64.wrap D.used + z) := by assumption
        rw [IntWalk.i64_in D.used (by omega), IntWalk.i64_in _ (by omega)] at hq
        exact ⟨ret_int (by rw [Hfin.out, if_neg (by omega), if_neg hz3, if_pos hq]), hb.2⟩
      · go_ret
        have hq : IntKind.i64.wrap (IntKind.i64.wrap D.used + z) ≤ D.quota := by assumption
        rw [IntWalk.i64_in D.used (by omega), IntWalk.i64_in _ (by omega)] at hq
        exact ⟨ret_int (by rw [Hfin.out, if_neg (by omega), if_neg hz3, if_neg (by omega)]), hb.2⟩
  | some p =>
    rw [hf] at hlk
    simp only [ptrV_some, Option.isSome_some, if_true] at hlk
    have hold : D.old (bs s) = D.len p := by simp [PD.old, hf]
    have hfin : D.fits (bs s) z = if 65536 < z then 3 else if D.quota < D.used - D.len p + z then 7 else 0 := by
      simp [PD.fits, hf, hold]
    have Hfin := Lib.hid hfin
    obtain ⟨v, hvc, a, cap, rfl⟩ : ∃ v, w.cell? ⟨p, 0, none⟩ = some v ∧ ∃ a cap, v = .slice a (D.fs p).b.length cap := by
      obtain ⟨h1, h2, _⟩ := h.file p (h.okf _ (find_mem hf))
      exact ⟨_, by rw [cell_at h1]; rfl, h2.slv⟩
    have hl0 := len_nonneg D p
    have hl1 : D.len p ≤ 65536 := by have h1 : (D.fs p).b.length ≤ 65536 := hD.fl _ (find_mem hf); unfold PD.len; omega
    have hl2 : ((D.fs p).b.length : Int) ≤ 65536 := hl1
    have Hl : Hid (((D.fs p).b.length : Int) = D.len p) := Lib.hid rfl
    clear hus hf hfin hold h hD
    go_enter Tryd.func50, Tryd.ntmps50
    go_wp2_with fail
    · go_ret
      have hz : 65536 < z := by assumption
      exact ⟨ret_int (by rw [Hfin.out, if_pos hz]), Below.refl _ _⟩
    · have hz : z ≤ 65536 := by assumption
      go_region_held3 (fun w' => w'.cell? ⟨L.d, 0, none⟩ = some (.int .i64 D.quota) ∧ Below w.heap.size w w') (first | exact ⟨c0, (Below.refl _ _).drew⟩ | assumption)
        (first | (go_at_call 74; refine (Hus.out _ (by assumption)).mono ?_; rintro e w' ⟨rfl, hb⟩))
      go_wp2
      · go_ret
        have hq : D.quota < IntKind.i64.wrap (IntKind.i64.wrap (D.used - (D.fs p).b.length) + z) := by assumption
        rw [IntWalk.i64_in (D.used - (D.fs p).b.length) (by omega), IntWalk.i64_in _ (by omega)] at hq
        exact ⟨ret_int (by rw [Hfin.out, if_neg (by omega), if_pos (by rw [← Hl.out]; exact hq)]), hb.2⟩
      · go_ret
        have hq : IntKind.i64.wrap (IntKind.i64.wrap (D.used - (D.fs p).b.length) + z) ≤ D.quota := by assumption
        rw [IntWalk.i64_in (D.used - (D.fs p).b.length) (by omega), IntWalk.i64_in _ (by omega)] at hq
        exact ⟨ret_int (by rw [Hfin.out, if_neg (by omega), if_neg (by rw [← Hl.out]; omega)]), hb.2⟩
end Go.Proofs.YtbckbkcpfejllaaDoor
