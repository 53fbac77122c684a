/- The walk of fresh: a name leads to a new file. -/
import Derived.Test.YtbckbkcpfejllaaDoorDw6
namespace Go.Proofs.YtbckbkcpfejllaaDoor
open Go.RowKit Go.Maps Go.WideMaps

/-- What a deed comes to: a number, and the disk that f tells; p is where a new file would lie. -/
def Dealt (w : World) (L : Lay) (f : Nat → Int × PD) (e : Ending) (w' : World) : Prop :=
  ∃ p L', e = .returned (.int .i64 (f p).1) ∧ Step w L w' L' (f p).2 ∧ w.heap.size ≤ p
theorem Dealt.of {w w' : World} {L L' : Lay} {f : Nat → Int × PD} {e : Ending} (p : Nat) {c : Int} {D' : PD} (hf : f p = (c, D')) (he : e = .returned (.int .i64 c)) (hs : Step w L w' L' D') (hp : w.heap.size ≤ p) : Dealt w L f e w' :=
  ⟨p, L', by rw [hf]; exact he, by rw [hf]; exact hs, hp⟩
theorem Dealt.before {w w' : World} {L : Lay} {D' : PD} {f : Nat → Int × PD} {e : Ending} {w'' : World} (hs : Step w L w' L D') (h : Dealt w' L f e w'') : Dealt w L f e w'' := by
  obtain ⟨p, L', he, hst, hp⟩ := h
  exact ⟨p, L', he, hs.trans hst, Nat.le_trans hs.keeps.size hp⟩

set_option maxRecDepth 100000 in
set_option maxHeartbeats 1000000 in
theorem fresh_at {w : World} {L : Lay} {D : PD} (h : DiskAt w L D) (hD : D.Ok) (name : ByteArray) (hs : name.size ≤ 1000000) {bv : Value} {b : Bs} (hb : Bin w bv b) (hl : b.length ≤ 1000000) :
    Calls Tryd.prog 32 #[.pointer (some ⟨L.d, 0, none⟩), .string name, bv] w (Dealt w L (D.fresh name b)) := by
  have hfit := fits_at h hD name hs b.length (by omega) (by omega)
  obtain ⟨a0, cap0, rfl, hb1⟩ : ∃ a cap, bv = .slice a b.length cap ∧ Bin w (.slice a b.length cap) b := by
    obtain ⟨a, cap, rfl, h1⟩ := hb
    exact ⟨a, cap, rfl, a, cap, rfl, h1⟩
  have Hb := Lib.hid hb1
  have Hfit := Lib.hid hfit
  have H := Lib.hid h
  have HD := Lib.hid hD
  clear hfit hb hb1 h hD
  by_cases hz : D.fits (bs name) b.length = 0
  · have hr : ∀ p, D.fresh name b p = (0, (D.tick.setF p ⟨b, 0, D.clock⟩).turns ⟨name, some p, ByteArray.empty⟩) := fun p => by simp only [PD.fresh]; rw [if_pos hz]
    rw [hz] at Hfit
    have hl2 : b.length ≤ 65536 := by
      unfold PD.fits at hz
      split at hz
      · cases hz
      · omega
    have Hr := Lib.hid hr
    have hnf := HD.out.nf
    have hnp := HD.out.np
    have hc0 := HD.out.c0
    have hc1 := HD.out.c1
    clear hr hz
    go_enter Tryd.func32, Tryd.ntmps32
    go_wp2_with fail
    refine Hfit.out.mono ?_
    rintro e w1 ⟨rfl, hb1⟩
    have h1 := H.out.below hb1
    go_wp2_with fail
    refine (clone_at (Hb.out.keep fun q _ hq => hb1.block q hq) (by omega)).mono ?_
    rintro e w2 ⟨a1, cap1, rfl, hown, hb2, hfr, _⟩
    have hb3 : Below w.heap.size w w2 := hb1.trans (hb2.mono hb1.size)
    have h2 := H.out.below hb3
    have k1 := h2.cell 1
    have k2 := h2.free 1
    simp only [List.getElem?_toArray, List.getElem?_cons_zero, List.getElem?_cons_succ] at k1
    have H2 := Lib.hid h2
    have Hown := Lib.hid hown
    have Hfr := Lib.hid hfr
    clear h1 h2 hown hfr
    go_wp2_with fail
    refine (tick_at L.d D.clock w2 hc0 (by omega) k1 k2).mono ?_
    rintro e w3 ⟨rfl, rfl⟩
    go_wp2_with fail
    have hdl := lt_of_heap H.out.hd
    have hsz : (w2.setCell ⟨L.d, 1, none⟩ (.int .i64 (D.clock + 1))).heap.size = w2.heap.size := by simp [World.setCell]
    have hz1 := hb1.size
    have hz3 := hb3.size
    have hvq : ∀ q, (Value.slice a1 b.length cap1).ownBlock = some q → w.heap.size ≤ q ∧ q < w2.heap.size := fun q hq => ⟨Nat.le_trans hz1 (Hfr.out q hq), Hown.out.lt q hq⟩
    obtain ⟨hst, hrp⟩ := file_new (w' := (w2.setCell ⟨L.d, 1, none⟩ (.int .i64 (D.clock + 1))).alloc (.cells #[.slice a1 b.length cap1, .int .i64 0, .int .i64 D.clock] 84)) H.out (p := w2.heap.size) (v := .slice a1 b.length cap1) (b := b)
      ((((Keeps.of_below hb3).mono (T := fun q => q = L.d) (fun _ _ h => h.elim)).setCell (p := ⟨L.d, 1, none⟩) (fun _ => rfl) _).alloc _) (heap_alloc_of (by rw [heap_setCell_at H2.out.hd]; rfl) _) (by rw [← hsz]; exact heap_alloc_new _ _) hz3
      (Hown.out.keep fun q hq => (Below.heap_alloc _ _ _ (by rw [hsz]; exact (hvq q hq).2)).trans (Below.heap_setCell _ _ _ _ (by have := (hvq q hq).1; show q ≠ L.d; omega))) (fun q hq => ⟨(hvq q hq).1, by have := (hvq q hq).2; omega⟩) hl2 hc0
    refine (turns_at hst.at_ hnf hnp ⟨name, some w2.heap.size, ByteArray.empty⟩ hs (by show ByteArray.empty.size ≤ 1000000; decide) (fun _ => rfl) (fun p hp => by cases hp; exact hrp)).mono ?_
    rintro e w5 ⟨rfl, L5, hst5⟩
    go_wp2_with fail
    go_ret
    exact Dealt.of w2.heap.size (Hr.out _) rfl (hst.trans hst5) hz3
  · have hr : ∀ p, D.fresh name b p = (D.fits (bs name) b.length, D) := fun p => by simp only [PD.fresh]; rw [if_neg hz]
    have Hr := Lib.hid hr
    have hz1 : ((D.fits (bs name) b.length : Int) == 0) = false := by simpa using hz
    have hz2 : ((D.fits (bs name) b.length : Int) != 0) = true := by simpa using hz
    clear hr
    generalize hg : D.fits (bs name) b.length = c at *
    clear hg
    go_enter Tryd.func32, Tryd.ntmps32
    go_wp2_with fail
    refine Hfit.out.mono ?_
    rintro e w1 ⟨rfl, hb1⟩
    go_wp2_with fail
    go_ret
    exact Dealt.of w.heap.size (Hr.out _) rfl (step_below H.out hb1) (Nat.le_refl _)
end Go.Proofs.YtbckbkcpfejllaaDoor
