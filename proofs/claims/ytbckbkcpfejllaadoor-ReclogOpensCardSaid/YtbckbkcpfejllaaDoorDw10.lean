/- The walks of Append. -/
import Derived.Test.YtbckbkcpfejllaaDoorDw9
namespace Go.Proofs.YtbckbkcpfejllaaDoor
open Go.RowKit Go.Maps Go.WideMaps

set_option maxRecDepth 100000 in
set_option maxHeartbeats 1000000 in
theorem append1_at {w : World} {L : Lay} {D : PD} (h : DiskAt w L D) (hD : D.Ok) {x0 x1 x2 : Nat} {name : ByteArray} {bv : Value} {b : Bs} (c0 : w.cell? ⟨x0, 0, none⟩ = some (.pointer (some ⟨L.d, 0, none⟩))) (c1 : w.cell? ⟨x1, 0, none⟩ = some (.string name)) (c2 : w.cell? ⟨x2, 0, none⟩ = some bv)
    (r0 : L.role x0 = 0) (hs : name.size ≤ 1000000) (hb : Bin w bv b) (hl : b.length ≤ 1000000) :
    Calls Tryd.prog 49 #[.pointer (some ⟨x0, 0, none⟩), .pointer (some ⟨x1, 0, none⟩), .pointer (some ⟨x2, 0, none⟩)] w (Dealt w L (D.append name b)) := by
  obtain ⟨a0, cap0, rfl⟩ : ∃ a cp, bv = .slice a b.length cp := by
    obtain ⟨a, cp, rfl, _⟩ := hb
    exact ⟨a, cp, rfl⟩
  have k5 := h.cell 5
  simp only [List.getElem?_toArray, List.getElem?_cons_zero, List.getElem?_cons_succ] at k5
  have hlk := (h.hf.keep (w' := w.drew) rfl).look Tryd.underlying9 Tryd.underlying65 (zero_ptr w.drew) name (by unfold maxLen; omega) false
  have H := Lib.hid h
  have HD := Lib.hid hD
  have Hb := Lib.hid hb
  have hdl := lt_of_heap h.hd
  have hx0 := World.block_lt_of_cell? w _ c0
  have hx1 := World.block_lt_of_cell? w _ c1
  have hx2 := World.block_lt_of_cell? w _ c2
  clear h hD hb
  cases hf : Dir.find D.files (bs name) with
  | none =>
    have hfr := fresh_at (w := w.drew) (H.out.keep (Nat.le_refl _) (fun _ _ _ => rfl)) HD.out name hs (bv := .slice a0 b.length cap0) (b := b) (Hb.out.keep (fun _ _ _ => rfl)) hl
    have hap : D.append name b = D.fresh name b := by funext p; simp only [PD.append, hf]
    rw [hf] at hlk
    simp only [ptrV_none, Bool.false_eq_true, if_false] at hlk
    have Hfr := Lib.hid hfr
    have Hap := Lib.hid hap
    clear hf hfr hap
    go_enter Tryd.func49, Tryd.ntmps49
    go_wp2_with fail
    refine wp_region_reg (by kernel_rfl) (by kernel_rfl) ?_
    refine reg_quiet 0 rfl (by kernel_rfl) (fun K hK => ?_)
    go_simp
    refine hK _ ?_; clear hK K
    refine reg_quiet 1 rfl (by kernel_rfl) (fun K hK => ?_)
    go_simp
    refine hK _ ?_; clear hK K
    refine reg_quiet 2 rfl (by kernel_rfl) (fun K hK => ?_)
    go_simp
    refine hK _ ?_; clear hK K
    refine reg_quiet 3 rfl (by kernel_rfl) (fun K hK => ?_)
    go_simp
    refine hK _ ?_; clear hK K
    refine reg_quiet 4 rfl (by kernel_rfl) (fun K hK => ?_)
    go_simp
    refine hK _ ?_; clear hK K
    refine reg_quiet 5 rfl (by kernel_rfl) (fun K hK => ?_)
    go_simp
    refine hK _ ?_; clear hK K
    refine reg_quiet 6 rfl (by kernel_rfl) (fun K hK => ?_)
    go_simp
    refine hK _ ?_; clear hK K
    refine reg_done (by kernel_rfl) ?_
    go_wp2_with fail
    refine Hfr.out.mono ?_
    rintro e w1 hde
    obtain ⟨p, L1, rfl, hst, hp⟩ := Dealt.before (step_keep H.out ((Keeps.refl (fun _ => False) w).drew) (fun _ _ _ h => h) (fun _ _ h => h)) hde
    have Hst := Lib.hid hst
    clear hst
    go_wp2_with fail
    go_ret
    rw [Hap.out]
    exact ⟨p, L1, rfl, Hst.out, hp⟩
  | some q =>
    rw [hf] at hlk
    simp only [ptrV_some, Bool.false_eq_true, if_false] at hlk
    have hq := H.out.okf _ (find_mem hf)
    obtain ⟨g1, g2, g3⟩ := H.out.file q hq
    obtain ⟨a1, cap1, hv⟩ := g2.slv
    have hv0 : w.cell? ⟨q, 0, none⟩ = some (.slice a1 (D.fs q).b.length cap1) := by rw [cell_at g1, ← hv]; rfl
    have hql := lt_of_heap g1
    have hbd := (H.out.okb q hq).1
    have hap : ∀ p, D.append name b p = if D.fits (bs name) (D.len q + b.length) = 0 then (0, (D.tick).setF q ⟨(D.fs q).b ++ b, (D.fs q).sure, D.clock⟩) else (D.fits (bs name) (D.len q + b.length), D) := fun p => by simp only [PD.append, hf]
    have hft := fits_at (w := w.drew.drew) (H.out.keep (Nat.le_refl _) (fun _ _ _ => rfl)) HD.out name hs (D.len q + b.length) (by have := len_nonneg D q; omega) (by unfold PD.len; omega)
    have hlen : D.len q = (D.fs q).b.length := rfl
    have hlq : D.len q + b.length = ((D.fs q).b.length : Int) + b.length := rfl
    rw [hlq] at hft
    simp only [hlq] at hap
    have Hap := Lib.hid hap
    have Hft := Lib.hid hft
    have Hq := Lib.hid hq
    have Hf := Lib.hid (And.intro g1 (And.intro g2 g3))
    have Hv := Lib.hid hv
    clear hf hap hft hq g1 g2 g3 hv hlen hlq
    by_cases hz : D.fits (bs name) ((D.fs q).b.length + b.length) = 0
    · rw [hz] at Hft
      have Hz := Lib.hid hz
      clear hz
      go_enter Tryd.func49, Tryd.ntmps49
      go_wp2_with fail
      refine wp_region_reg (by kernel_rfl) (by kernel_rfl) ?_
      refine reg_quiet 0 rfl (by kernel_rfl) (fun K hK => ?_)
      go_simp
      refine hK _ ?_; clear hK K
      refine reg_quiet 1 rfl (by kernel_rfl) (fun K hK => ?_)
      go_simp
      refine hK _ ?_; clear hK K
      refine reg_quiet 2 rfl (by kernel_rfl) (fun K hK => ?_)
      go_simp
      refine hK _ ?_; clear hK K
      refine reg_quiet 3 rfl (by kernel_rfl) (fun K hK => ?_)
      go_simp
      refine hK _ ?_; clear hK K
      refine reg_quiet 4 rfl (by kernel_rfl) (fun K hK => ?_)
      go_simp
      refine hK _ ?_; clear hK K
      refine reg_quiet 5 rfl (by kernel_rfl) (fun K hK => ?_)
      go_simp
      refine hK _ ?_; clear hK K
      refine reg_quiet 6 rfl (by kernel_rfl) (fun K hK => ?_)
      go_simp
      refine hK _ ?_; clear hK K
      refine reg_done (by kernel_rfl) ?_
      go_wp2_with fail
      refine wp_region_reg (by kernel_rfl) (by kernel_rfl) ?_
      refine reg_quiet 0 rfl (by kernel_rfl) (fun K hK => ?_)
      go_simp
      refine hK _ ?_; clear hK K
      refine reg_quiet 1 rfl (by kernel_rfl) (fun K hK => ?_)
      go_simp
      refine hK _ ?_; clear hK K
      refine reg_quiet 2 rfl (by kernel_rfl) (fun K hK => ?_)
      go_simp
      refine hK _ ?_; clear hK K
      refine reg_quiet 3 rfl (by kernel_rfl) (fun K hK => ?_)
      go_simp
      refine hK _ ?_; clear hK K
      refine reg_quiet 4 rfl (by kernel_rfl) (fun K hK => ?_)
      go_simp
      refine hK _ ?_; clear hK K
      refine reg_quiet 5 rfl (by kernel_rfl) (fun K hK => ?_)
      go_simp
      refine hK _ ?_; clear hK K
      refine reg_quiet 6 rfl (by kernel_rfl) (fun K hK => ?_)
      go_simp
      refine hK _ ?_; clear hK K
      refine reg_quiet 7 rfl (by kernel_rfl) (fun K hK => ?_)
      go_simp
      refine hK _ ?_; clear hK K
      refine reg_quiet 8 rfl (by kernel_rfl) (fun K hK => ?_)
      go_simp
      refine hK _ ?_; clear hK K
      refine reg_quiet 9 rfl (by kernel_rfl) (fun K hK => ?_)
      go_simp
      refine hK _ ?_; clear hK K
      refine reg_turn 10 [] rfl (by kernel_rfl) (by kernel_rfl) (fun K hK => ?_)
      go_simp
      rw [show IntKind.i64.wrap (((D.fs q).b.length : Int) + b.length) = ((D.fs q).b.length : Int) + b.length from IntWalk.i64_in _ (by omega)]
      refine Hft.out.mono ?_
      rintro e w1 ⟨rfl, hb1⟩
      refine hK _ _ (StayOk.nil) ?_; clear hK K
      refine reg_quiet 11 rfl (by kernel_rfl) (fun K hK => ?_)
      go_simp
      refine hK _ ?_; clear hK K
      refine reg_done (by kernel_rfl) ?_
      have hb1w : Below w.heap.size w w1 := ((Below.refl _ w).drew.drew).trans hb1
      have h1 := H.out.below hb1w
      have g1 := (h1.file q Hq.out).1
      have g2 := (h1.file q Hq.out).2.1
      have y0 : w1.cell? ⟨q, 0, none⟩ = some (.slice a1 (D.fs q).b.length cap1) := by rw [cell_at g1, ← Hv.out]; rfl
      have y1 : w1.cell? ⟨x0, 0, none⟩ = some (.pointer (some ⟨L.d, 0, none⟩)) := (hb1w.cell (p := ⟨x0, 0, none⟩) hx0).trans c0
      have y2 : w1.cell? ⟨x2, 0, none⟩ = some (.slice a0 b.length cap0) := (hb1w.cell (p := ⟨x2, 0, none⟩) hx2).trans c2
      rw [Hv.out] at g2
      have G2 := Lib.hid g2
      have G1 := Lib.hid g1
      have H1 := Lib.hid h1
      have hbin : Bin w1 (.slice a0 b.length cap0) b := Hb.out.keep fun x _ hx => hb1w.block x hx
      have Hbin := Lib.hid hbin
      obtain ⟨i0, hi, hz0, hz1, hz2⟩ := info_parts info_u8
      have HI := Lib.hid (And.intro hi (And.intro hz0 (And.intro hz1 hz2)))
      have Hb1w := Lib.hid hb1w
      have hsz1 := hb1w.size
      have hq1 := lt_of_heap g1
      have hd1 := lt_of_heap h1.hd
      have hc0 := HD.out.c0
      have hc1 := HD.out.c1
      have hl2 : ((D.fs q).b.length : Int) + b.length ≤ 65536 := by
        have hz := Hz.out
        unfold PD.fits at hz
        split at hz
        · cases hz
        · omega
      clear g1 g2 h1 hbin hi hz0 hz1 hz2 hb1 hb1w
      go_wp2_with fail
      refine wp_region_reg (by kernel_rfl) (by kernel_rfl) ?_
      refine reg_quiet 0 rfl (by kernel_rfl) (fun K hK => ?_)
      go_simp
      refine hK _ ?_; clear hK K
      refine reg_quiet 1 rfl (by kernel_rfl) (fun K hK => ?_)
      go_simp
      refine hK _ ?_; clear hK K
      refine reg_quiet 2 rfl (by kernel_rfl) (fun K hK => ?_)
      go_simp
      refine hK _ ?_; clear hK K
      refine reg_quiet 3 rfl (by kernel_rfl) (fun K hK => ?_)
      go_simp
      refine hK _ ?_; clear hK K
      refine reg_quiet 4 rfl (by kernel_rfl) (fun K hK => ?_)
      go_simp
      refine hK _ ?_; clear hK K
      refine reg_quiet 5 rfl (by kernel_rfl) (fun K hK => ?_)
      go_simp
      refine hK _ ?_; clear hK K
      refine reg_quiet 6 rfl (by kernel_rfl) (fun K hK => ?_)
      go_simp
      refine hK _ ?_; clear hK K
      refine reg_quiet 8 rfl (by kernel_rfl) (fun K hK => ?_)
      go_simp
      refine hK _ ?_; clear hK K
      refine reg_turn 7 [8, 1, 0] rfl (by kernel_rfl) (by kernel_rfl) (fun K hK => ?_)
      refine step_append_row rfl _ _ 22 22 rfl rfl _ rfl (G2.out.keep fun _ _ => rfl) (by decide) i0 _ 1 Tryd.underlying22 HI.out.1 HI.out.2.1 HI.out.2.2.1 HI.out.2.2.2 rfl b.length _ (Bin.src (w := w1.drew) (Hbin.out.keep fun _ _ _ => rfl) Tryd.underlying22) (by unfold maxLen; omega) (by omega) ?_
      intro b' c' w2 hr2 hk2 hw2 _ _
      have Hr2 := Lib.hid hr2
      have Hk2 := Lib.hid hk2
      have Hw2 := Lib.hid hw2
      have hno : ∀ x, L.role x ≠ 6 + q → ¬ (Value.slice a1 (D.fs q).b.length cap1).ownBlock = some x := fun x hx e => hx ((H.out.file q Hq.out).2.2 x (by rw [Hv.out]; exact e))
      have hd2 := hk2.heap (b := L.d) H1.out.hd (hno _ (by rw [H.out.rd]; omega))
      have hq2 := hk2.heap (b := q) G1.out (hno _ (by rw [Hq.out]; omega))
      have z0 : w2.cell? ⟨x0, 0, none⟩ = some (.pointer (some ⟨L.d, 0, none⟩)) := hk2.cell y1 (hno _ (by rw [r0]; omega))
      have z1 : w2.cell? ⟨L.d, 1, none⟩ = some (.int .i64 D.clock) := by rw [cell_at hd2]; rfl
      have z2 : w2.frozen? ⟨L.d, 1, none⟩ = false := frozen_at hd2
      have z3 : w2.cell? ⟨q, 0, none⟩ = some (L.vs q) := by rw [cell_at hq2]; rfl
      have z4 : w2.frozen? ⟨q, 0, none⟩ = false := frozen_at hq2
      have z5 : w2.cell? ⟨q, 2, none⟩ = some (.int .i64 (D.fs q).time) := by rw [cell_at hq2]; rfl
      have z6 : w2.frozen? ⟨q, 2, none⟩ = false := frozen_at hq2
      have Hd2 := Lib.hid hd2
      have Hq2 := Lib.hid hq2
      have Hno := Lib.hid hno
      have hqd : q ≠ L.d := fun e => by have := Hq.out; rw [e, H.out.rd] at this; cases this
      clear hr2 hk2 hw2 hno hd2 hq2
      refine hK _ _ (StayOk.cons rfl (by go_simp) (StayOk.cons rfl (by go_simp) (StayOk.cons rfl (by go_simp) (StayOk.nil)))) ?_; clear hK K
      refine reg_turn 9 [1, 0] rfl (by kernel_rfl) (by kernel_rfl) (fun K hK => ?_)
      go_simp
      refine (tick_at L.d D.clock w2 hc0 (by omega) z1 z2).mono ?_
      rintro e w3 ⟨rfl, rfl⟩
      refine hK _ _ (StayOk.cons rfl (by go_simp) (StayOk.cons rfl (by go_simp) (StayOk.nil))) ?_; clear hK K
      refine reg_quiet 10 rfl (by kernel_rfl) (fun K hK => ?_)
      go_simp
      refine hK _ ?_; clear hK K
      refine reg_quiet 11 rfl (by kernel_rfl) (fun K hK => ?_)
      go_simp
      refine hK _ ?_; clear hK K
      refine reg_turn 12 [1] rfl (by kernel_rfl) (by kernel_rfl) (fun K hK => ?_)
      go_simp
      refine hK _ _ (StayOk.cons rfl (by go_simp) (StayOk.nil)) ?_; clear hK K
      refine reg_quiet 13 rfl (by kernel_rfl) (fun K hK => ?_)
      go_simp
      refine hK _ ?_; clear hK K
      refine reg_quiet 14 rfl (by kernel_rfl) (fun K hK => ?_)
      go_simp
      refine hK _ ?_; clear hK K
      refine reg_turn 15 [] rfl (by kernel_rfl) (by kernel_rfl) (fun K hK => ?_)
      go_simp
      refine hK _ _ (StayOk.nil) ?_; clear hK K
      refine reg_done (by kernel_rfl) ?_
      go_wp2_with fail
      go_ret
      have hown : ∀ x, (Value.slice b' ((D.fs q).b.length + b.length) c').ownBlock = some x → (L.vs q).ownBlock = some x ∨ w.heap.size ≤ x := fun x hx => by
        rcases Hw2.out x hx with h3 | h3
        · exact Or.inl (by rw [Hv.out]; exact h3)
        · exact Or.inr (Nat.le_trans hsz1 h3)
      have hne : ∀ x, (Value.slice b' ((D.fs q).b.length + b.length) c').ownBlock = some x → x ≠ L.d ∧ x ≠ q := fun x hx => by
        rcases hown x hx with h3 | h3
        · have := (H.out.file q Hq.out).2.2 x h3
          exact ⟨fun e => by rw [e, H.out.rd] at this; omega, fun e => by rw [e, Hq.out] at this; omega⟩
        · omega
      have hlen2 : ((D.fs q).b ++ b).length = (D.fs q).b.length + b.length := List.length_append
      refine Dealt.of (L' := L.turnF q (.slice b' ((D.fs q).b.length + b.length) c')) (c := 0) (D' := (D.tick).setF q ⟨(D.fs q).b ++ b, (D.fs q).sure, D.clock⟩) w.heap.size ((Hap.out _).trans (if_pos Hz.out)) rfl ?_ (Nat.le_refl _)
      refine file_set H.out Hq.out (f := ⟨(D.fs q).b ++ b, (D.fs q).sure, D.clock⟩) rfl (by show D.clock ≤ D.clock + 1; omega) ?_ ?_ ?_ ?_ hown ?_
      · refine ((((((Keeps.of_below Hb1w.out).mono (T := fun b => b = L.d ∨ b = q ∨ (L.vs q).ownBlock = some b) (fun _ _ h => h.elim)).drew).trans Hk2.out (fun x _ e => Or.inr (Or.inr (by rw [Hv.out]; exact e)))).setCell (p := ⟨L.d, 1, none⟩) (fun _ => Or.inl rfl) _).setCell (p := ⟨q, 0, none⟩) (fun _ => Or.inr (Or.inl rfl)) _).setCell (p := ⟨q, 2, none⟩) (fun _ => Or.inr (Or.inl rfl)) _
      · exact heap_setCell_of (heap_setCell_of (by rw [heap_setCell_at Hd2.out]; rfl) (Ne.symm hqd) _) (Ne.symm hqd) _
      · rw [heap_setCell_at (heap_setCell_at (heap_setCell_of Hq2.out hqd _) _)]; rfl
      · have hr := Hr2.out
        rw [← List.map_append, ← hlen2] at hr
        rw [← hlen2] at hne ⊢
        exact hr.keep fun x hx => (Below.heap_setCell _ _ _ _ (hne x hx).2).trans ((Below.heap_setCell _ _ _ _ (hne x hx).2).trans (Below.heap_setCell _ _ _ _ (hne x hx).1))
      · have hok := H.out.okb q Hq.out
        refine ⟨by show ((D.fs q).b ++ b).length ≤ 65536; omega, by show (D.fs q).sure ≤ ((D.fs q).b ++ b).length; omega, hc0, by show D.clock < D.clock + 1; omega⟩
    · have Hz := Lib.hid hz
      have hz1 : ((D.fits (bs name) ((D.fs q).b.length + b.length) : Int) == 0) = false := by simpa using hz
      have hz2 : ((D.fits (bs name) ((D.fs q).b.length + b.length) : Int) != 0) = true := by simpa using hz
      clear hz
      generalize hg : D.fits (bs name) ((D.fs q).b.length + b.length) = c at *
      clear hg
      go_enter Tryd.func49, Tryd.ntmps49
      go_wp2_with fail
      refine wp_region_reg (by kernel_rfl) (by kernel_rfl) ?_
      refine reg_quiet 0 rfl (by kernel_rfl) (fun K hK => ?_)
      go_simp
      refine hK _ ?_; clear hK K
      refine reg_quiet 1 rfl (by kernel_rfl) (fun K hK => ?_)
      go_simp
      refine hK _ ?_; clear hK K
      refine reg_quiet 2 rfl (by kernel_rfl) (fun K hK => ?_)
      go_simp
      refine hK _ ?_; clear hK K
      refine reg_quiet 3 rfl (by kernel_rfl) (fun K hK => ?_)
      go_simp
      refine hK _ ?_; clear hK K
      refine reg_quiet 4 rfl (by kernel_rfl) (fun K hK => ?_)
      go_simp
      refine hK _ ?_; clear hK K
      refine reg_quiet 5 rfl (by kernel_rfl) (fun K hK => ?_)
      go_simp
      refine hK _ ?_; clear hK K
      refine reg_quiet 6 rfl (by kernel_rfl) (fun K hK => ?_)
      go_simp
      refine hK _ ?_; clear hK K
      refine reg_done (by kernel_rfl) ?_
      go_wp2_with fail
      refine wp_region_reg (by kernel_rfl) (by kernel_rfl) ?_
      refine reg_quiet 0 rfl (by kernel_rfl) (fun K hK => ?_)
      go_simp
      refine hK _ ?_; clear hK K
      refine reg_quiet 1 rfl (by kernel_rfl) (fun K hK => ?_)
      go_simp
      refine hK _ ?_; clear hK K
      refine reg_quiet 2 rfl (by kernel_rfl) (fun K hK => ?_)
      go_simp
      refine hK _ ?_; clear hK K
      refine reg_quiet 3 rfl (by kernel_rfl) (fun K hK => ?_)
      go_simp
      refine hK _ ?_; clear hK K
      refine reg_quiet 4 rfl (by kernel_rfl) (fun K hK => ?_)
      go_simp
      refine hK _ ?_; clear hK K
      refine reg_quiet 5 rfl (by kernel_rfl) (fun K hK => ?_)
      go_simp
      refine hK _ ?_; clear hK K
      refine reg_quiet 6 rfl (by kernel_rfl) (fun K hK => ?_)
      go_simp
      refine hK _ ?_; clear hK K
      refine reg_quiet 7 rfl (by kernel_rfl) (fun K hK => ?_)
      go_simp
      refine hK _ ?_; clear hK K
      refine reg_quiet 8 rfl (by kernel_rfl) (fun K hK => ?_)
      go_simp
      refine hK _ ?_; clear hK K
      refine reg_quiet 9 rfl (by kernel_rfl) (fun K hK => ?_)
      go_simp
      refine hK _ ?_; clear hK K
      refine reg_turn 10 [] rfl (by kernel_rfl) (by kernel_rfl) (fun K hK => ?_)
      go_simp
      rw [show IntKind.i64.wrap (((D.fs q).b.length : Int) + b.length) = ((D.fs q).b.length : Int) + b.length from IntWalk.i64_in _ (by omega)]
      refine Hft.out.mono ?_
      rintro e w1 ⟨rfl, hb1⟩
      refine hK _ _ (StayOk.nil) ?_; clear hK K
      refine reg_quiet 11 rfl (by kernel_rfl) (fun K hK => ?_)
      go_simp
      refine hK _ ?_; clear hK K
      refine reg_done (by kernel_rfl) ?_
      go_wp2_with fail
      go_ret
      exact Dealt.of w.heap.size ((Hap.out _).trans (if_neg Hz.out)) rfl (step_below H.out (((Below.refl _ w).drew.drew).trans hb1)) (Nat.le_refl _)
theorem enter_append1 (args : Array Value) (w : World) : (callFunc 49 args).run Tryd.prog w = .ok (.enter 49 args) w := by kernel_rfl
set_option maxRecDepth 100000 in
theorem append_at (hR : RightOk) {w : World} {L : Lay} {D : PD} (h : DiskAt w L D) (hD : D.Ok) (hC : 0 ≤ D.deeds ∧ D.deeds < 1000000000000) (name : ByteArray) {bv : Value} {b : Bs} (hs : name.size ≤ 1000000) (hb : Bin w bv b) (hl : b.length ≤ 1000000) (hbo : b ≠ [] → ∀ q, bv.ownBlock = some q → q ≠ L.d) :
    Calls Tryd.prog 22 #[.pointer (some ⟨L.d, 0, none⟩), .string name, bv] w (Dealt w L fun p => D.deed (rightP name) fun D' => D'.append name b p) := by
  obtain ⟨a0, cap0, rfl⟩ : ∃ a cp, bv = .slice a b.length cp := by
    obtain ⟨a, cp, rfl, _⟩ := hb
    exact ⟨a, cp, rfl⟩
  have H := Lib.hid h
  have HD := Lib.hid hD
  have HC := Lib.hid hC
  have Hb := Lib.hid hb
  have Hbo := Lib.hid hbo
  have hdl := lt_of_heap h.hd
  clear h hD hC hb hbo
  go_enter Tryd.func22, Tryd.ntmps22
  go_wp2_with fail
  have x0 : ((((w.alloc (.cells #[.pointer (some ⟨L.d, 0, none⟩)] 25)).alloc (.cells #[.string name] 9)).alloc (.cells #[.slice a0 b.length cap0] 22)).alloc (.cells #[.string name] 9)).heap[w.heap.size]? = some (.cells #[.pointer (some ⟨L.d, 0, none⟩)] 25 (0, 0)) :=
    heap_alloc_of (heap_alloc_of (heap_alloc_of (heap_alloc_at rfl _) _) _) _
  have x1 : ((((w.alloc (.cells #[.pointer (some ⟨L.d, 0, none⟩)] 25)).alloc (.cells #[.string name] 9)).alloc (.cells #[.slice a0 b.length cap0] 22)).alloc (.cells #[.string name] 9)).heap[w.heap.size + 1]? = some (.cells #[.string name] 9 (0, 0)) :=
    heap_alloc_of (heap_alloc_of (heap_alloc_at (by simp) _) _) _
  have x2 : ((((w.alloc (.cells #[.pointer (some ⟨L.d, 0, none⟩)] 25)).alloc (.cells #[.string name] 9)).alloc (.cells #[.slice a0 b.length cap0] 22)).alloc (.cells #[.string name] 9)).heap[w.heap.size + 1 + 1]? = some (.cells #[.slice a0 b.length cap0] 22 (0, 0)) :=
    heap_alloc_of (heap_alloc_at (by simp) _) _
  have x3 : ((((w.alloc (.cells #[.pointer (some ⟨L.d, 0, none⟩)] 25)).alloc (.cells #[.string name] 9)).alloc (.cells #[.slice a0 b.length cap0] 22)).alloc (.cells #[.string name] 9)).heap[w.heap.size + 1 + 1 + 1]? = some (.cells #[.string name] 9 (0, 0)) :=
    heap_alloc_at (by simp) _
  have hbw : Below w.heap.size w ((((w.alloc (.cells #[.pointer (some ⟨L.d, 0, none⟩)] 25)).alloc (.cells #[.string name] 9)).alloc (.cells #[.slice a0 b.length cap0] 22)).alloc (.cells #[.string name] 9)) :=
    ((((Below.refl _ w).alloc (Nat.le_refl _) _).alloc (by simp) _).alloc (by simp; omega) _).alloc (by simp; omega) _
  refine (deed_at hR (H.out.below hbw) HD.out HC.out enter_append1 (ss := [name]) (Lst.new (vs := [.string name]) x3) (fun q hq => by have : w.heap.size + 1 + 1 + 1 = q := Option.some.inj hq; omega) (fun s hs' => by rw [List.mem_singleton.1 hs']; exact hs) (by simp) (g := fun D' p => D'.append name b p) (fun w1 hk1 h1 => ?_)).mono ?_
  · exact append1_at h1 HD.out.counted (hk1.one x0 (by omega)) (hk1.one x1 (by omega)) (hk1.one x2 (by omega)) (H.out.top _ (Nat.le_refl _)) hs ((Hb.out.keep fun q _ hq => hbw.block q hq).keepN fun hne q hq hlt => hk1.block q hlt (Hbo.out hne q hq)) hl
  · rintro e w1 hd
    obtain ⟨p, L1, rfl, hst, hp⟩ := Dealt.before (step_below H.out hbw) hd
    rw [show [name].all rightP = rightP name by simp] at hst ⊢
    go_wp2_with fail
    go_ret
    exact ⟨p, L1, rfl, hst, hp⟩
end Go.Proofs.YtbckbkcpfejllaaDoor
