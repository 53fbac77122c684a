/- The walk of cuts: what a restart keeps of a file. -/
import Derived.Test.YtbckbkcpfejllaaDoorDw14
namespace Go.Proofs.YtbckbkcpfejllaaDoor
open Go.RowKit Go.Maps Go.WideMaps

set_option maxRecDepth 100000 in
set_option maxHeartbeats 4000000 in
theorem cuts_at {w : World} {L : Lay} {D : PD} (h : DiskAt w L D) (hc0 : 0 ≤ D.clock) (hc1 : D.clock < 1000000000000) {q : Nat} (hq : L.role q = 3) {tail : Int} (ht0 : -9223372036854775808 ≤ tail) (ht1 : tail ≤ 9223372036854775807) :
    Calls Tryd.prog 59 #[.pointer (some ⟨L.d, 0, none⟩), .pointer (some ⟨q, 0, none⟩), .int .i64 tail] w fun e w' => e = .returned (.tuple #[]) ∧ ∃ L', Step w L w' L' (D.cuts q tail) := by
  obtain ⟨g1, g2, g3⟩ := h.file q hq
  obtain ⟨a1, cap1, hv⟩ := g2.slv
  have y0 : w.cell? ⟨q, 0, none⟩ = some (.slice a1 (D.fs q).b.length cap1) := by rw [cell_at g1, ← hv]; rfl
  have y1 : w.cell? ⟨q, 1, none⟩ = some (.int .i64 (D.fs q).sure) := by rw [cell_at g1]; rfl
  have y2 : w.cell? ⟨q, 2, none⟩ = some (.int .i64 (D.fs q).time) := by rw [cell_at g1]; rfl
  have f0 : w.frozen? ⟨q, 0, none⟩ = false := frozen_at g1
  have f1 : w.frozen? ⟨q, 1, none⟩ = false := frozen_at g1
  have f2 : w.frozen? ⟨q, 2, none⟩ = false := frozen_at g1
  have k1 := h.cell 1
  have k2 := h.free 1
  simp only [List.getElem?_toArray, List.getElem?_cons_zero, List.getElem?_cons_succ] at k1
  have hqd : q ≠ L.d := fun e => by rw [e, h.rd] at hq; cases hq
  have hok := h.okb q hq
  have hql := lt_of_heap g1
  have hdl := lt_of_heap h.hd
  have hb1 := hok.1
  have hb2 := hok.2.1
  have hform : a1 = none ∧ (D.fs q).b.length = 0 ∨ ∃ g, a1 = some ⟨g, 0, none⟩ ∧ (D.fs q).b.length ≤ cap1 ∧ cap1 ≤ maxLen := by
    have h2 := g2.2
    rw [hv] at h2
    rcases h2 with ⟨h1, h2⟩ | ⟨g, cap', cur, h1, hg, h2, h3, h4, h5⟩
    · injection h1 with e1 e2 e3
      exact Or.inl ⟨e1, h2⟩
    · injection h1 with e1 e2 e3
      subst e3
      exact Or.inr ⟨g, e1, h2, h4⟩
  unfold maxLen at hform
  have hn : IntKind.i64.wrap (((D.fs q).sure : Int) + min (max tail 0) (IntKind.i64.wrap (((D.fs q).b.length : Int) - (D.fs q).sure))) = (((D.fs q).sure + min (max tail 0).toNat ((D.fs q).b.length - (D.fs q).sure) : Nat) : Int) := by
    rw [IntWalk.i64_in (((D.fs q).b.length : Int) - (D.fs q).sure) (by omega), IntWalk.i64_in _ (by omega)]
    omega
  have hcut : D.cuts q tail = if (D.fs q).sure + min (max tail 0).toNat ((D.fs q).b.length - (D.fs q).sure) < (D.fs q).b.length then D.tick.setF q ⟨(D.fs q).b.take ((D.fs q).sure + min (max tail 0).toNat ((D.fs q).b.length - (D.fs q).sure)), (D.fs q).sure + min (max tail 0).toNat ((D.fs q).b.length - (D.fs q).sure), D.clock⟩ else D.setF q ⟨(D.fs q).b, (D.fs q).b.length, (D.fs q).time⟩ := rfl
  obtain ⟨n, hnn⟩ : ∃ n, (D.fs q).sure + min (max tail 0).toNat ((D.fs q).b.length - (D.fs q).sure) = n := ⟨_, rfl⟩
  have hn1 : (D.fs q).sure ≤ n := by omega
  have hn2 : n ≤ (D.fs q).b.length := by omega
  rw [hnn] at hn hcut
  have H := Lib.hid h
  have Hq := Lib.hid hq
  have Hg := Lib.hid (And.intro g1 (And.intro g2 g3))
  have Hv := Lib.hid hv
  have Hn := Lib.hid hn
  have Hcut := Lib.hid hcut
  have Hnn := Lib.hid hnn
  clear h hq g1 g2 g3 hv hok hn hcut hnn
  by_cases hlt : n < (D.fs q).b.length
  · obtain ⟨g, rfl, hc2, hc3⟩ : ∃ g, a1 = some ⟨g, 0, none⟩ ∧ (D.fs q).b.length ≤ cap1 ∧ cap1 ≤ 9223372036854775807 := by
      rcases hform with ⟨_, h0⟩ | h
      · omega
      · exact h
    have hkc : n ≤ cap1 := by omega
    have hfin : ∀ (w' : World), Keeps (fun b => b = L.d ∨ b = q) w w' → w'.heap[L.d]? = some (.cells #[.int .i64 D.quota, .int .i64 (D.clock + 1), .int .i64 D.deeds, .int .i64 D.armed, .bool D.down, .map (some L.mf), .map (some L.s6), L.pv] 68 (0, 0)) →
        w'.heap[q]? = some (.cells #[.slice (some ⟨g, 0, none⟩) n n, .int .i64 n, .int .i64 D.clock] 84 (0, 0)) → ∃ L', Step w L w' L' (D.cuts q tail) := fun w' hkp hd hqq => by
      obtain ⟨g1, g2, g3⟩ := Hg.out
      rw [Hv.out] at g2 g3
      have hlt2 : ((D.fs q).b.take n).length = n := by simp; omega
      refine ⟨L.turnF q (.slice (some ⟨g, 0, none⟩) n n), ?_⟩
      rw [Hcut.out, if_pos hlt]
      refine file_set H.out Hq.out (f := ⟨(D.fs q).b.take n, n, D.clock⟩) rfl (by show D.clock ≤ D.clock + 1; omega) (hkp.mono fun b _ hb => hb.imp_right Or.inl) hd hqq ?_ (fun x hx => Or.inl (by rw [Hv.out]; exact hx)) ⟨by show ((D.fs q).b.take n).length ≤ 65536; omega, by show n ≤ ((D.fs q).b.take n).length; omega, hc0, by show D.clock < D.clock + 1; omega⟩
      have hr := Row.head g2 rfl hn2
      unfold Bown
      rw [hlt2]
      refine hr.keep fun x hx => hkp.block x (hr.lt x hx) ?_
      have h6 := g3 x hx
      rintro (rfl | rfl)
      · rw [H.out.rd] at h6; omega
      · rw [Hq.out] at h6; omega
    have Hfin := Lib.hid hfin
    have hdc : decide ((n : Int) < ((D.fs q).b.length : Int)) = true := by simpa using hlt
    clear hfin hform
    go_enter Tryd.func59, Tryd.ntmps59
    go_wp2_with fail
    refine wp_region_reg (by kernel_rfl) (by kernel_rfl) ?_
    refine reg_quiet 0 rfl (by kernel_rfl) (fun K hK => ?_)
    go_simp
    refine hK _ ?_; clear hK K
    refine reg_quiet 1 rfl (by kernel_rfl) (fun K hK => ?_)
    go_simp
    refine hK _ ?_; clear hK K
    refine reg_quiet 2 rfl (by kernel_rfl) (fun K hK => ?_)
    go_simp
    refine hK _ ?_; clear hK K
    refine reg_quiet 3 rfl (by kernel_rfl) (fun K hK => ?_)
    go_simp
    refine hK _ ?_; clear hK K
    refine reg_quiet 4 rfl (by kernel_rfl) (fun K hK => ?_)
    go_simp
    refine hK _ ?_; clear hK K
    refine reg_quiet 5 rfl (by kernel_rfl) (fun K hK => ?_)
    go_simp
    refine hK _ ?_; clear hK K
    refine reg_quiet 6 rfl (by kernel_rfl) (fun K hK => ?_)
    go_simp
    refine hK _ ?_; clear hK K
    refine reg_quiet 7 rfl (by kernel_rfl) (fun K hK => ?_)
    go_simp
    refine hK _ ?_; clear hK K
    refine reg_quiet 8 rfl (by kernel_rfl) (fun K hK => ?_)
    go_simp
    refine hK _ ?_; clear hK K
    refine reg_quiet 9 rfl (by kernel_rfl) (fun K hK => ?_)
    go_simp
    refine hK _ ?_; clear hK K
    refine reg_quiet 10 rfl (by kernel_rfl) (fun K hK => ?_)
    go_simp
    refine hK _ ?_; clear hK K
    refine reg_quiet 11 rfl (by kernel_rfl) (fun K hK => ?_)
    go_simp
    refine hK _ ?_; clear hK K
    refine reg_quiet 12 rfl (by kernel_rfl) (fun K hK => ?_)
    go_simp
    refine hK _ ?_; clear hK K
    refine reg_quiet 13 rfl (by kernel_rfl) (fun K hK => ?_)
    go_simp
    refine hK _ ?_; clear hK K
    refine reg_quiet 14 rfl (by kernel_rfl) (fun K hK => ?_)
    go_simp
    refine hK _ ?_; clear hK K
    refine reg_quiet 15 rfl (by kernel_rfl) (fun K hK => ?_)
    go_simp
    refine hK _ ?_; clear hK K
    refine reg_quiet 16 rfl (by kernel_rfl) (fun K hK => ?_)
    go_simp
    refine hK _ ?_; clear hK K
    refine reg_quiet 17 rfl (by kernel_rfl) (fun K hK => ?_)
    go_simp
    refine hK _ ?_; clear hK K
    refine reg_quiet 18 rfl (by kernel_rfl) (fun K hK => ?_)
    go_simp
    refine hK _ ?_; clear hK K
    refine reg_done (by kernel_rfl) ?_
    rw [Hn.out]
    go_wp2_with fail
    refine wp_region_reg (by kernel_rfl) (by kernel_rfl) ?_
    refine reg_quiet 0 rfl (by kernel_rfl) (fun K hK => ?_)
    go_simp
    refine hK _ ?_; clear hK K
    refine reg_quiet 1 rfl (by kernel_rfl) (fun K hK => ?_)
    go_simp
    refine hK _ ?_; clear hK K
    refine reg_quiet 2 rfl (by kernel_rfl) (fun K hK => ?_)
    go_simp
    refine hK _ ?_; clear hK K
    refine reg_quiet 3 rfl (by kernel_rfl) (fun K hK => ?_)
    go_simp
    refine hK _ ?_; clear hK K
    refine reg_quiet 4 rfl (by kernel_rfl) (fun K hK => ?_)
    go_simp
    refine hK _ ?_; clear hK K
    refine reg_quiet 5 rfl (by kernel_rfl) (fun K hK => ?_)
    go_simp
    refine hK _ ?_; clear hK K
    refine reg_quiet 6 rfl (by kernel_rfl) (fun K hK => ?_)
    go_simp
    refine hK _ ?_; clear hK K
    refine reg_quiet 7 rfl (by kernel_rfl) (fun K hK => ?_)
    go_simp
    refine hK _ ?_; clear hK K
    refine reg_quiet 8 rfl (by kernel_rfl) (fun K hK => ?_)
    go_simp
    refine hK _ ?_; clear hK K
    refine reg_quiet 9 rfl (by kernel_rfl) (fun K hK => ?_)
    go_simp
    refine hK _ ?_; clear hK K
    refine reg_turn 10 [8, 7, 6, 5, 4, 3, 2, 1, 0] rfl (by kernel_rfl) (by kernel_rfl) (fun K hK => ?_)
    go_simp
    refine (tick_at L.d D.clock w.drew.drew hc0 (by omega) k1 k2).mono ?_
    rintro e w3 ⟨rfl, rfl⟩
    refine hK _ _ (StayOk.cons rfl (by go_simp) (StayOk.cons rfl (by go_simp) (StayOk.cons rfl (by go_simp) (StayOk.cons rfl (by go_simp) (StayOk.cons rfl (by go_simp) (StayOk.cons rfl (by go_simp) (StayOk.cons rfl (by go_simp) (StayOk.cons rfl (by go_simp) (StayOk.cons rfl (by go_simp) (StayOk.nil)))))))))) ?_; clear hK K
    refine reg_quiet 11 rfl (by kernel_rfl) (fun K hK => ?_)
    go_simp
    refine hK _ ?_; clear hK K
    refine reg_quiet 12 rfl (by kernel_rfl) (fun K hK => ?_)
    go_simp
    refine hK _ ?_; clear hK K
    refine reg_turn 13 [1] rfl (by kernel_rfl) (by kernel_rfl) (fun K hK => ?_)
    go_simp
    refine hK _ _ (StayOk.cons rfl (by go_simp) (StayOk.nil)) ?_; clear hK K
    refine reg_quiet 14 rfl (by kernel_rfl) (fun K hK => ?_)
    go_simp
    refine hK _ ?_; clear hK K
    refine reg_quiet 15 rfl (by kernel_rfl) (fun K hK => ?_)
    go_simp
    refine hK _ ?_; clear hK K
    refine reg_turn 16 [] rfl (by kernel_rfl) (by kernel_rfl) (fun K hK => ?_)
    go_simp
    refine hK _ _ (StayOk.nil) ?_; clear hK K
    refine reg_done (by kernel_rfl) ?_
    go_wp2_with fail
    go_end0
    refine ⟨rfl, Hfin.out _ ((((((Keeps.refl (fun b => b = L.d ∨ b = q) w).drew.drew).setCell (p := ⟨L.d, 1, none⟩) (fun _ => Or.inl rfl) _).setCell (p := ⟨q, 0, none⟩) (fun _ => Or.inr rfl) _).setCell (p := ⟨q, 2, none⟩) (fun _ => Or.inr rfl) _).setCell (p := ⟨q, 1, none⟩) (fun _ => Or.inr rfl) _) (heap_setCell_of (heap_setCell_of (heap_setCell_of (by rw [heap_setCell_at H.out.hd]; rfl) (Ne.symm hqd) _) (Ne.symm hqd) _) (Ne.symm hqd) _) ?_⟩
    refine (heap_setCell_at (heap_setCell_at (heap_setCell_at (heap_setCell_of Hg.out.1 hqd _) _) _) _).trans ?_
    rfl
  · obtain rfl : n = (D.fs q).b.length := by omega
    have hdc : decide (((D.fs q).b.length : Int) < ((D.fs q).b.length : Int)) = false := by simp
    have hst : ∃ L', Step w L (w.drew.setCell ⟨q, 1, none⟩ (.int .i64 (D.fs q).b.length)) L' (D.cuts q tail) := by
      obtain ⟨g1, g2, g3⟩ := Hg.out
      have hok := H.out.okb q Hq.out
      refine ⟨L.turnF q (L.vs q), ?_⟩
      rw [Hcut.out, if_neg (Nat.lt_irrefl _)]
      refine file_set H.out Hq.out (f := ⟨(D.fs q).b, (D.fs q).b.length, (D.fs q).time⟩) rfl (Int.le_refl _) ((Keeps.refl _ w).drew.setCell (p := ⟨q, 1, none⟩) (fun _ => Or.inr (Or.inl rfl)) _) (heap_setCell_of H.out.hd (Ne.symm hqd) _) (by refine (heap_setCell_at (w := w.drew) g1 _).trans ?_; rfl) (g2.keep fun x hx => Below.heap_setCell _ _ _ _ ?_) (fun x hx => Or.inl hx) ⟨hok.1, Nat.le_refl _, hok.2.2⟩
      have := g3 x hx
      exact fun e => by rw [e, Hq.out] at this; omega
    have Hst := Lib.hid hst
    clear hst hform
    go_enter Tryd.func59, Tryd.ntmps59
    go_wp2_with fail
    refine wp_region_reg (by kernel_rfl) (by kernel_rfl) ?_
    refine reg_quiet 0 rfl (by kernel_rfl) (fun K hK => ?_)
    go_simp
    refine hK _ ?_; clear hK K
    refine reg_quiet 1 rfl (by kernel_rfl) (fun K hK => ?_)
    go_simp
    refine hK _ ?_; clear hK K
    refine reg_quiet 2 rfl (by kernel_rfl) (fun K hK => ?_)
    go_simp
    refine hK _ ?_; clear hK K
    refine reg_quiet 3 rfl (by kernel_rfl) (fun K hK => ?_)
    go_simp
    refine hK _ ?_; clear hK K
    refine reg_quiet 4 rfl (by kernel_rfl) (fun K hK => ?_)
    go_simp
    refine hK _ ?_; clear hK K
    refine reg_quiet 5 rfl (by kernel_rfl) (fun K hK => ?_)
    go_simp
    refine hK _ ?_; clear hK K
    refine reg_quiet 6 rfl (by kernel_rfl) (fun K hK => ?_)
    go_simp
    refine hK _ ?_; clear hK K
    refine reg_quiet 7 rfl (by kernel_rfl) (fun K hK => ?_)
    go_simp
    refine hK _ ?_; clear hK K
    refine reg_quiet 8 rfl (by kernel_rfl) (fun K hK => ?_)
    go_simp
    refine hK _ ?_; clear hK K
    refine reg_quiet 9 rfl (by kernel_rfl) (fun K hK => ?_)
    go_simp
    refine hK _ ?_; clear hK K
    refine reg_quiet 10 rfl (by kernel_rfl) (fun K hK => ?_)
    go_simp
    refine hK _ ?_; clear hK K
    refine reg_quiet 11 rfl (by kernel_rfl) (fun K hK => ?_)
    go_simp
    refine hK _ ?_; clear hK K
    refine reg_quiet 12 rfl (by kernel_rfl) (fun K hK => ?_)
    go_simp
    refine hK _ ?_; clear hK K
    refine reg_quiet 13 rfl (by kernel_rfl) (fun K hK => ?_)
    go_simp
    refine hK _ ?_; clear hK K
    refine reg_quiet 14 rfl (by kernel_rfl) (fun K hK => ?_)
    go_simp
    refine hK _ ?_; clear hK K
    refine reg_quiet 15 rfl (by kernel_rfl) (fun K hK => ?_)
    go_simp
    refine hK _ ?_; clear hK K
    refine reg_quiet 16 rfl (by kernel_rfl) (fun K hK => ?_)
    go_simp
    refine hK _ ?_; clear hK K
    refine reg_quiet 17 rfl (by kernel_rfl) (fun K hK => ?_)
    go_simp
    refine hK _ ?_; clear hK K
    refine reg_quiet 18 rfl (by kernel_rfl) (fun K hK => ?_)
    go_simp
    refine hK _ ?_; clear hK K
    refine reg_done (by kernel_rfl) ?_
    rw [Hn.out]
    go_wp2_with fail
    go_end0
    exact ⟨rfl, Hst.out⟩
end Go.Proofs.YtbckbkcpfejllaaDoor
