/- The walks of Cut. -/
import Derived.Test.YtbckbkcpfejllaaDoorDw12
namespace Go.Proofs.YtbckbkcpfejllaaDoor
open Go.RowKit Go.Maps Go.WideMaps

theorem enter_cut1 (args : Array Value) (w : World) : (callFunc 72 args).run Tryd.prog w = .ok (.enter 72 args) w := by kernel_rfl

theorem own_slice (a : Option Addr) (n c n' c' : Nat) : (Value.slice a n c).ownBlock = (Value.slice a n' c').ownBlock := by cases a <;> rfl
/-- A row's beginning, in the same array. -/
theorem Row.head {w : World} {e : TypeId} {a : Option Addr} {n cap : Nat} {xs : Bs} (h : Row w e 1 (.slice a n cap) n (xs.map byteV)) (hn : n = xs.length) {m : Nat} (hm : m ≤ xs.length) : Row w e 1 (.slice a m m) m ((xs.take m).map byteV) := by
  refine ⟨by simp; omega, ?_⟩
  rcases h.2 with ⟨h1, h2⟩ | ⟨g, cap', cur, h1, hg, h2, h3, h4, h5⟩
  · injection h1 with e1 e2 e3
    subst e1
    have : m = 0 := by omega
    subst this
    exact Or.inl ⟨rfl, rfl⟩
  · injection h1 with e1 e2 e3
    subst e1 e3
    refine Or.inr ⟨g, m, cur, rfl, hg, Nat.le_refl _, by omega, by omega, ?_⟩
    rw [List.map_take, ← h5, List.take_take]
    congr 1
    omega

set_option maxRecDepth 100000 in
set_option maxHeartbeats 4000000 in
theorem cut1_at {w : World} {L : Lay} {D : PD} (h : DiskAt w L D) (hD : D.Ok) {q : Nat} (hq : L.role q = 3) {x0 x1 : Nat} {m : Int} (hm0 : -9223372036854775808 ≤ m) (hm1 : m ≤ 9223372036854775807) (c0 : w.cell? ⟨x0, 0, none⟩ = some (.pointer (some ⟨L.d, 0, none⟩))) (c1 : w.cell? ⟨x1, 0, none⟩ = some (.int .i64 m)) (r0 : L.role x0 = 0) (r1 : L.role x1 = 0) :
    Calls Tryd.prog 72 #[.pointer (some ⟨q, 0, none⟩), .pointer (some ⟨x1, 0, none⟩), .pointer (some ⟨x0, 0, none⟩)] w (Dealt w L fun _ => D.cutAt q m) := by
  obtain ⟨g1, g2, g3⟩ := h.file q hq
  obtain ⟨a1, cap1, hv⟩ := g2.slv
  have y0 : w.cell? ⟨q, 0, none⟩ = some (.slice a1 (D.fs q).b.length cap1) := by rw [cell_at g1, ← hv]; rfl
  have y1 : w.cell? ⟨q, 1, none⟩ = some (.int .i64 (D.fs q).sure) := by rw [cell_at g1]; rfl
  have y2 : w.cell? ⟨q, 2, none⟩ = some (.int .i64 (D.fs q).time) := by rw [cell_at g1]; rfl
  have f0 : w.frozen? ⟨q, 0, none⟩ = false := frozen_at g1
  have f1 : w.frozen? ⟨q, 1, none⟩ = false := frozen_at g1
  have f2 : w.frozen? ⟨q, 2, none⟩ = false := frozen_at g1
  have k1 := h.cell 1
  have k2 := h.free 1
  simp only [List.getElem?_toArray, List.getElem?_cons_zero, List.getElem?_cons_succ] at k1
  have hqd : q ≠ L.d := fun e => by rw [e, h.rd] at hq; cases hq
  have hx0q : x0 ≠ q := fun e => by rw [e, hq] at r0; cases r0
  have hx1q : x1 ≠ q := fun e => by rw [e, hq] at r1; cases r1
  have hx0d : x0 ≠ L.d := fun e => by rw [e, h.rd] at r0; cases r0
  have hx1d : x1 ≠ L.d := fun e => by rw [e, h.rd] at r1; cases r1
  have hok := h.okb q hq
  have hql := lt_of_heap g1
  have hdl := lt_of_heap h.hd
  have hc0 := hD.c0
  have hc1 := hD.c1
  have H := Lib.hid h
  have Hq := Lib.hid hq
  have Hg := Lib.hid (And.intro g1 (And.intro g2 g3))
  have Hv := Lib.hid hv
  have hlen : D.len q = ((D.fs q).b.length : Int) := rfl
  clear h hD hq g1 g2 g3 hv
  have hst : Step w L w.drew L D := step_keep H.out ((Keeps.refl (fun _ => False) w).drew) (fun _ _ _ h => h) (fun _ _ h => h)
  have Hst := Lib.hid hst
  clear hst
  by_cases hneg : m < 0
  · have hd0 : decide (m < 0) = true := by simpa using hneg
    have Hlen := Lib.hid hlen
    clear hlen
    go_enter Tryd.func72, Tryd.ntmps72
    go_wp2_with fail
    refine wp_region_reg (by kernel_rfl) (by kernel_rfl) ?_
    refine reg_quiet 0 rfl (by kernel_rfl) (fun K hK => ?_)
    go_simp
    refine hK _ ?_; clear hK K
    refine reg_quiet 1 rfl (by kernel_rfl) (fun K hK => ?_)
    go_simp
    refine hK _ ?_; clear hK K
    refine reg_quiet 2 rfl (by kernel_rfl) (fun K hK => ?_)
    go_simp
    refine hK _ ?_; clear hK K
    refine reg_quiet 3 rfl (by kernel_rfl) (fun K hK => ?_)
    go_simp
    refine hK _ ?_; clear hK K
    refine reg_quiet 4 rfl (by kernel_rfl) (fun K hK => ?_)
    go_simp
    refine hK _ ?_; clear hK K
    refine reg_quiet 5 rfl (by kernel_rfl) (fun K hK => ?_)
    go_simp
    refine hK _ ?_; clear hK K
    refine reg_quiet 6 rfl (by kernel_rfl) (fun K hK => ?_)
    go_simp
    refine hK _ ?_; clear hK K
    refine reg_quiet 7 rfl (by kernel_rfl) (fun K hK => ?_)
    go_simp
    refine hK _ ?_; clear hK K
    refine reg_quiet 8 rfl (by kernel_rfl) (fun K hK => ?_)
    go_simp
    refine hK _ ?_; clear hK K
    refine reg_quiet 9 rfl (by kernel_rfl) (fun K hK => ?_)
    go_simp
    refine hK _ ?_; clear hK K
    refine reg_quiet 10 rfl (by kernel_rfl) (fun K hK => ?_)
    go_simp
    refine hK _ ?_; clear hK K
    refine reg_done (by kernel_rfl) ?_
    go_wp2_with fail
    go_ret
    exact Dealt.of (c := 1) (D' := D) w.heap.size (show D.cutAt q m = (1, D) from if_pos (Or.inl hneg)) rfl Hst.out (Nat.le_refl _)
  · have hd0 : decide (m < 0) = false := by simpa using hneg
    by_cases hbig : ((D.fs q).b.length : Int) < m
    · have hd1 : decide (((D.fs q).b.length : Int) < m) = true := by simpa using hbig
      have Hlen := Lib.hid hlen
      clear hlen
      go_enter Tryd.func72, Tryd.ntmps72
      go_wp2_with fail
      refine wp_region_reg (by kernel_rfl) (by kernel_rfl) ?_
      refine reg_quiet 0 rfl (by kernel_rfl) (fun K hK => ?_)
      go_simp
      refine hK _ ?_; clear hK K
      refine reg_quiet 1 rfl (by kernel_rfl) (fun K hK => ?_)
      go_simp
      refine hK _ ?_; clear hK K
      refine reg_quiet 2 rfl (by kernel_rfl) (fun K hK => ?_)
      go_simp
      refine hK _ ?_; clear hK K
      refine reg_quiet 3 rfl (by kernel_rfl) (fun K hK => ?_)
      go_simp
      refine hK _ ?_; clear hK K
      refine reg_quiet 4 rfl (by kernel_rfl) (fun K hK => ?_)
      go_simp
      refine hK _ ?_; clear hK K
      refine reg_quiet 5 rfl (by kernel_rfl) (fun K hK => ?_)
      go_simp
      refine hK _ ?_; clear hK K
      refine reg_quiet 6 rfl (by kernel_rfl) (fun K hK => ?_)
      go_simp
      refine hK _ ?_; clear hK K
      refine reg_quiet 7 rfl (by kernel_rfl) (fun K hK => ?_)
      go_simp
      refine hK _ ?_; clear hK K
      refine reg_quiet 8 rfl (by kernel_rfl) (fun K hK => ?_)
      go_simp
      refine hK _ ?_; clear hK K
      refine reg_quiet 9 rfl (by kernel_rfl) (fun K hK => ?_)
      go_simp
      refine hK _ ?_; clear hK K
      refine reg_quiet 10 rfl (by kernel_rfl) (fun K hK => ?_)
      go_simp
      refine hK _ ?_; clear hK K
      refine reg_done (by kernel_rfl) ?_
      go_wp2_with fail
      go_ret
      exact Dealt.of (c := 1) (D' := D) w.heap.size (show D.cutAt q m = (1, D) from if_pos (Or.inr (by rw [Hlen.out]; exact hbig))) rfl Hst.out (Nat.le_refl _)
    · have hd1 : decide (((D.fs q).b.length : Int) < m) = false := by simpa using hbig
      obtain ⟨k, rfl⟩ : ∃ k : Nat, m = k := ⟨m.toNat, by omega⟩
      have hk : k ≤ (D.fs q).b.length := by omega
      have hif : D.cutAt q k = (0, D.tick.setF q ⟨(D.fs q).b.take k, min (D.fs q).sure k, D.clock⟩) := by
        unfold PD.cutAt; rw [if_neg (by rw [hlen]; omega)]; rfl
      have Hif := Lib.hid hif
      have hform : (a1 = none ∧ (D.fs q).b.length = 0 ∧ cap1 = 0) ∨ ∃ g, a1 = some ⟨g, 0, none⟩ ∧ (D.fs q).b.length ≤ cap1 ∧ cap1 ≤ maxLen := by
        have h2 := Hg.out.2.1.2
        rw [Hv.out] at h2
        rcases h2 with ⟨h1, h2⟩ | ⟨g, cap', cur, h1, hg, h2, h3, h4, h5⟩
        · injection h1 with e1 e2 e3
          exact Or.inl ⟨e1, h2, e3⟩
        · injection h1 with e1 e2 e3
          subst e3
          exact Or.inr ⟨g, e1, h2, h4⟩
      unfold maxLen at hform
      clear hlen hbig hneg hif
      have hfin : ∀ (w' : World) (v : Value), Keeps (fun b => b = L.d ∨ b = q) w w' → w'.heap[L.d]? = some (.cells #[.int .i64 D.quota, .int .i64 (D.clock + 1), .int .i64 D.deeds, .int .i64 D.armed, .bool D.down, .map (some L.mf), .map (some L.s6), L.pv] 68 (0, 0)) →
          w'.heap[q]? = some (.cells #[.slice a1 k k, .int .i64 (min (D.fs q).sure k : Nat), .int .i64 D.clock] 84 (0, 0)) → Dealt w L (fun _ => D.cutAt q k) (.returned (.int .i64 0)) w' := fun w' _ hkp hd hqq => by
        obtain ⟨g1, g2, g3⟩ := Hg.out
        rw [Hv.out] at g2 g3
        have hlt : ((D.fs q).b.take k).length = k := by simp; omega
        refine Dealt.of (c := 0) (D' := D.tick.setF q ⟨(D.fs q).b.take k, min (D.fs q).sure k, D.clock⟩) (L' := L.turnF q (.slice a1 k k)) w.heap.size Hif.out rfl ?_ (Nat.le_refl _)
        refine file_set H.out Hq.out (f := ⟨(D.fs q).b.take k, min (D.fs q).sure k, D.clock⟩) rfl (by show D.clock ≤ D.clock + 1; omega) (hkp.mono fun b _ hb => hb.imp_right Or.inl) hd hqq ?_ (fun x hx => Or.inl (by rw [Hv.out, own_slice a1 _ cap1 k k]; exact hx)) ⟨by show ((D.fs q).b.take k).length ≤ 65536; omega, by show min (D.fs q).sure k ≤ ((D.fs q).b.take k).length; omega, hc0, by show D.clock < D.clock + 1; omega⟩
        have hr := Row.head g2 rfl hk
        unfold Bown
        rw [hlt]
        refine hr.keep fun x hx => hkp.block x (hr.lt x hx) ?_
        have h6 := g3 x ((own_slice a1 _ cap1 k k).trans hx)
        rintro (rfl | rfl)
        · rw [H.out.rd] at h6; omega
        · rw [Hq.out] at h6; omega
      have Hfin := Lib.hid hfin
      clear hfin
      rcases hform with ⟨rfl, hn0, rfl⟩ | ⟨g, rfl, hn1, hn2⟩
      · obtain rfl : k = 0 := by omega
        have c1 : w.cell? ⟨x1, 0, none⟩ = some (.int .i64 0) := c1
        have hd0 : decide ((0 : Int) < 0) = false := rfl
        have hs0 : (D.fs q).sure = 0 := by omega
        rw [hs0] at y1
        have y1 : w.cell? ⟨q, 1, none⟩ = some (.int .i64 0) := y1
        have y0 : w.cell? ⟨q, 0, none⟩ = some (.slice none 0 0) := by rw [hn0] at y0; exact y0
        have hd1 : decide ((0 : Int) < 0) = false := rfl
        have Hn0 := Lib.hid hn0
        have Hs0 := Lib.hid hs0
        clear hn0 hs0 hk hok
        go_enter Tryd.func72, Tryd.ntmps72
        go_wp2_with fail
        refine wp_region_reg (by kernel_rfl) (by kernel_rfl) ?_
        refine reg_quiet 0 rfl (by kernel_rfl) (fun K hK => ?_)
        go_simp
        refine hK _ ?_; clear hK K
        refine reg_quiet 1 rfl (by kernel_rfl) (fun K hK => ?_)
        go_simp
        refine hK _ ?_; clear hK K
        refine reg_quiet 2 rfl (by kernel_rfl) (fun K hK => ?_)
        go_simp
        refine hK _ ?_; clear hK K
        refine reg_quiet 3 rfl (by kernel_rfl) (fun K hK => ?_)
        go_simp
        refine hK _ ?_; clear hK K
        refine reg_quiet 4 rfl (by kernel_rfl) (fun K hK => ?_)
        go_simp
        refine hK _ ?_; clear hK K
        refine reg_quiet 5 rfl (by kernel_rfl) (fun K hK => ?_)
        go_simp
        refine hK _ ?_; clear hK K
        refine reg_quiet 6 rfl (by kernel_rfl) (fun K hK => ?_)
        go_simp
        refine hK _ ?_; clear hK K
        refine reg_quiet 7 rfl (by kernel_rfl) (fun K hK => ?_)
        go_simp
        refine hK _ ?_; clear hK K
        refine reg_quiet 8 rfl (by kernel_rfl) (fun K hK => ?_)
        go_simp
        refine hK _ ?_; clear hK K
        refine reg_quiet 9 rfl (by kernel_rfl) (fun K hK => ?_)
        go_simp
        refine hK _ ?_; clear hK K
        refine reg_quiet 10 rfl (by kernel_rfl) (fun K hK => ?_)
        go_simp
        refine hK _ ?_; clear hK K
        refine reg_done (by kernel_rfl) ?_
        go_wp2_with fail
        refine wp_region_reg (by kernel_rfl) (by kernel_rfl) ?_
        refine reg_quiet 0 rfl (by kernel_rfl) (fun K hK => ?_)
        go_simp
        refine hK _ ?_; clear hK K
        refine reg_quiet 1 rfl (by kernel_rfl) (fun K hK => ?_)
        go_simp
        refine hK _ ?_; clear hK K
        refine reg_quiet 2 rfl (by kernel_rfl) (fun K hK => ?_)
        go_simp
        refine hK _ ?_; clear hK K
        refine reg_quiet 3 rfl (by kernel_rfl) (fun K hK => ?_)
        go_simp
        refine hK _ ?_; clear hK K
        refine reg_quiet 4 rfl (by kernel_rfl) (fun K hK => ?_)
        go_simp
        refine hK _ ?_; clear hK K
        refine reg_quiet 5 rfl (by kernel_rfl) (fun K hK => ?_)
        go_simp
        refine hK _ ?_; clear hK K
        refine reg_quiet 6 rfl (by kernel_rfl) (fun K hK => ?_)
        go_simp
        refine hK _ ?_; clear hK K
        refine reg_quiet 7 rfl (by kernel_rfl) (fun K hK => ?_)
        go_simp
        refine hK _ ?_; clear hK K
        refine reg_quiet 8 rfl (by kernel_rfl) (fun K hK => ?_)
        go_simp
        refine hK _ ?_; clear hK K
        refine reg_quiet 9 rfl (by kernel_rfl) (fun K hK => ?_)
        go_simp
        refine hK _ ?_; clear hK K
        refine reg_quiet 10 rfl (by kernel_rfl) (fun K hK => ?_)
        go_simp
        refine hK _ ?_; clear hK K
        refine reg_quiet 11 rfl (by kernel_rfl) (fun K hK => ?_)
        go_simp
        refine hK _ ?_; clear hK K
        refine reg_quiet 12 rfl (by kernel_rfl) (fun K hK => ?_)
        go_simp
        refine hK _ ?_; clear hK K
        refine reg_quiet 13 rfl (by kernel_rfl) (fun K hK => ?_)
        go_simp
        refine hK _ ?_; clear hK K
        refine reg_quiet 14 rfl (by kernel_rfl) (fun K hK => ?_)
        go_simp
        refine hK _ ?_; clear hK K
        refine reg_quiet 15 rfl (by kernel_rfl) (fun K hK => ?_)
        go_simp
        refine hK _ ?_; clear hK K
        refine reg_quiet 16 rfl (by kernel_rfl) (fun K hK => ?_)
        go_simp
        refine hK _ ?_; clear hK K
        refine reg_turn 17 [15, 14, 13, 12, 11, 10, 9, 8, 7, 6, 5, 4, 3, 2, 1, 0] rfl (by kernel_rfl) (by kernel_rfl) (fun K hK => ?_)
        go_simp
        refine (tick_at L.d D.clock w.drew.drew hc0 (by omega) k1 k2).mono ?_
        rintro e w3 ⟨rfl, rfl⟩
        refine hK _ _ (StayOk.cons rfl (by go_simp) (StayOk.cons rfl (by go_simp) (StayOk.cons rfl (by go_simp) (StayOk.cons rfl (by go_simp) (StayOk.cons rfl (by go_simp) (StayOk.cons rfl (by go_simp) (StayOk.cons rfl (by go_simp) (StayOk.cons rfl (by go_simp) (StayOk.cons rfl (by go_simp) (StayOk.cons rfl (by go_simp) (StayOk.cons rfl (by go_simp) (StayOk.cons rfl (by go_simp) (StayOk.cons rfl (by go_simp) (StayOk.cons rfl (by go_simp) (StayOk.cons rfl (by go_simp) (StayOk.cons rfl (by go_simp) (StayOk.nil))))))))))))))))) ?_; clear hK K
        refine reg_quiet 18 rfl (by kernel_rfl) (fun K hK => ?_)
        go_simp
        refine hK _ ?_; clear hK K
        refine reg_quiet 19 rfl (by kernel_rfl) (fun K hK => ?_)
        go_simp
        refine hK _ ?_; clear hK K
        refine reg_turn 20 [15, 14, 2, 1] rfl (by kernel_rfl) (by kernel_rfl) (fun K hK => ?_)
        go_simp
        refine hK _ _ (StayOk.cons rfl (by go_simp) (StayOk.cons rfl (by go_simp) (StayOk.cons rfl (by go_simp) (StayOk.cons rfl (by go_simp) (StayOk.nil))))) ?_; clear hK K
        refine reg_quiet 21 rfl (by kernel_rfl) (fun K hK => ?_)
        go_simp
        refine hK _ ?_; clear hK K
        refine reg_quiet 22 rfl (by kernel_rfl) (fun K hK => ?_)
        go_simp
        refine hK _ ?_; clear hK K
        refine reg_turn 23 [2] rfl (by kernel_rfl) (by kernel_rfl) (fun K hK => ?_)
        go_simp
        refine hK _ _ (StayOk.cons rfl (by go_simp) (StayOk.nil)) ?_; clear hK K
        refine reg_quiet 24 rfl (by kernel_rfl) (fun K hK => ?_)
        go_simp
        refine hK _ ?_; clear hK K
        refine reg_quiet 25 rfl (by kernel_rfl) (fun K hK => ?_)
        go_simp
        refine hK _ ?_; clear hK K
        refine reg_turn 26 [] rfl (by kernel_rfl) (by kernel_rfl) (fun K hK => ?_)
        go_simp
        refine hK _ _ (StayOk.nil) ?_; clear hK K
        refine reg_done (by kernel_rfl) ?_
        go_wp2_with fail
        go_ret
        refine Hfin.out _ (.slice none 0 0) ((((((Keeps.refl (fun b => b = L.d ∨ b = q) w).drew.drew).setCell (p := ⟨L.d, 1, none⟩) (fun _ => Or.inl rfl) _).setCell (p := ⟨q, 0, none⟩) (fun _ => Or.inr rfl) _).setCell (p := ⟨q, 1, none⟩) (fun _ => Or.inr rfl) _).setCell (p := ⟨q, 2, none⟩) (fun _ => Or.inr rfl) _) (heap_setCell_of (heap_setCell_of (heap_setCell_of (by rw [heap_setCell_at H.out.hd]; rfl) (Ne.symm hqd) _) (Ne.symm hqd) _) (Ne.symm hqd) _) ?_
        rw [show min (D.fs q).sure 0 = 0 by omega]
        refine (heap_setCell_at (heap_setCell_at (heap_setCell_at (heap_setCell_of Hg.out.1 hqd _) _) _) _).trans ?_
        rfl
      · have hkc : k ≤ cap1 := by omega
        go_enter Tryd.func72, Tryd.ntmps72
        go_wp2_with fail
        refine wp_region_reg (by kernel_rfl) (by kernel_rfl) ?_
        refine reg_quiet 0 rfl (by kernel_rfl) (fun K hK => ?_)
        go_simp
        refine hK _ ?_; clear hK K
        refine reg_quiet 1 rfl (by kernel_rfl) (fun K hK => ?_)
        go_simp
        refine hK _ ?_; clear hK K
        refine reg_quiet 2 rfl (by kernel_rfl) (fun K hK => ?_)
        go_simp
        refine hK _ ?_; clear hK K
        refine reg_quiet 3 rfl (by kernel_rfl) (fun K hK => ?_)
        go_simp
        refine hK _ ?_; clear hK K
        refine reg_quiet 4 rfl (by kernel_rfl) (fun K hK => ?_)
        go_simp
        refine hK _ ?_; clear hK K
        refine reg_quiet 5 rfl (by kernel_rfl) (fun K hK => ?_)
        go_simp
        refine hK _ ?_; clear hK K
        refine reg_quiet 6 rfl (by kernel_rfl) (fun K hK => ?_)
        go_simp
        refine hK _ ?_; clear hK K
        refine reg_quiet 7 rfl (by kernel_rfl) (fun K hK => ?_)
        go_simp
        refine hK _ ?_; clear hK K
        refine reg_quiet 8 rfl (by kernel_rfl) (fun K hK => ?_)
        go_simp
        refine hK _ ?_; clear hK K
        refine reg_quiet 9 rfl (by kernel_rfl) (fun K hK => ?_)
        go_simp
        refine hK _ ?_; clear hK K
        refine reg_quiet 10 rfl (by kernel_rfl) (fun K hK => ?_)
        go_simp
        refine hK _ ?_; clear hK K
        refine reg_done (by kernel_rfl) ?_
        go_wp2_with fail
        refine wp_region_reg (by kernel_rfl) (by kernel_rfl) ?_
        refine reg_quiet 0 rfl (by kernel_rfl) (fun K hK => ?_)
        go_simp
        refine hK _ ?_; clear hK K
        refine reg_quiet 1 rfl (by kernel_rfl) (fun K hK => ?_)
        go_simp
        refine hK _ ?_; clear hK K
        refine reg_quiet 2 rfl (by kernel_rfl) (fun K hK => ?_)
        go_simp
        refine hK _ ?_; clear hK K
        refine reg_quiet 3 rfl (by kernel_rfl) (fun K hK => ?_)
        go_simp
        refine hK _ ?_; clear hK K
        refine reg_quiet 4 rfl (by kernel_rfl) (fun K hK => ?_)
        go_simp
        refine hK _ ?_; clear hK K
        refine reg_quiet 5 rfl (by kernel_rfl) (fun K hK => ?_)
        go_simp
        refine hK _ ?_; clear hK K
        refine reg_quiet 6 rfl (by kernel_rfl) (fun K hK => ?_)
        go_simp
        refine hK _ ?_; clear hK K
        refine reg_quiet 7 rfl (by kernel_rfl) (fun K hK => ?_)
        go_simp
        refine hK _ ?_; clear hK K
        refine reg_quiet 8 rfl (by kernel_rfl) (fun K hK => ?_)
        go_simp
        refine hK _ ?_; clear hK K
        refine reg_quiet 9 rfl (by kernel_rfl) (fun K hK => ?_)
        go_simp
        refine hK _ ?_; clear hK K
        refine reg_quiet 10 rfl (by kernel_rfl) (fun K hK => ?_)
        go_simp
        refine hK _ ?_; clear hK K
        refine reg_quiet 11 rfl (by kernel_rfl) (fun K hK => ?_)
        go_simp
        refine hK _ ?_; clear hK K
        refine reg_quiet 12 rfl (by kernel_rfl) (fun K hK => ?_)
        go_simp
        refine hK _ ?_; clear hK K
        refine reg_quiet 13 rfl (by kernel_rfl) (fun K hK => ?_)
        go_simp
        refine hK _ ?_; clear hK K
        refine reg_quiet 14 rfl (by kernel_rfl) (fun K hK => ?_)
        go_simp
        refine hK _ ?_; clear hK K
        refine reg_quiet 15 rfl (by kernel_rfl) (fun K hK => ?_)
        go_simp
        refine hK _ ?_; clear hK K
        refine reg_quiet 16 rfl (by kernel_rfl) (fun K hK => ?_)
        go_simp
        refine hK _ ?_; clear hK K
        refine reg_turn 17 [15, 14, 13, 12, 11, 10, 9, 8, 7, 6, 5, 4, 3, 2, 1, 0] rfl (by kernel_rfl) (by kernel_rfl) (fun K hK => ?_)
        go_simp
        refine (tick_at L.d D.clock w.drew.drew hc0 (by omega) k1 k2).mono ?_
        rintro e w3 ⟨rfl, rfl⟩
        refine hK _ _ (StayOk.cons rfl (by go_simp) (StayOk.cons rfl (by go_simp) (StayOk.cons rfl (by go_simp) (StayOk.cons rfl (by go_simp) (StayOk.cons rfl (by go_simp) (StayOk.cons rfl (by go_simp) (StayOk.cons rfl (by go_simp) (StayOk.cons rfl (by go_simp) (StayOk.cons rfl (by go_simp) (StayOk.cons rfl (by go_simp) (StayOk.cons rfl (by go_simp) (StayOk.cons rfl (by go_simp) (StayOk.cons rfl (by go_simp) (StayOk.cons rfl (by go_simp) (StayOk.cons rfl (by go_simp) (StayOk.cons rfl (by go_simp) (StayOk.nil))))))))))))))))) ?_; clear hK K
        refine reg_quiet 18 rfl (by kernel_rfl) (fun K hK => ?_)
        go_simp
        refine hK _ ?_; clear hK K
        refine reg_quiet 19 rfl (by kernel_rfl) (fun K hK => ?_)
        go_simp
        refine hK _ ?_; clear hK K
        refine reg_turn 20 [15, 14, 2, 1] rfl (by kernel_rfl) (by kernel_rfl) (fun K hK => ?_)
        go_simp
        refine hK _ _ (StayOk.cons rfl (by go_simp) (StayOk.cons rfl (by go_simp) (StayOk.cons rfl (by go_simp) (StayOk.cons rfl (by go_simp) (StayOk.nil))))) ?_; clear hK K
        refine reg_quiet 21 rfl (by kernel_rfl) (fun K hK => ?_)
        go_simp
        refine hK _ ?_; clear hK K
        refine reg_quiet 22 rfl (by kernel_rfl) (fun K hK => ?_)
        go_simp
        refine hK _ ?_; clear hK K
        refine reg_turn 23 [2] rfl (by kernel_rfl) (by kernel_rfl) (fun K hK => ?_)
        go_simp
        refine hK _ _ (StayOk.cons rfl (by go_simp) (StayOk.nil)) ?_; clear hK K
        refine reg_quiet 24 rfl (by kernel_rfl) (fun K hK => ?_)
        go_simp
        refine hK _ ?_; clear hK K
        refine reg_quiet 25 rfl (by kernel_rfl) (fun K hK => ?_)
        go_simp
        refine hK _ ?_; clear hK K
        refine reg_turn 26 [] rfl (by kernel_rfl) (by kernel_rfl) (fun K hK => ?_)
        go_simp
        refine hK _ _ (StayOk.nil) ?_; clear hK K
        refine reg_done (by kernel_rfl) ?_
        go_wp2_with fail
        · have hmn : k ≤ (D.fs q).sure := by omega
          go_ret
          refine Hfin.out _ (.slice none 0 0) ((((((Keeps.refl (fun b => b = L.d ∨ b = q) w).drew.drew).setCell (p := ⟨L.d, 1, none⟩) (fun _ => Or.inl rfl) _).setCell (p := ⟨q, 0, none⟩) (fun _ => Or.inr rfl) _).setCell (p := ⟨q, 1, none⟩) (fun _ => Or.inr rfl) _).setCell (p := ⟨q, 2, none⟩) (fun _ => Or.inr rfl) _) (heap_setCell_of (heap_setCell_of (heap_setCell_of (by rw [heap_setCell_at H.out.hd]; rfl) (Ne.symm hqd) _) (Ne.symm hqd) _) (Ne.symm hqd) _) ?_
          rw [show min (D.fs q).sure k = k by omega]
          refine (heap_setCell_at (heap_setCell_at (heap_setCell_at (heap_setCell_of Hg.out.1 hqd _) _) _) _).trans ?_
          rfl
        · have hmn : (D.fs q).sure ≤ k := by omega
          go_ret
          refine Hfin.out _ (.slice none 0 0) ((((((Keeps.refl (fun b => b = L.d ∨ b = q) w).drew.drew).setCell (p := ⟨L.d, 1, none⟩) (fun _ => Or.inl rfl) _).setCell (p := ⟨q, 0, none⟩) (fun _ => Or.inr rfl) _).setCell (p := ⟨q, 1, none⟩) (fun _ => Or.inr rfl) _).setCell (p := ⟨q, 2, none⟩) (fun _ => Or.inr rfl) _) (heap_setCell_of (heap_setCell_of (heap_setCell_of (by rw [heap_setCell_at H.out.hd]; rfl) (Ne.symm hqd) _) (Ne.symm hqd) _) (Ne.symm hqd) _) ?_
          rw [show min (D.fs q).sure k = (D.fs q).sure by omega]
          refine (heap_setCell_at (heap_setCell_at (heap_setCell_at (heap_setCell_of Hg.out.1 hqd _) _) _) _).trans ?_
          rfl

set_option maxRecDepth 100000 in
set_option maxHeartbeats 1000000 in
theorem cut_at (hR : RightOk) {w : World} {L : Lay} {D : PD} (h : DiskAt w L D) (hD : D.Ok) (hC : 0 ≤ D.deeds ∧ D.deeds < 1000000000000) (name : ByteArray) (m : Int) (hs : name.size ≤ 1000000) (hm0 : -9223372036854775808 ≤ m) (hm1 : m ≤ 9223372036854775807) :
    Calls Tryd.prog 36 #[.pointer (some ⟨L.d, 0, none⟩), .string name, .int .i64 m] w (Dealt w L fun _ => D.deed (rightP name) fun D' => D'.cut name m) := by
  have H := Lib.hid h
  have HD := Lib.hid hD
  have HC := Lib.hid hC
  have Hss : Hid (∀ s ∈ [name], s.size ≤ 1000000) := Lib.hid (fun s h => by rw [List.mem_singleton.1 h]; exact hs)
  have hdl := lt_of_heap h.hd
  clear h hD hC
  go_enter Tryd.func36, Tryd.ntmps36
  go_wp2_with fail
  obtain ⟨w0, hw0⟩ : ∃ w0 : World, ((w.alloc (.cells #[.pointer (some ⟨L.d, 0, none⟩)] 25)).alloc (.cells #[.int .i64 m] 3)) = w0 := ⟨_, rfl⟩
  rw [hw0]
  have hz0 : w.heap.size + 2 ≤ w0.heap.size := by rw [← hw0]; simp
  have x0 : w0.heap[w.heap.size]? = some (.cells #[.pointer (some ⟨L.d, 0, none⟩)] 25 (0, 0)) := by rw [← hw0]; exact heap_alloc_of (heap_alloc_at rfl _) _
  have x1 : w0.heap[w.heap.size + 1]? = some (.cells #[.int .i64 m] 3 (0, 0)) := by rw [← hw0]; exact heap_alloc_at (by simp) _
  have hb0 : Below w.heap.size w w0 := by rw [← hw0]; exact (((Below.refl _ w).alloc (by simp) _).alloc (by simp) _)
  have X := Lib.hid (And.intro (x0) (x1))
  have Hb0 := Lib.hid hb0
  clear hw0 hb0 x0 x1
  refine wp_region_reg (by kernel_rfl) (by kernel_rfl) ?_
  obtain ⟨w1, hw1⟩ : ∃ w1 : World, w0.drew = w1 := ⟨_, rfl⟩
  rw [hw1]
  have HX := Lib.hid (show w1.heap[w.heap.size]? = _ ∧ w1.heap[w.heap.size + 1]? = _ by rw [← hw1]; exact X.out)
  have HB : Hid (Below w.heap.size w w1) := Lib.hid (by rw [← hw1]; exact Hb0.out.drew)
  have hz1 : w.heap.size + 2 ≤ w1.heap.size := by rw [← hw1]; exact hz0
  clear hw1
  have z0 := box_cell HX.out.1
  have z1 := box_cell HX.out.2
  refine reg_quiet 0 rfl (by kernel_rfl) (fun K hK => ?_)
  go_simp
  refine hK _ ?_; clear hK K
  refine reg_quiet 1 rfl (by kernel_rfl) (fun K hK => ?_)
  go_simp
  refine hK _ ?_; clear hK K
  refine reg_quiet 2 rfl (by kernel_rfl) (fun K hK => ?_)
  go_simp
  refine hK _ ?_; clear hK K
  refine reg_quiet 3 rfl (by kernel_rfl) (fun K hK => ?_)
  go_simp
  refine hK _ ?_; clear hK K
  refine reg_quiet 5 rfl (by kernel_rfl) (fun K hK => ?_)
  go_simp
  refine hK _ ?_; clear hK K
  refine reg_turns [4, 6] (by kernel_rfl) rfl ?_
  refine turns_cons [5, 0] rfl (by kernel_rfl) (fun K hK => ?_) ?_
  · go_simp
    refine (thered_at w1 L.d name 72 #[.pointer (some ⟨w.heap.size + 1, 0, none⟩), .pointer (some ⟨w.heap.size, 0, none⟩)]).mono ?_
    rintro e w2 ⟨y, rfl, hy0, hy1, hb2, hY⟩
    have hz2 := hb2.size
    have HY := Lib.hid hY
    try (have HN := Lib.hid (Below.heap hb2 HN.out (by omega)))
    have HX := Lib.hid (And.intro (Below.heap hb2 HX.out.1 (by omega)) (Below.heap hb2 HX.out.2 (by omega)))
    have HB := Lib.hid (HB.out.trans (hb2.mono (by omega)))
    have hz1 : w.heap.size + 2 ≤ w2.heap.size := by omega
    have z0 := box_cell HX.out.1
    have z1 := box_cell HX.out.2
    clear hY hb2
    rename World => w1
    refine hK _ _ (StayOk.cons rfl (by go_simp) (StayOk.cons rfl (by go_simp) (StayOk.nil))) ?_; clear hK K
    refine reg_turn 6 [0] rfl (by kernel_rfl) (by kernel_rfl) (fun K hK => ?_)
    go_simp
    obtain ⟨w2, hw2⟩ : ∃ w2 : World, w1.alloc (.cells #[.string name] 9) = w2 := ⟨_, rfl⟩
    obtain ⟨n, hn⟩ : ∃ n, w1.heap.size = n := ⟨_, rfl⟩
    rw [hw2, hn]
    have hNx : w2.heap[n]? = some (.cells #[.string name] 9 (0, 0)) := by rw [← hw2]; exact heap_alloc_at hn _
    have hb2 : Below w1.heap.size w1 w2 := by rw [← hw2]; exact (Below.refl _ w1).alloc (Nat.le_refl _) _
    have hz2 := hb2.size
    have HN := Lib.hid hNx
    have hnl := lt_of_heap hNx
    have hn0 : w.heap.size + 2 ≤ n := by omega
    try (have HY := Lib.hid (And.intro (Below.heap hb2 HY.out.1 (by omega)) (And.intro (Below.heap hb2 HY.out.2.1 (by omega)) (Below.heap hb2 HY.out.2.2 (by omega)))))
    have HX := Lib.hid (And.intro (Below.heap hb2 HX.out.1 (by omega)) (Below.heap hb2 HX.out.2 (by omega)))
    have HB := Lib.hid (HB.out.trans (hb2.mono (by omega)))
    have hz1 : w.heap.size + 2 ≤ w2.heap.size := by omega
    have z0 := box_cell HX.out.1
    have z1 := box_cell HX.out.2
    clear hw2 hn hNx hb2
    rename World => w1
    refine hK _ _ (StayOk.cons rfl (by go_simp) (StayOk.nil)) ?_; clear hK K
    refine reg_turn 7 [] rfl (by kernel_rfl) (by kernel_rfl) (fun K hK => ?_)
    go_simp
    refine (there_deed hR (H.out.below HB.out) HD.out HC.out enter_cut1 (box_cell HY.out.1) (box_cell HY.out.2.1) (box_cell HY.out.2.2) (by omega) (by omega) (by omega) (ss := [name]) (Lst.new (vs := [.string name]) HN.out) (fun q hq => by have : n = q := Option.some.inj hq; omega) hs Hss.out (by simp) (g := fun D' q _ => D'.cutAt q m) (fun q => #[.pointer (some ⟨q, 0, none⟩), .pointer (some ⟨w.heap.size + 1, 0, none⟩), .pointer (some ⟨w.heap.size, 0, none⟩)]) (fun q => by simp) (fun w3 q hk3 h3 hq => cut1_at h3 HD.out.counted (h3.okf _ (find_mem hq)) hm0 hm1 (hk3.cell z0 (by omega)) (hk3.cell z1 (by omega)) (H.out.top _ (Nat.le_refl _)) (H.out.top _ (by omega)))).mono ?_
    rintro e w3 hd
    obtain ⟨p, L3, rfl, hst, hp⟩ := Dealt.before (step_below H.out HB.out) hd
    rw [show [name].all rightP = (rightP name) by simp] at hst ⊢
    have Hst := Lib.hid hst
    clear hst
    refine hK _ _ (StayOk.nil) ?_; clear hK K
    refine reg_quiet 8 rfl (by kernel_rfl) (fun K hK => ?_)
    go_simp
    refine hK _ ?_; clear hK K
    refine reg_done (by kernel_rfl) ?_
    go_wp2_with fail
    go_ret
    exact ⟨p, L3, rfl, Hst.out, hp⟩
  refine turns_cons [3, 2, 1, 0] rfl (by kernel_rfl) (fun K hK => ?_) ?_
  · go_simp
    obtain ⟨w2, hw2⟩ : ∃ w2 : World, w1.alloc (.cells #[.string name] 9) = w2 := ⟨_, rfl⟩
    obtain ⟨n, hn⟩ : ∃ n, w1.heap.size = n := ⟨_, rfl⟩
    rw [hw2, hn]
    have hNx : w2.heap[n]? = some (.cells #[.string name] 9 (0, 0)) := by rw [← hw2]; exact heap_alloc_at hn _
    have hb2 : Below w1.heap.size w1 w2 := by rw [← hw2]; exact (Below.refl _ w1).alloc (Nat.le_refl _) _
    have hz2 := hb2.size
    have HN := Lib.hid hNx
    have hnl := lt_of_heap hNx
    have hn0 : w.heap.size + 2 ≤ n := by omega
    try (have HY := Lib.hid (And.intro (Below.heap hb2 HY.out.1 (by omega)) (And.intro (Below.heap hb2 HY.out.2.1 (by omega)) (Below.heap hb2 HY.out.2.2 (by omega)))))
    have HX := Lib.hid (And.intro (Below.heap hb2 HX.out.1 (by omega)) (Below.heap hb2 HX.out.2 (by omega)))
    have HB := Lib.hid (HB.out.trans (hb2.mono (by omega)))
    have hz1 : w.heap.size + 2 ≤ w2.heap.size := by omega
    have z0 := box_cell HX.out.1
    have z1 := box_cell HX.out.2
    clear hw2 hn hNx hb2
    rename World => w1
    refine hK _ _ (StayOk.cons rfl (by go_simp) (StayOk.cons rfl (by go_simp) (StayOk.cons rfl (by go_simp) (StayOk.cons rfl (by go_simp) (StayOk.nil))))) ?_; clear hK K
    refine reg_turn 4 [0] rfl (by kernel_rfl) (by kernel_rfl) (fun K hK => ?_)
    go_simp
    refine (thered_at w1 L.d name 72 #[.pointer (some ⟨w.heap.size + 1, 0, none⟩), .pointer (some ⟨w.heap.size, 0, none⟩)]).mono ?_
    rintro e w2 ⟨y, rfl, hy0, hy1, hb2, hY⟩
    have hz2 := hb2.size
    have HY := Lib.hid hY
    try (have HN := Lib.hid (Below.heap hb2 HN.out (by omega)))
    have HX := Lib.hid (And.intro (Below.heap hb2 HX.out.1 (by omega)) (Below.heap hb2 HX.out.2 (by omega)))
    have HB := Lib.hid (HB.out.trans (hb2.mono (by omega)))
    have hz1 : w.heap.size + 2 ≤ w2.heap.size := by omega
    have z0 := box_cell HX.out.1
    have z1 := box_cell HX.out.2
    clear hY hb2
    rename World => w1
    refine hK _ _ (StayOk.cons rfl (by go_simp) (StayOk.nil)) ?_; clear hK K
    refine reg_turn 7 [] rfl (by kernel_rfl) (by kernel_rfl) (fun K hK => ?_)
    go_simp
    refine (there_deed hR (H.out.below HB.out) HD.out HC.out enter_cut1 (box_cell HY.out.1) (box_cell HY.out.2.1) (box_cell HY.out.2.2) (by omega) (by omega) (by omega) (ss := [name]) (Lst.new (vs := [.string name]) HN.out) (fun q hq => by have : n = q := Option.some.inj hq; omega) hs Hss.out (by simp) (g := fun D' q _ => D'.cutAt q m) (fun q => #[.pointer (some ⟨q, 0, none⟩), .pointer (some ⟨w.heap.size + 1, 0, none⟩), .pointer (some ⟨w.heap.size, 0, none⟩)]) (fun q => by simp) (fun w3 q hk3 h3 hq => cut1_at h3 HD.out.counted (h3.okf _ (find_mem hq)) hm0 hm1 (hk3.cell z0 (by omega)) (hk3.cell z1 (by omega)) (H.out.top _ (Nat.le_refl _)) (H.out.top _ (by omega)))).mono ?_
    rintro e w3 hd
    obtain ⟨p, L3, rfl, hst, hp⟩ := Dealt.before (step_below H.out HB.out) hd
    rw [show [name].all rightP = (rightP name) by simp] at hst ⊢
    have Hst := Lib.hid hst
    clear hst
    refine hK _ _ (StayOk.nil) ?_; clear hK K
    refine reg_quiet 8 rfl (by kernel_rfl) (fun K hK => ?_)
    go_simp
    refine hK _ ?_; clear hK K
    refine reg_done (by kernel_rfl) ?_
    go_wp2_with fail
    go_ret
    exact ⟨p, L3, rfl, Hst.out, hp⟩
  exact turns_nil'
end Go.Proofs.YtbckbkcpfejllaaDoor
