/- The walk of turns: a change of the directory, and its place in the row of changes. -/
import Derived.Test.YtbckbkcpfejllaaDoorDw5
import Derived.Test.YtbckbkcpfejllaaDoorReg
import Derived.StillTactics
namespace Go.Proofs.YtbckbkcpfejllaaDoor
open Go.RowKit Go.Maps Go.WideMaps

theorem info_chg : (Tryd.prog.info? 93).map (fun i => (i.zero, i.size, i.bytes)) = some (some (.agg #[.string ByteArray.empty, .pointer none, .string ByteArray.empty]), 3, 40) := by kernel_rfl

/-- The layout when the pending row is v. -/
def Lay.pend (L : Lay) (v : Value) : Lay := { L with pv := v, role := fun b => if v.ownBlock = some b then 2 else L.role b }
/-- What turns comes to, out of what its parts come to. -/
theorem turns_fin {w w' : World} {L : Lay} {D : PD} (h : DiskAt w L D) (c : Chg) (hn : c.name.size ≤ 1000000) (hg : c.gone.size ≤ 1000000) (ht : isE c.name = false → c.to.isSome) (hr : ∀ p, c.to = some p → L.role p = 3)
    {v : Value} (hk : Keeps (fun b => b = L.mf ∨ L.pv.ownBlock = some b ∨ b = L.d) w w') (hm : MapP Tryd.prog 9 w' L.mf (c.does D.files))
    (hd : w'.heap[L.d]? = some (.cells #[.int .i64 D.quota, .int .i64 D.clock, .int .i64 D.deeds, .int .i64 D.armed, .bool D.down, .map (some L.mf), .map (some L.s6), v] 68 (0, 0)))
    (hrow : Row w' 93 3 v (D.pend.length + 1) (D.pend.flatMap Chg.cells ++ c.cells)) (hv : ∀ b, v.ownBlock = some b → L.pv.ownBlock = some b ∨ w.heap.size ≤ b) :
    ∃ L', Step w L w' L' (D.turns c) := by
  have hown : ∀ b, v.ownBlock = some b → L.role b = 2 ∨ L.role b = 0 := fun b hb => (hv b hb).imp (h.rp b) (h.top b)
  have hrole : ∀ b, L.role b ≠ 2 → L.role b ≠ 0 → (L.pend v).role b = L.role b := fun b h1 h2 => by
    simp only [Lay.pend]
    split
    · rename_i hb
      rcases hown b hb with h3 | h3
      · exact absurd h3 h1
      · exact absurd h3 h2
    · rfl
  have hkp : ∀ b, b < w.heap.size → L.role b ≠ 4 → L.role b ≠ 2 → L.role b ≠ 1 → w'.heap[b]? = w.heap[b]? := fun b hb h4 h2 h1 => hk.block b hb (by
    rintro (rfl | hb2 | rfl)
    · exact h4 h.rf
    · exact h2 (h.rp b hb2)
    · exact h1 h.rd)
  have hfl : ∀ x ∈ c.does D.files, L.role x.2 = 3 := by
    have hins : ∀ (l : Dir) (y : Bs × Nat), L.role y.2 = 3 → (∀ x ∈ l, L.role x.2 = 3) → ∀ x ∈ Dir.ins y l, L.role x.2 = 3 := by
      intro l y hy
      induction l with
      | nil => intro _ x hx; simp [Dir.ins] at hx; rw [hx]; exact hy
      | cons z r ih =>
        intro hl x hx
        unfold Dir.ins at hx
        split at hx
        · rcases List.mem_cons.1 hx with rfl | hx
          · exact hy
          · exact hl x hx
        · rcases List.mem_cons.1 hx with rfl | hx
          · exact hl x (by simp)
          · exact ih (fun x hx => hl x (by simp [hx])) x hx
    have hdel : ∀ (l : Dir) (n : Bs), (∀ x ∈ l, L.role x.2 = 3) → ∀ x ∈ Dir.del l n, L.role x.2 = 3 := fun l n hl x hx => hl x (List.mem_filter.1 hx).1
    have h1 : ∀ x ∈ (if isE c.gone then D.files else Dir.del D.files (bs c.gone)), L.role x.2 = 3 := by
      split
      · exact h.okf
      · exact hdel _ _ h.okf
    unfold Chg.does
    dsimp only
    split
    · exact h1
    · cases hto : c.to with
      | none => exact h1
      | some p => exact hins _ _ (hr p hto) (hdel _ _ h1)
  have hdl := lt_of_heap h.hd
  have r1 : (L.pend v).role L.d = 1 := (hrole L.d (by rw [h.rd]; decide) (by rw [h.rd]; decide)).trans h.rd
  have r4 : (L.pend v).role L.mf = 4 := (hrole L.mf (by rw [h.rf]; decide) (by rw [h.rf]; decide)).trans h.rf
  have r5 : (L.pend v).role L.ms = 5 := (hrole L.ms (by rw [h.rs]; decide) (by rw [h.rs]; decide)).trans h.rs
  have r3 : ∀ p, L.role p = 3 → (L.pend v).role p = 3 := fun p hp => (hrole p (by rw [hp]; decide) (by rw [hp]; decide)).trans hp
  have hrow' : Row w' 93 3 (L.pend v).pv (D.turns c).pend.length ((D.turns c).pend.flatMap Chg.cells) := by
    have e1 : (D.turns c).pend = D.pend ++ [c] := rfl
    rw [e1, List.length_append, List.flatMap_append]
    simpa [Lay.pend] using hrow
  have hat : DiskAt w' (L.pend v) (D.turns c) := by
    refine { hd := hd, hf := hm, hs := h.hs.keep (hkp _ h.hs.lt (by rw [h.rs]; decide) (by rw [h.rs]; decide) (by rw [h.rs]; decide)), ne := h.ne, h6 := h.h6, hp := hrow', rd := r1, rp := fun b hb => ?_, rf := r4, rs := r5, file := fun p hp => ?_, okf := fun x hx => r3 _ (hfl x hx), oks := fun x hx => r3 _ (h.oks x hx), okp := fun c' hc' => ?_, okb := fun p hp => ?_, top := fun b hb => ?_ }
    · simp only [Lay.pend] at hb ⊢
      rw [if_pos hb]
    · have hp3 : L.role p = 3 := by
        simp only [Lay.pend] at hp
        split at hp
        · cases hp
        · exact hp
      obtain ⟨f1, f2, f3⟩ := h.file p hp3
      refine ⟨(hkp p (lt_of_heap f1) (by rw [hp3]; decide) (by rw [hp3]; decide) (by rw [hp3]; decide)).trans f1, f2.keep (fun b hb => hkp b (f2.lt b hb) (by rw [f3 b hb]; omega) (by rw [f3 b hb]; omega) (by rw [f3 b hb]; omega)), fun q hq => ?_⟩
      rw [hrole q (by rw [f3 q hq]; omega) (by rw [f3 q hq]; omega)]
      exact f3 q hq
    · rcases List.mem_append.1 hc' with hc' | hc'
      · obtain ⟨o1, o2⟩ := h.okp c' hc'
        exact ⟨fun p hp => r3 p (o1 p hp), o2⟩
      · obtain rfl : c' = c := by simpa using hc'
        exact ⟨fun p hp => r3 p (hr p hp), hn, hg, ht⟩
    · refine h.okb p ?_
      simp only [Lay.pend] at hp
      split at hp
      · cases hp
      · exact hp
    · have hz := hk.size
      simp only [Lay.pend]
      split
      · rename_i hb2
        have := hrow.lt b hb2
        omega
      · exact h.top b (by omega)
  refine ⟨L.pend v, hat, ?_, ?_, rfl, r3, rfl⟩
  · refine hk.mono fun b hb => ?_
    rintro (rfl | hb2 | rfl)
    · rw [h.rf]; decide
    · rw [h.rp b hb2]; decide
    · rw [h.rd]; decide
  · intro b hb h0
    simp only [Lay.pend]
    split
    · rename_i hb2
      rcases hv b hb2 with h3 | h3
      · have := h.rp b h3; omega
      · omega
    · exact h0

set_option maxRecDepth 100000 in
set_option maxHeartbeats 1000000 in
theorem turns_at {w : World} {L : Lay} {D : PD} (h : DiskAt w L D) (hnf : D.files.length ≤ 1000000) (hnp : D.pend.length ≤ 1000000) (c : Chg) (hn : c.name.size ≤ 1000000) (hg : c.gone.size ≤ 1000000) (ht : isE c.name = false → c.to.isSome) (hr : ∀ p, c.to = some p → L.role p = 3) :
    Calls Tryd.prog 61 #[.pointer (some ⟨L.d, 0, none⟩), c.val] w fun e w' => e = .returned (.tuple #[]) ∧ ∃ L', Step w L w' L' (D.turns c) := by
  have c5 := h.cell 5
  simp only [List.getElem?_toArray, List.getElem?_cons_zero, List.getElem?_cons_succ] at c5
  have hdl := lt_of_heap h.hd
  have hmf := h.hf
  have hmd : L.mf ≠ L.d := hmf.no_cells h.hd
  have hml := hmf.lt
  have hfin := fun (w' : World) (v : Value) => turns_fin (w' := w') (v := v) h c hn hg ht hr
  have Hfin := Lib.hid hfin
  have H := Lib.hid h
  obtain ⟨name, to, gone⟩ := c
  simp only at hn hg ht hr
  obtain ⟨tv, htv, hone⟩ : ∃ tv, ptrV to = tv ∧ (tv = .pointer none ∨ ∃ p, tv = .pointer (some ⟨p, 0, none⟩)) := by
    cases to with
    | none => exact ⟨_, rfl, Or.inl rfl⟩
    | some p => exact ⟨_, rfl, Or.inr ⟨p, rfl⟩⟩
  have hwb : MapP Tryd.prog 9 (w.alloc (.cells #[.string name, tv, .string gone] 93)).drew L.mf D.files := hmf.keep (Below.heap_alloc _ _ _ hml)
  have hdo := does_at hwb ⟨name, to, gone⟩ hn hg ht hnf
  simp only [Chg.val] at hdo
  rw [htv] at hdo
  have Hdo := Lib.hid hdo
  have Htv := Lib.hid htv
  have hlp : ∃ a0 cap0, L.pv = .slice a0 D.pend.length cap0 := h.hp.slv
  obtain ⟨a0, cap0, hpv⟩ := hlp
  have Hpv := Lib.hid hpv
  obtain ⟨i0, hi, hz0, hz1, hz2⟩ := info_parts info_chg
  have HI := Lib.hid (And.intro hi (And.intro hz0 (And.intro hz1 hz2)))
  simp only [Chg.val]
  rw [htv]
  clear h hdo hfin htv hwb hmf hpv hi hz0 hz1 hz2
  have hx1c : ∀ w1 : World, w1.heap[w.heap.size]? = some (.cells #[.string name, tv, .string gone] 93 (0, 0)) → w1.cell? ⟨w.heap.size, 1, none⟩ = some tv := fun w1 h1 => by rw [cell_at h1]; rfl
  have Hx1c := Lib.hid hx1c
  clear hx1c
  have Hne : Hid (¬ (Value.slice a0 D.pend.length cap0).ownBlock = some L.d) := Lib.hid fun hb => by
    have := H.out.rp L.d (by rw [Hpv.out]; exact hb)
    rw [H.out.rd] at this; cases this
  have Htv1 : tv.oneCell' = true := by rcases hone with rfl | ⟨p, rfl⟩ <;> rfl
  rcases hone with rfl | ⟨p, rfl⟩
  all_goals
    go_enter Tryd.func61, Tryd.ntmps61
    go_wp2_with fail
    refine wp_region_reg (by kernel_rfl) (by kernel_rfl) ?_
    refine reg_quiet 0 rfl (by kernel_rfl) (fun K hK => ?_)
    go_simp
    refine hK _ ?_; clear hK K
    refine reg_quiet 1 rfl (by kernel_rfl) (fun K hK => ?_)
    go_simp
    refine hK _ ?_; clear hK K
    refine reg_quiet 2 rfl (by kernel_rfl) (fun K hK => ?_)
    go_simp
    refine hK _ ?_; clear hK K
    refine reg_quiet 3 rfl (by kernel_rfl) (fun K hK => ?_)
    go_simp
    refine hK _ ?_; clear hK K
    refine reg_quiet 4 rfl (by kernel_rfl) (fun K hK => ?_)
    go_simp
    refine hK _ ?_; clear hK K
    refine reg_turn 5 [] rfl (by kernel_rfl) (by kernel_rfl) (fun K hK => ?_)
    go_simp
    go_at_call 56
    refine Hdo.out.mono ?_
    rintro e w1 ⟨rfl, hm1, hk1⟩
    refine hK _ _ (StayOk.nil) ?_; clear hK K
    refine reg_done (by kernel_rfl) ?_
    go_wp2_with fail
    have hd1 := hk1.heap (heap_alloc_of H.out.hd _) (Ne.symm hmd)
    have hx1 := hk1.heap (heap_alloc_new w _) (fun e => by omega)
    have c7 : w1.cell? ⟨L.d, 7, none⟩ = some (.slice a0 D.pend.length cap0) := by rw [cell_at hd1, ← Hpv.out]; rfl
    have f7 : w1.frozen? ⟨L.d, 7, none⟩ = false := frozen_at hd1
    have x0 : w1.cell? ⟨w.heap.size, 0, none⟩ = some (.string name) := by rw [cell_at hx1]; rfl
    have x1 : w1.cell? ⟨w.heap.size, 1, none⟩ = some _ := Hx1c.out w1 hx1
    have x2 : w1.cell? ⟨w.heap.size, 2, none⟩ = some (.string gone) := by rw [cell_at hx1]; rfl
    have hdl1 := lt_of_heap hd1
    have hrow1 : Row w1 93 3 L.pv D.pend.length (D.pend.flatMap Chg.cells) := H.out.hp.keep fun b hb => (hk1.block b (by have := H.out.hp.lt b hb; simp; omega) (fun e => by have := H.out.rp b hb; rw [e, H.out.rf] at this; cases this)).trans (Below.heap_alloc _ _ _ (H.out.hp.lt b hb))
    rw [Hpv.out] at hrow1
    have Hrow1 := Lib.hid hrow1
    have Hd1 := Lib.hid hd1
    have Hm1 := Lib.hid hm1
    have Hk1 := Lib.hid hk1
    clear hd1 hx1 hrow1 hm1 hk1
    refine wp_region_reg (by kernel_rfl) (by kernel_rfl) ?_
    refine reg_quiet 0 rfl (by kernel_rfl) (fun K hK => ?_)
    go_simp
    refine hK _ ?_; clear hK K
    refine reg_quiet 1 rfl (by kernel_rfl) (fun K hK => ?_)
    go_simp
    refine hK _ ?_; clear hK K
    refine reg_quiet 2 rfl (by kernel_rfl) (fun K hK => ?_)
    go_simp
    refine hK _ ?_; clear hK K
    refine reg_quiet 3 rfl (by kernel_rfl) (fun K hK => ?_)
    go_simp
    refine hK _ ?_; clear hK K
    refine reg_quiet 4 rfl (by kernel_rfl) (fun K hK => ?_)
    go_simp
    refine hK _ ?_; clear hK K
    refine reg_quiet 5 rfl (by kernel_rfl) (fun K hK => ?_)
    go_simp
    refine hK _ ?_; clear hK K
    refine reg_turn 6 [4, 3, 2, 1, 0] rfl (by kernel_rfl) (by kernel_rfl) (fun K hK => ?_)
    go_simp
    refine hK _ _ (StayOk.cons rfl (by go_simp) (StayOk.cons rfl (by go_simp) (StayOk.cons rfl (by go_simp) (StayOk.cons rfl (by go_simp) (StayOk.cons rfl (by go_simp) (StayOk.nil)))))) ?_; clear hK K
    refine reg_turn 7 [0] rfl (by kernel_rfl) (by kernel_rfl) (fun K hK => ?_)
    refine step_append_row rfl _ _ 66 66 rfl rfl _ rfl (Hrow1.out.keep fun b hb => Below.heap_alloc _ _ _ (Hrow1.out.lt b hb)) (by decide) i0 _ 40 Tryd.underlying66 HI.out.1 HI.out.2.1 HI.out.2.2.1 HI.out.2.2.2 rfl 1 [.string name, _, .string gone] (src_at (by exact heap_alloc_new w1 _) Tryd.underlying66 3 1 rfl (by simp [Value.oneCell'])) (by unfold maxLen; omega) (by omega) ?_
    intro b' c' w2 hr2 hk2 hw2 _ _
    have hd2 := hk2.heap (heap_alloc_of Hd1.out _) Hne.out
    have c72 : w2.cell? ⟨L.d, 7, none⟩ = some L.pv := by rw [cell_at hd2]; rfl
    have f72 : w2.frozen? ⟨L.d, 7, none⟩ = false := frozen_at hd2
    have Hd2 := Lib.hid hd2
    have Hr2 := Lib.hid hr2
    have Hk2 := Lib.hid hk2
    have Hw2 := Lib.hid hw2
    clear hd2 hr2 hk2 hw2
    refine hK _ _ (StayOk.cons rfl (by go_simp) (StayOk.nil)) ?_; clear hK K
    refine reg_quiet 8 rfl (by kernel_rfl) (fun K hK => ?_)
    go_simp
    refine hK _ ?_; clear hK K
    refine reg_quiet 9 rfl (by kernel_rfl) (fun K hK => ?_)
    go_simp
    refine hK _ ?_; clear hK K
    refine reg_turn 10 [] rfl (by kernel_rfl) (by kernel_rfl) (fun K hK => ?_)
    go_simp
    refine hK _ _ (StayOk.nil) ?_; clear hK K
    refine reg_done (by kernel_rfl) ?_
    go_wp2_with fail
    go_end0
    have hz1 := Hk1.out.size
    have hz1 : w.heap.size + 1 ≤ w1.heap.size := by simpa using hz1
    have hml1 := Hm1.out.lt
    have hnd : ∀ b, (Value.slice b' (D.pend.length + 1) c').ownBlock = some b → b ≠ L.d := fun b hb e => by
      subst e
      rcases Hw2.out _ hb with h3 | h3
      · exact Hne.out h3
      · simp at h3; omega
    refine ⟨rfl, Hfin.out _ (.slice b' (D.pend.length + 1) c') ((((((Keeps.refl (fun b => b = L.mf ∨ L.pv.ownBlock = some b ∨ b = L.d) w).alloc _).drew.trans Hk1.out (fun b _ e => Or.inl e)).alloc _).drew.trans Hk2.out (fun b _ e => Or.inr (Or.inl (by rw [Hpv.out]; exact e)))).setCell (fun _ => Or.inr (Or.inr rfl)) _) ?_ ?_ ?_ ?_⟩
    · refine Hm1.out.keep ((Below.heap_setCell _ _ _ _ hmd).trans ((Hk2.out.block L.mf (by simp; omega) fun hb => ?_).trans (Below.heap_alloc _ _ _ hml1)))
      have := H.out.rp L.mf (by rw [Hpv.out]; exact hb)
      rw [H.out.rf] at this; cases this
    · rw [heap_setCell_at Hd2.out]; rfl
    · have e1 : Chg.cells ⟨name, to, gone⟩ = [.string name, ptrV to, .string gone] := rfl
      rw [e1, Htv.out]
      exact Hr2.out.keep fun b hb => Below.heap_setCell _ _ _ _ (hnd b hb)
    · intro b hb
      rcases Hw2.out b hb with h3 | h3
      · exact Or.inl (by rw [Hpv.out]; exact h3)
      · refine Or.inr ?_
        simp at h3; omega
end Go.Proofs.YtbckbkcpfejllaaDoor
