/- The walks of SyncDir and Names. -/
import Derived.Test.YtbckbkcpfejllaaDoorIter
import Derived.WalkLawsBesides
namespace Go.Proofs.YtbckbkcpfejllaaDoor
open Go.RowKit Go.Maps Go.WideMaps

/-- The layout when the sure directory is the new map m, and no change is pending. -/
def Lay.sync (L : Lay) (m : Nat) : Lay := { L with ms := m, s6 := m, pv := .slice none 0 0, role := fun b => if b = m then 5 else L.role b }
theorem sync_fin {w w' : World} {L : Lay} {D D' : PD} (h : DiskAt w L D) {m : Nat} (hm0 : w.heap.size ≤ m) (hk : Keeps (fun b => b = L.d) w w') (hm : MapP Tryd.prog 9 w' m D.files) (hD' : D' = { D with sure := D.files, pend := [], armed := D'.armed, down := D'.down })
    (hd : w'.heap[L.d]? = some (.cells #[.int .i64 D.quota, .int .i64 D.clock, .int .i64 D.deeds, .int .i64 D'.armed, .bool D'.down, .map (some L.mf), .map (some m), .slice none 0 0] 68 (0, 0))) :
    Step w L w' (L.sync m) D' := by
  have hrole : ∀ b, L.role b ≠ 0 → (L.sync m).role b = L.role b := fun b hb => by
    have : b < w.heap.size := Nat.lt_of_not_le fun hle => hb (h.top b hle)
    simp only [Lay.sync]
    rw [if_neg (by omega)]
  have r3 : ∀ p, L.role p = 3 → (L.sync m).role p = 3 := fun p hp => (hrole p (by rw [hp]; decide)).trans hp
  have r3' : ∀ p, (L.sync m).role p = 3 → L.role p = 3 := fun p hp => by
    simp only [Lay.sync] at hp
    split at hp
    · cases hp
    · exact hp
  have hkp : ∀ b, b < w.heap.size → L.role b ≠ 1 → w'.heap[b]? = w.heap[b]? := fun b hb h1 => hk.block b hb (fun e => h1 (by rw [e]; exact h.rd))
  have hml := hm.lt
  have hfl := h.hf.lt
  have e1 : D'.files = D.files := by rw [hD']
  have e2 : D'.sure = D.files := by rw [hD']
  have e3 : D'.pend = [] := by rw [hD']
  have e4 : D'.fs = D.fs := by rw [hD']
  have e5 : D'.quota = D.quota := by rw [hD']
  have e6 : D'.clock = D.clock := by rw [hD']
  have e7 : D'.deeds = D.deeds := by rw [hD']
  have hat : DiskAt w' (L.sync m) D' := by
    refine { hd := by rw [e5, e6, e7]; exact hd, hf := by rw [e1]; exact h.hf.keep (hkp _ h.hf.lt (by rw [h.rf]; decide)), hs := by rw [e2]; exact hm, ne := by show L.mf ≠ m; omega, h6 := fun _ => rfl, hp := by rw [e3]; exact Row.nil _ _ _, rd := (hrole L.d (by rw [h.rd]; decide)).trans h.rd, rp := fun q hq => (by cases hq), rf := (hrole L.mf (by rw [h.rf]; decide)).trans h.rf, rs := by show (if m = m then 5 else L.role m) = 5; rw [if_pos rfl], file := fun p hp => ?_, okf := fun x hx => r3 _ (h.okf x (by rwa [e1] at hx)), oks := fun x hx => r3 _ (h.okf x (by rwa [e2] at hx)), okp := fun c hc => (by rw [e3] at hc; cases hc), okb := fun p hp => by rw [e4, e6]; exact h.okb p (r3' p hp), top := fun b hb => ?_ }
    · obtain ⟨f1, f2, f3⟩ := h.file p (r3' p hp)
      rw [e4]
      refine ⟨(hkp p (lt_of_heap f1) (by rw [r3' p hp]; decide)).trans f1, f2.keep (fun x hx => hkp x (f2.lt x hx) (by rw [f3 x hx]; omega)), fun x hx => (hrole x (by rw [f3 x hx]; omega)).trans (f3 x hx)⟩
    · have hz := hk.size
      simp only [Lay.sync]
      rw [if_neg (by omega)]
      exact h.top b (by omega)
  refine ⟨hat, hk.mono (fun q _ e => by rw [e, h.rd]; decide), fun q hq h0 => ?_, rfl, r3, rfl⟩
  simp only [Lay.sync]
  rw [if_neg (by omega)]
  exact h0

set_option maxRecDepth 100000 in
set_option maxHeartbeats 1000000 in
theorem syncdir1_at {w : World} {L : Lay} {D : PD} (h : DiskAt w L D) {x0 : Nat} (c0 : w.cell? ⟨x0, 0, none⟩ = some (.pointer (some ⟨L.d, 0, none⟩))) (r0 : L.role x0 = 0) :
    Calls Tryd.prog 54 #[.pointer (some ⟨x0, 0, none⟩)] w (Dealt w L fun _ => D.syncDir) := by
  have k5 := h.cell 5
  simp only [List.getElem?_toArray, List.getElem?_cons_zero, List.getElem?_cons_succ] at k5
  have hdl := lt_of_heap h.hd
  have hx0 := World.block_lt_of_cell? w _ c0
  have hcl := clone_map (w := w.drew) (h.hf.keep (w' := w.drew) rfl)
  have hx0d : x0 ≠ L.d := fun e => by rw [e, h.rd] at r0; cases r0
  have H := Lib.hid h
  have Hcl := Lib.hid hcl
  clear h hcl
  go_enter Tryd.func54, Tryd.ntmps54
  go_wp2_with fail
  refine wp_region_reg (by kernel_rfl) (by kernel_rfl) ?_
  refine reg_quiet 0 rfl (by kernel_rfl) (fun K hK => ?_)
  go_simp
  refine hK _ ?_; clear hK K
  refine reg_quiet 1 rfl (by kernel_rfl) (fun K hK => ?_)
  go_simp
  refine hK _ ?_; clear hK K
  refine reg_quiet 2 rfl (by kernel_rfl) (fun K hK => ?_)
  go_simp
  refine hK _ ?_; clear hK K
  refine reg_quiet 3 rfl (by kernel_rfl) (fun K hK => ?_)
  go_simp
  refine hK _ ?_; clear hK K
  refine reg_quiet 4 rfl (by kernel_rfl) (fun K hK => ?_)
  go_simp
  refine hK _ ?_; clear hK K
  refine reg_quiet 5 rfl (by kernel_rfl) (fun K hK => ?_)
  go_simp
  refine hK _ ?_; clear hK K
  refine reg_turn 6 [1, 0] rfl (by kernel_rfl) (by kernel_rfl) (fun K hK => ?_)
  go_simp
  refine Hcl.out.mono ?_
  rintro e w1 ⟨rfl, hm1, hb1, hz1⟩
  obtain ⟨m, hm⟩ : ∃ m, w.drew.heap.size = m := ⟨_, rfl⟩
  rw [hm] at hm1 ⊢
  have hb1 : Below w.heap.size w w1 := ((Below.refl _ w).drew).trans hb1
  have hm0 : w.heap.size ≤ m := Nat.le_of_eq hm
  have hd1 := Below.heap hb1 H.out.hd hdl
  have z0 : w1.cell? ⟨x0, 0, none⟩ = some (.pointer (some ⟨L.d, 0, none⟩)) := (hb1.cell (p := ⟨x0, 0, none⟩) hx0).trans c0
  have z6 : w1.cell? ⟨L.d, 6, none⟩ = some (.map (some L.s6)) := by rw [cell_at hd1]; rfl
  have z7 : w1.cell? ⟨L.d, 7, none⟩ = some L.pv := by rw [cell_at hd1]; rfl
  have g6 : w1.frozen? ⟨L.d, 6, none⟩ = false := frozen_at hd1
  have g7 : w1.frozen? ⟨L.d, 7, none⟩ = false := frozen_at hd1
  have Hd1 := Lib.hid hd1
  have Hm1 := Lib.hid hm1
  have Hb1 := Lib.hid hb1
  clear hd1 hm1 hb1 hz1 hm
  refine hK _ _ (StayOk.cons rfl (by go_simp) (StayOk.cons rfl (by go_simp) (StayOk.nil))) ?_; clear hK K
  refine reg_quiet 7 rfl (by kernel_rfl) (fun K hK => ?_)
  go_simp
  refine hK _ ?_; clear hK K
  refine reg_quiet 8 rfl (by kernel_rfl) (fun K hK => ?_)
  go_simp
  refine hK _ ?_; clear hK K
  refine reg_turn 9 [1] rfl (by kernel_rfl) (by kernel_rfl) (fun K hK => ?_)
  go_simp
  refine hK _ _ (StayOk.cons rfl (by go_simp) (StayOk.nil)) ?_; clear hK K
  refine reg_quiet 10 rfl (by kernel_rfl) (fun K hK => ?_)
  go_simp
  refine hK _ ?_; clear hK K
  refine reg_quiet 11 rfl (by kernel_rfl) (fun K hK => ?_)
  go_simp
  refine hK _ ?_; clear hK K
  refine reg_turn 12 [] rfl (by kernel_rfl) (by kernel_rfl) (fun K hK => ?_)
  go_simp
  refine hK _ _ (StayOk.nil) ?_; clear hK K
  refine reg_done (by kernel_rfl) ?_
  go_wp2_with fail
  go_ret
  refine Dealt.of (c := 0) (D' := D.syncDir.2) (L' := L.sync m) w.heap.size rfl rfl ?_ (Nat.le_refl _)
  refine sync_fin H.out hm0 (((((Keeps.of_below Hb1.out).mono (T := fun b => b = L.d) (fun _ _ h => h.elim)).setCell (p := ⟨L.d, 6, none⟩) (fun _ => rfl) _).setCell (p := ⟨L.d, 7, none⟩) (fun _ => rfl) _)) (Hm1.out.keep ?_) rfl ?_
  · have hne : m ≠ L.d := by omega
    exact (Below.heap_setCell _ _ _ _ hne).trans (Below.heap_setCell _ _ _ _ hne)
  · rw [heap_setCell_at (heap_setCell_at Hd1.out _)]; rfl

theorem enter_syncdir1 (args : Array Value) (w : World) : (callFunc 54 args).run Tryd.prog w = .ok (.enter 54 args) w := by kernel_rfl

set_option maxRecDepth 100000 in
theorem syncdir_at (hR : RightOk) {w : World} {L : Lay} {D : PD} (h : DiskAt w L D) (hD : D.Ok) (hC : 0 ≤ D.deeds ∧ D.deeds < 1000000000000) :
    Calls Tryd.prog 24 #[.pointer (some ⟨L.d, 0, none⟩)] w (Dealt w L fun _ => D.deed true fun D' => D'.syncDir) := by
  have H := Lib.hid h
  have HD := Lib.hid hD
  have HC := Lib.hid hC
  have hdl := lt_of_heap h.hd
  clear h hD hC
  go_enter Tryd.func24, Tryd.ntmps24
  go_wp2_with fail
  have x0 : (w.alloc (.cells #[.pointer (some ⟨L.d, 0, none⟩)] 25)).heap[w.heap.size]? = some (.cells #[.pointer (some ⟨L.d, 0, none⟩)] 25 (0, 0)) := heap_alloc_at rfl _
  have hbw : Below w.heap.size w (w.alloc (.cells #[.pointer (some ⟨L.d, 0, none⟩)] 25)) := (Below.refl _ w).alloc (Nat.le_refl _) _
  refine (deed_at hR (H.out.below hbw) HD.out HC.out enter_syncdir1 (ss := []) (Lst.nil _) (fun q hq => by cases hq) (fun s hs' => by cases hs') (by simp) (g := fun D' _ => D'.syncDir) (fun w1 hk1 h1 => ?_)).mono ?_
  · exact syncdir1_at h1 (hk1.one x0 (by omega)) (H.out.top _ (Nat.le_refl _))
  · rintro e w1 hd
    obtain ⟨p, L1, rfl, hst, hp⟩ := Dealt.before (step_below H.out hbw) hd
    rw [show [].all rightP = true from rfl] at hst ⊢
    go_wp2_with fail
    go_ret
    exact ⟨p, L1, rfl, hst, hp⟩

/-! ### a disk that is not there -/
theorem deed_nil (w : World) (f : Nat) (cap : Array Value) (v : Value) (_ : v.oneCell' = true) :
    Calls Tryd.prog 30 #[.pointer none, .func (.func f) #[] cap, v] w fun e w' => e = .returned (.int .i64 8) ∧ w = w' := by
  go_enter Tryd.func30, Tryd.ntmps30
  go_wp2
  go_ret
  exact ⟨rfl, rfl⟩
end Go.Proofs.YtbckbkcpfejllaaDoor
