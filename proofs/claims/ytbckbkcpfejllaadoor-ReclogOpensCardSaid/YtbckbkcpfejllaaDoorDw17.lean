/- The walk of Restart. -/
import Derived.Test.YtbckbkcpfejllaaDoorDw16
namespace Go.Proofs.YtbckbkcpfejllaaDoor
open Go.RowKit Go.Maps Go.WideMaps

def intV (n : Int) : Value := .int .i64 n
/-- The disk behind the first changes. -/
def midD (D : PD) (i : Nat) : PD := { D with files := (D.pend.take i).foldl (fun l c => c.does l) D.sure, sure := D.files }

theorem Lst.keepN {w w' : World} {v : Value} {vs : List Value} (h : Lst w v vs) (hb : vs ≠ [] → ∀ b, v.ownBlock = some b → b < w.heap.size → w'.heap[b]? = w.heap[b]?) : Lst w' v vs := by
  by_cases hx : vs = []
  · subst hx
    obtain ⟨a, cap, h1, h2, h3, _⟩ := h
    exact ⟨a, cap, h1, h2, h3, fun j hj => by cases hj⟩
  · exact h.keep (hb hx)
theorem map_ne {α β : Type} {l : List α} {f : α → β} (h : l.map f ≠ []) : l ≠ [] := fun e => h (by rw [e]; rfl)

set_option maxRecDepth 100000 in
set_option maxHeartbeats 4000000 in
theorem restart_at {w : World} {L : Lay} {D : PD} (h : DiskAt w L D) (hm : L.mid = false) (hc0 : 0 ≤ D.clock) (hc1 : D.clock < 900000000000) (hlen : D.sure.length + D.pend.length ≤ 1000000) {dir : Int} {tv : Value} {tails : List Int} (hd0 : -9223372036854775808 ≤ dir) (hd1 : dir ≤ 9223372036854775807)
    (ht : Lst w tv (tails.map intV)) (_ : tails.length ≤ 1000000) (htb : ∀ t ∈ tails, -9223372036854775808 ≤ t ∧ t ≤ 9223372036854775807) (hto : tails ≠ [] → ∀ b, tv.ownBlock = some b → L.role b = 0) :
    Calls Tryd.prog 25 #[.pointer (some ⟨L.d, 0, none⟩), .agg #[.int .i64 dir, tv]] w fun e w' => e = .returned (.tuple #[]) ∧ ∃ L', Step w L w' L' (D.restart dir tails) := by
  obtain ⟨ta, tcap, rfl⟩ : ∃ a cp, tv = .slice a tails.length cp := by
    obtain ⟨a, cp, rfl, _⟩ := ht
    exact ⟨a, cp, by rw [List.length_map]⟩
  have hdl := lt_of_heap h.hd
  have k5 := h.cell 5
  have k6 := h.cell 6
  have g5 := h.free 5
  simp only [List.getElem?_toArray, List.getElem?_cons_zero, List.getElem?_cons_succ] at k5 k6
  rw [h.h6 hm] at k6
  have H := Lib.hid h
  have Ht := Lib.hid ht
  have Htb := Lib.hid htb
  have Hto := Lib.hid hto
  have Hm := Lib.hid hm
  clear h ht htb hto hm
  go_enter Tryd.func25, Tryd.ntmps25
  go_wp2_with fail
  obtain ⟨w1, hw1⟩ : ∃ w1 : World, (w.setCell ⟨L.d, 5, none⟩ (.map (some L.ms))).alloc (.cells #[.int .i64 dir, .slice ta tails.length tcap] 57) = w1 := ⟨_, rfl⟩
  rw [hw1]
  have hx : w1.heap[w.heap.size]? = some (.cells #[.int .i64 dir, .slice ta tails.length tcap] 57 (0, 0)) := by rw [← hw1]; exact heap_alloc_at (by simp [World.setCell]) _
  have hk1 : Keeps (fun b => b = L.d) w w1 := by rw [← hw1]; exact ((Keeps.refl (fun b => b = L.d) w).setCell (p := ⟨L.d, 5, none⟩) (fun _ => rfl) _).alloc _
  have hd1w : w1.heap[L.d]? = some (.cells #[.int .i64 D.quota, .int .i64 D.clock, .int .i64 D.deeds, .int .i64 D.armed, .bool D.down, .map (some L.ms), .map (some L.ms), L.pv] 68 (0, 0)) := by
    rw [← hw1]
    refine heap_alloc_of ?_ _
    rw [heap_setCell_at H.out.hd, H.out.h6 Hm.out]; rfl
  have hz1 : w.heap.size < w1.heap.size := lt_of_heap hx
  clear hw1
  obtain ⟨hat1, hvia1⟩ := mid_start H.out Hm.out hk1 hd1w
  have hx0 : L.swap.role w.heap.size = 0 := by
    have := H.out.top w.heap.size (Nat.le_refl _)
    simp only [Lay.swap]
    rw [if_neg (fun e => by have := H.out.hs.lt; omega), if_neg (fun e => by have := H.out.hf.lt; omega)]
    exact this
  have htw1 : Lst w1 (.slice ta tails.length tcap) (tails.map intV) := Ht.out.keepN fun hne b hb hlt => hk1.block b hlt (fun e => by have := Hto.out (map_ne hne) b hb; rw [e, H.out.rd] at this; cases this)
  have hsl : ∃ a0 cap0, L.pv = .slice a0 D.pend.length cap0 ∧ (a0 = none → cap0 = 0 ∧ D.pend.length = 0) ∧ D.pend.length ≤ cap0 ∧ cap0 ≤ maxLen := by
    rcases H.out.hp.2 with ⟨h1, h2⟩ | ⟨g, cap', cur, h1, hg, h2, h3, h4, h5⟩
    · exact ⟨none, 0, by rw [h1, h2], fun _ => ⟨rfl, h2⟩, by omega, Nat.zero_le _⟩
    · exact ⟨_, cap', h1, (fun h => by cases h), h2, h4⟩
  obtain ⟨a0, cap0, hpv, hnil, hcap0, hcap1⟩ := hsl
  unfold maxLen at hcap1
  have z0 : w1.cell? ⟨w.heap.size, 0, none⟩ = some (.int .i64 dir) := by rw [cell_at hx]; rfl
  have z1 : w1.cell? ⟨w.heap.size, 1, none⟩ = some (.slice ta tails.length tcap) := by rw [cell_at hx]; rfl
  have z7 : w1.cell? ⟨L.d, 7, none⟩ = some (.slice a0 D.pend.length cap0) := by rw [cell_at hd1w, ← hpv]; rfl
  obtain ⟨k, hk⟩ : ∃ k, min (max dir 0).toNat D.pend.length = k := ⟨_, rfl⟩
  have hkn : min (max dir 0) (D.pend.length : Int) = (k : Int) := by omega
  have hkl : k ≤ D.pend.length := by omega
  have hkc : k ≤ cap0 := by omega
  have Hk := Lib.hid hk
  have Hkn := Lib.hid hkn
  have Hx := Lib.hid hx
  have Hat := Lib.hid hat1
  have Hvia := Lib.hid hvia1
  have Hx0 := Lib.hid hx0
  have Htw := Lib.hid htw1
  have hts : tails ≠ [] → ∀ b, (Value.slice ta tails.length tcap).ownBlock = some b → L.swap.role b = 0 := fun hne b hb => by
    have h0 := Hto.out hne b hb
    simp only [Lay.swap]
    rw [if_neg (fun e => by rw [e, H.out.rs] at h0; cases h0), if_neg (fun e => by rw [e, H.out.rf] at h0; cases h0)]
    exact h0
  have Hts := Lib.hid hts
  clear hts
  have Hpv := Lib.hid hpv
  have Hnil := Lib.hid hnil
  clear hk hkn hx hk1 hd1w hat1 hvia1 hx0 htw1 hpv hnil k5 k6 g5
  refine wp_region_reg (by kernel_rfl) (by kernel_rfl) ?_
  refine reg_quiet 0 rfl (by kernel_rfl) (fun K hK => ?_)
  go_simp
  refine hK _ ?_; clear hK K
  refine reg_quiet 1 rfl (by kernel_rfl) (fun K hK => ?_)
  go_simp
  refine hK _ ?_; clear hK K
  refine reg_quiet 2 rfl (by kernel_rfl) (fun K hK => ?_)
  go_simp
  refine hK _ ?_; clear hK K
  refine reg_quiet 3 rfl (by kernel_rfl) (fun K hK => ?_)
  go_simp
  refine hK _ ?_; clear hK K
  refine reg_quiet 4 rfl (by kernel_rfl) (fun K hK => ?_)
  go_simp
  refine hK _ ?_; clear hK K
  refine reg_quiet 5 rfl (by kernel_rfl) (fun K hK => ?_)
  go_simp
  refine hK _ ?_; clear hK K
  refine reg_quiet 6 rfl (by kernel_rfl) (fun K hK => ?_)
  go_simp
  refine hK _ ?_; clear hK K
  refine reg_quiet 7 rfl (by kernel_rfl) (fun K hK => ?_)
  go_simp
  refine hK _ ?_; clear hK K
  refine reg_quiet 8 rfl (by kernel_rfl) (fun K hK => ?_)
  go_simp
  refine hK _ ?_; clear hK K
  refine reg_quiet 9 rfl (by kernel_rfl) (fun K hK => ?_)
  go_simp
  refine hK _ ?_; clear hK K
  refine reg_quiet 10 rfl (by kernel_rfl) (fun K hK => ?_)
  go_simp
  refine hK _ ?_; clear hK K
  refine reg_quiet 11 rfl (by kernel_rfl) (fun K hK => ?_)
  go_simp
  refine hK _ ?_; clear hK K
  refine reg_quiet 12 rfl (by kernel_rfl) (fun K hK => ?_)
  go_simp
  rw [Hkn.out]
  refine hK _ ?_; clear hK K
  refine reg_quiet 13 rfl (by kernel_rfl) (fun K hK => ?_)
  go_simp
  refine hK _ ?_; clear hK K
  refine reg_quiet 14 rfl (by kernel_rfl) (fun K hK => ?_)
  go_simp
  refine hK _ ?_; clear hK K
  refine reg_quiet 15 rfl (by kernel_rfl) (fun K hK => ?_)
  go_simp
  refine hK _ ?_; clear hK K
  refine reg_done (by kernel_rfl) ?_
  have hk0 : Keeps (fun b => L.swap.role b ≠ 0) w1 w1.drew := (Keeps.refl _ w1).drew
  have hat0 : DiskAt w1.drew L.swap (midD D 0) := Hat.out.keep (Nat.le_refl _) (fun _ _ _ => rfl)
  have Hk0 := Lib.hid hk0
  have Hat0 := Lib.hid hat0
  clear hk0 hat0 z0 z1 z7
  go_wp2_with fail
  go_loopw [5, 33] (fun _ t wr => ∃ j : Nat, j ≤ k ∧ t = .int .i64 j ∧ DiskAt wr L.swap (midD D j) ∧ Keeps (fun b => L.swap.role b ≠ 0) w1 wr) (fun _ t _ => k - (intOf t).toNat)
  case atStart => exact ⟨0, Nat.zero_le _, rfl, Hat0.out, Hk0.out⟩
  case round =>
    obtain ⟨j, hj, rfl, hat, hkp⟩ := hrel
    have Ha := Lib.hid hat
    have Hkp := Lib.hid hkp
    clear hat hkp
    have hdh : wr.heap[L.d]? = some (.cells #[.int .i64 D.quota, .int .i64 D.clock, .int .i64 D.deeds, .int .i64 D.armed, .bool D.down, .map (some L.ms), .map (some L.ms), L.pv] 68 (0, 0)) := Ha.out.hd
    have d5 : wr.cell? ⟨L.d, 5, none⟩ = some (.map (some L.ms)) := by rw [cell_at hdh]; rfl
    have hdr := lt_of_heap hdh
    have Hdh := Lib.hid hdh
    clear hdh
    by_cases hlt : j < k
    · have hjp : j < D.pend.length := by omega
      have hrow : Row wr 93 3 (.slice a0 D.pend.length cap0) D.pend.length (D.pend.flatMap Chg.cells) := by rw [← Hpv.out]; exact Ha.out.hp
      obtain ⟨g, rfl, _, _, hgc⟩ := Row.cell hrow (by omega)
      have hcm : D.pend[j] ∈ (midD D j).pend := List.getElem_mem hjp
      have hnx : (midD D (j + 1)) = { midD D j with files := (D.pend[j]).does (midD D j).files } := by
        unfold midD
        rw [List.take_succ_eq_append_getElem hjp, List.foldl_append]; rfl
      obtain ⟨ho1, ho2, ho3, ho4⟩ := Ha.out.okp _ hcm
      have hfl : (midD D j).files.length ≤ 1000000 := by
        have := foldl_len (D.pend.take j) D.sure
        rw [List.length_take] at this
        show ((D.pend.take j).foldl (fun l c => c.does l) D.sure).length ≤ 1000000
        omega
      have hcell : ∀ r v, r < 3 → (D.pend[j]).cells[r]? = some v → wr.cell? ⟨g, j * 3 + r, none⟩ = some v := fun r v hr hv => by
        have h1 := chg_cell D.pend j r hjp hr
        rw [hv] at h1
        obtain ⟨h2, h3⟩ := List.getElem?_eq_some_iff.1 h1
        rw [hgc _ h2, h3]
      have hfin := fun (w2 w3 : World) (hw2 : Keeps (fun b => L.swap.role b ≠ 0) wr w2) (ha2 : DiskAt w2 L.swap (midD D j)) (hk3 : Keeps (fun b => b = L.ms) w2 w3) (hm3 : MapP Tryd.prog 9 w3 L.ms ((D.pend[j]).does (midD D j).files)) =>
        (show DiskAt w3 L.swap (midD D (j + 1)) ∧ Keeps (fun b => L.swap.role b ≠ 0) w1 w3 from ⟨by rw [hnx]; exact does_files ha2 hcm hk3 hm3, (Hkp.out.trans hw2 (fun b _ h => h)).trans hk3 (fun b _ e => by rw [e]; exact (by rw [Ha.out.rf]; decide : L.swap.role L.swap.mf ≠ 0))⟩)
      have hdo := fun (w2 : World) (hm2 : MapP Tryd.prog 9 w2 L.ms (midD D j).files) => does_at hm2 D.pend[j] ho2 ho3 ho4 hfl
      have hmf : MapP Tryd.prog 9 wr L.ms (midD D j).files := Ha.out.hf
      have hml := hmf.lt
      generalize D.pend[j] = c at *
      obtain ⟨name, to, gone⟩ := c
      have e0 : wr.cell? ⟨g, j * 3, none⟩ = some (.string name) := hcell 0 _ (by omega) rfl
      have e1 : wr.cell? ⟨g, j * 3 + 1, none⟩ = some (ptrV to) := hcell 1 _ (by omega) rfl
      have e2 : wr.cell? ⟨g, j * 3 + 2, none⟩ = some (.string gone) := hcell 2 _ (by omega) rfl
      have hpt : to = none ∨ ∃ p, to = some p := by cases to <;> simp
      have Hfin := Lib.hid hfin
      have Hdo := Lib.hid hdo
      have Hmf := Lib.hid hmf
      clear hfin hdo hmf hcell hgc hrow hcm hnx ho1 ho2 ho3 ho4 hfl
      rcases hpt with rfl | ⟨p, rfl⟩
      all_goals
        simp only [ptrV_some, ptrV_none] at e1
        go_wp2_with fail
        refine wp_region_reg (by kernel_rfl) (by kernel_rfl) ?_
        refine reg_quiet 0 rfl (by kernel_rfl) (fun K hK => ?_)
        go_simp
        refine hK _ ?_; clear hK K
        refine reg_quiet 1 rfl (by kernel_rfl) (fun K hK => ?_)
        go_simp
        refine hK _ ?_; clear hK K
        refine reg_quiet 2 rfl (by kernel_rfl) (fun K hK => ?_)
        go_simp
        refine hK _ ?_; clear hK K
        refine reg_quiet 3 rfl (by kernel_rfl) (fun K hK => ?_)
        go_simp
        refine hK _ ?_; clear hK K
        refine reg_quiet 4 rfl (by kernel_rfl) (fun K hK => ?_)
        go_simp
        refine hK _ ?_; clear hK K
        refine reg_turn 5 [] rfl (by kernel_rfl) (by kernel_rfl) (fun K hK => ?_)
        go_simp
        refine (Hdo.out (World.drew (wr.alloc _)) (Hmf.out.keep (Below.heap_alloc _ _ _ hml))).mono ?_
        rintro e w3 ⟨rfl, hm3, hk3⟩
        have hfn := Hfin.out _ w3 (((Keeps.refl _ wr).alloc _).drew) (Ha.out.keep (by simp) (fun b hb _ => Below.heap_alloc _ _ _ hb)) hk3 hm3
        have Hfn := Lib.hid hfn
        clear hm3 hk3 hfn
        refine hK _ _ (StayOk.nil) ?_; clear hK K
        refine reg_done (by kernel_rfl) ?_
        go_wp2_with fail
        go_roundw
        case rel => exact ⟨j + 1, by omega, by go_num, Hfn.out.1, Hfn.out.2⟩
        case measure => simp [intOf]; omega
    · obtain rfl : j = k := by omega
      have hbk : (midD D j).files = D.back dir := by simp only [midD, PD.back, Hk.out]
      have hmf : MapP Tryd.prog 9 wr L.ms (midD D j).files := Ha.out.hf
      have hfl : (midD D j).files.length ≤ 1000000 := by
        have := foldl_len (D.pend.take j) D.sure
        rw [List.length_take] at this
        show ((D.pend.take j).foldl (fun l c => c.does l) D.sure).length ≤ 1000000
        omega
      have Hmf := Lib.hid hmf
      have Hbk := Lib.hid hbk
      clear hmf hbk
      go_wp2_with fail
      refine (keys_at L.ms wr).mono ?_
      rintro e w2 ⟨rfl, rfl⟩
      go_wp2_with fail
      refine (sorted_at Hmf.out hfl).mono ?_
      rintro e w4 ⟨nv, rfl, hnl, hb4, hnb⟩
      have hkw4 : Keeps (fun b => L.swap.role b ≠ 0) w1 w4 := Hkp.out.trans ((Keeps.of_below hb4).mono (T := fun b => L.swap.role b ≠ 0) (fun _ _ h => h.elim)) (fun _ _ h => h)
      have ha4 : DiskAt w4 L.swap (midD D j) := Ha.out.below hb4
      have hz4 : w1.heap.size ≤ w4.heap.size := hkw4.size
      obtain ⟨na, ncap, rfl⟩ : ∃ a cp, nv = .slice a (midD D j).files.length cp := by
        obtain ⟨a, cp, rfl, _⟩ := hnl
        exact ⟨a, cp, by rw [List.length_map]⟩
      have hnr : ∀ b, (Value.slice na (midD D j).files.length ncap).ownBlock = some b → L.swap.role b = 0 := fun b hb => Ha.out.top b (hnb b hb)
      obtain ⟨N, hN⟩ : ∃ N, (midD D j).files.length = N := ⟨_, rfl⟩
      rw [hN] at hfl
      have Hkw4 := Lib.hid hkw4
      have Ha4 := Lib.hid ha4
      have Hnl := Lib.hid hnl
      have Hnr := Lib.hid hnr
      have HN := Lib.hid hN
      simp only [hN]
      clear hkw4 ha4 hnl hnr hb4 hnb d5 hN
      go_wp2_with fail
      have hst0 : Step w4 L.swap w4 L.swap (PD.cutsAll tails 0 ((midD D j).files.take 0) (midD D j)) := step_below Ha4.out (Below.refl _ _)
      have Hst0 := Lib.hid hst0
      clear hst0
      go_loopw [6, 7, 8, 51] (fun _ _ _ t wr2 => ∃ i : Nat, i ≤ N ∧ t = .int .i64 i ∧ ∃ Li, Step w4 L.swap wr2 Li (PD.cutsAll tails 0 ((midD D j).files.take i) (midD D j))) (fun _ _ _ t _ => N - (intOf t).toNat)
      case atStart => exact ⟨0, Nat.zero_le _, rfl, L.swap, Hst0.out⟩
      case round =>
        obtain ⟨i, hi, rfl, Li, hst⟩ := hrel
        obtain ⟨b1, b2, b3, b4, b5, b6, b7, b8, b9⟩ := cutsAll_files tails ((midD D j).files.take i) 0 (midD D j)
        have hwk : Keeps (fun b => L.swap.role b ≠ 0) w1 wr := Hkw4.out.trans hst.keeps (fun _ _ h => h)
        have hx2 := hwk.heap Hx.out (by rw [Hx0.out]; simp)
        have z1 : wr.cell? ⟨w.heap.size, 1, none⟩ = some (.slice ta tails.length tcap) := by rw [cell_at hx2]; rfl
        have hdh2 : wr.heap[L.d]? = _ := hst.same ▸ hst.at_.hd
        have d5 : wr.cell? ⟨L.d, 5, none⟩ = some (.map (some Li.mf)) := by rw [cell_at hdh2]; rfl
        have hdl2 := lt_of_heap hdh2
        have hxl2 := lt_of_heap hx2
        have htw : Lst wr (.slice ta tails.length tcap) (tails.map intV) := Htw.out.keepN fun hne b hb hlt => hwk.block b hlt (by rw [Hts.out (map_ne hne) b hb]; simp)
        have hnw : Lst wr (.slice na N ncap) ((midD D j).files.map nameV) := (HN.out ▸ Hnl.out : Lst w4 (.slice na N ncap) _).keep fun b hb hlt => hst.keeps.block b hlt (by rw [Hnr.out b (by rw [own_slice na _ ncap N ncap]; exact hb)]; simp)
        by_cases hlt : i < N
        · have hif : i < (midD D j).files.length := by rw [HN.out]; exact hlt
          obtain ⟨_, _, hse, _, _, hnc⟩ := hnw
          obtain ⟨nb, no, hna, hncell⟩ := hnc i (by rw [List.length_map]; exact hif)
          injection hse with e1 e2 e3
          subst e1 e3
          clear e2
          subst hna
          rw [List.getElem_map] at hncell
          have hmem := List.getElem_mem hif
          have hrole : Li.role ((midD D j).files[i]).2 = 3 := hst.r3 _ (Ha4.out.okf _ hmem)
          have hlk := hst.at_.hf.look Tryd.underlying9 Tryd.underlying65 (zero_ptr wr) ⟨((midD D j).files[i]).1.toArray⟩ (by have := Ha4.out.hf.small _ hmem; simpa [ByteArray.size] using this) false
          rw [b1, show bs ⟨((midD D j).files[i]).1.toArray⟩ = ((midD D j).files[i]).1 by simp [bs], find_of_mem Ha4.out.hf.apart hmem] at hlk
          simp only [ptrV_some, Bool.false_eq_true, if_false] at hlk
          have hlkd := (hst.at_.hf.keep (w' := wr.drew) rfl).look Tryd.underlying9 Tryd.underlying65 (zero_ptr wr.drew) ⟨((midD D j).files[i]).1.toArray⟩ (by have := Ha4.out.hf.small _ hmem; simpa [ByteArray.size] using this) false
          rw [b1, show bs ⟨((midD D j).files[i]).1.toArray⟩ = ((midD D j).files[i]).1 by simp [bs], find_of_mem Ha4.out.hf.apart hmem] at hlkd
          simp only [ptrV_some, Bool.false_eq_true, if_false] at hlkd
          have hdk := hst.at_
          have hck0 : 0 ≤ (PD.cutsAll tails 0 ((midD D j).files.take i) (midD D j)).clock := Int.le_trans hc0 b8
          have hck1 : (PD.cutsAll tails 0 ((midD D j).files.take i) (midD D j)).clock < 1000000000000 := by
            have h1 : ((midD D j).files.take i).length = i := by rw [List.length_take]; omega
            rw [h1] at b9
            have h2 : (midD D j).clock = D.clock := rfl
            omega
          have hnext : ∀ w5 L5, Step wr Li w5 L5 ((PD.cutsAll tails 0 ((midD D j).files.take i) (midD D j)).cuts ((midD D j).files[i]).2 (PD.tailOf tails i)) → Step w4 L.swap w5 L5 (PD.cutsAll tails 0 ((midD D j).files.take (i + 1)) (midD D j)) := fun w5 L5 h5 => by
            have h1 : ((midD D j).files.take i).length = i := by rw [List.length_take]; omega
            rw [List.take_succ_eq_append_getElem hif, cutsAll_snoc, h1, Nat.zero_add]
            exact hst.trans h5
          have Hnext := Lib.hid hnext
          have Hrole := Lib.hid hrole
          have Hdk := Lib.hid hdk
          replace hncell : wr.cell? ⟨nb, no + i, none⟩ = some (.string ⟨((midD D j).files[i]).1.toArray⟩) := hncell
          have hsame : Li.d = L.d := hst.same
          have Hsame := Lib.hid hsame
          have hcall := fun (w5 : World) (h5 : DiskAt w5 Li (PD.cutsAll tails 0 ((midD D j).files.take i) (midD D j))) (t : Int) (h1 : -9223372036854775808 ≤ t) (h2 : t ≤ 9223372036854775807) => cuts_at h5 hck0 hck1 hrole h1 h2
          rw [hsame] at hcall
          have Hcall := Lib.hid hcall
          clear hnc hmem hrole hnext hdk hdh2 hx2 hwk hst hsame hcall b1 b2 b3 b4 b5 b6 b7 b8 b9
          generalize (⟨((midD D j).files[i]).1.toArray⟩ : ByteArray) = s at *
          generalize ((midD D j).files[i]).2 = q at *
          by_cases htz : tails = []
          · have hd : decide ((0 : Int) < (tails.length : Int)) = false := by rw [htz]; rfl
            have hdn : decide (0 < tails.length) = false := by rw [htz]; rfl
            have Htz := Lib.hid htz
            have htail : PD.tailOf tails i = 0 := by unfold PD.tailOf; rw [if_pos htz]
            have Htail := Lib.hid htail
            clear htz htail
            go_wp2_with fail
            refine (Hcall.out _ Hdk.out 0 (by omega) (by omega)).mono ?_
            rintro e w5 ⟨rfl, L5, h5⟩
            have H5 := Lib.hid h5
            clear h5
            go_wp2_with fail
            go_roundw
            case rel => exact ⟨i + 1, by omega, by go_num, L5, Hnext.out _ _ (by rw [Htail.out]; exact H5.out)⟩
            case measure => simp [intOf]; omega
          · have htp : 0 < tails.length := List.length_pos_iff.2 htz
            have hd : decide ((0 : Int) < (tails.length : Int)) = true := by simpa using htp
            have hdn : decide (0 < tails.length) = true := by simpa using htp
            obtain ⟨r, hr⟩ : ∃ r, i % tails.length = r := ⟨_, rfl⟩
            have hrl : r < tails.length := by rw [← hr]; exact Nat.mod_lt _ htp
            have hrem : (i : Int).tmod (tails.length : Int) = (r : Int) := by rw [← hr, Int.ofNat_tmod]
            have htail : PD.tailOf tails i = tails[r] := by unfold PD.tailOf; rw [if_neg htz, hr]; simp [hrl]
            obtain ⟨_, _, hte, _, _, htc⟩ := htw
            obtain ⟨tb, tof, hta, htcell⟩ := htc r (by rw [List.length_map]; exact hrl)
            injection hte with e1 e2 e3
            subst e1 e3
            clear e2
            rw [List.getElem_map] at htcell
            replace htcell : wr.cell? ⟨tb, tof + r, none⟩ = some (.int .i64 tails[r]) := htcell
            obtain ⟨hb0, hb1⟩ := Htb.out _ (List.getElem_mem hrl)
            have Htail := Lib.hid htail
            clear htail htc hr
            generalize tails[r] = tl at *
            subst hta
            go_wp2_with fail
            refine wp_region_reg (by kernel_rfl) (by kernel_rfl) ?_
            refine reg_quiet 0 rfl (by kernel_rfl) (fun K hK => ?_)
            go_simp
            refine hK _ ?_; clear hK K
            refine reg_quiet 1 rfl (by kernel_rfl) (fun K hK => ?_)
            go_simp
            refine hK _ ?_; clear hK K
            refine reg_quiet 2 rfl (by kernel_rfl) (fun K hK => ?_)
            go_simp
            refine hK _ ?_; clear hK K
            refine reg_quiet 3 rfl (by kernel_rfl) (fun K hK => ?_)
            go_simp
            refine hK _ ?_; clear hK K
            refine reg_quiet 4 rfl (by kernel_rfl) (fun K hK => ?_)
            go_simp
            refine hK _ ?_; clear hK K
            refine reg_quiet 5 rfl (by kernel_rfl) (fun K hK => ?_)
            go_simp
            refine hK _ ?_; clear hK K
            refine reg_quiet 6 rfl (by kernel_rfl) (fun K hK => ?_)
            go_simp
            refine hK _ ?_; clear hK K
            refine reg_quiet 7 rfl (by kernel_rfl) (fun K hK => ?_)
            go_simp
            refine hK _ ?_; clear hK K
            refine reg_quiet 8 rfl (by kernel_rfl) (fun K hK => ?_)
            go_simp
            refine hK _ ?_; clear hK K
            refine reg_quiet 9 rfl (by kernel_rfl) (fun K hK => ?_)
            go_simp
            refine hK _ ?_; clear hK K
            refine reg_done (by kernel_rfl) ?_
            go_wp2_with fail
            refine (Hcall.out wr.drew (Hdk.out.keep (Nat.le_refl _) (fun _ _ _ => rfl)) tl hb0 hb1).mono ?_
            rintro e w5 ⟨rfl, L5, h5⟩
            have h6 : Step wr Li w5 L5 _ := (step_keep Hdk.out ((Keeps.refl (fun _ => False) wr).drew) (fun _ _ _ h => h) (fun _ _ h => h)).trans h5
            have H5 := Lib.hid h6
            clear h5 h6
            go_wp2_with fail
            go_roundw
            case rel => exact ⟨i + 1, by omega, by go_num, L5, Hnext.out _ _ (by rw [Htail.out]; exact H5.out)⟩
            case measure => simp [intOf]; omega
        · obtain rfl : i = N := by omega
          have hall : (midD D j).files.take i = (midD D j).files := List.take_of_length_le (by rw [HN.out]; exact Nat.le_refl _)
          have hst2 := hst
          rw [hall] at hst2 b1 b2 b3 b4 b5 b6 b7
          have hm2 := hst2.at_.hf
          have hcl := clone_map hm2
          have Hst2 := Lib.hid hst2
          have Hb := Lib.hid (And.intro b1 (And.intro b2 (And.intro b3 (And.intro b4 (And.intro b5 (And.intro b6 b7))))))
          have Hcl := Lib.hid hcl
          have Hdh2 := Lib.hid hdh2
          have Hall := Lib.hid hall
          clear hst hst2 hm2 hcl hdh2 hall b1 b2 b3 b4 b5 b6 b7 b8 b9 hx2 hwk htw hnw
          go_wp2_with fail
          refine Hcl.out.mono ?_
          rintro e w5 ⟨rfl, hm5, hb5, hz5⟩
          obtain ⟨m, hm⟩ : ∃ m, wr.heap.size = m := ⟨_, rfl⟩
          rw [hm] at hm5 ⊢
          have hm0 : wr.heap.size ≤ m := Nat.le_of_eq hm
          have hd5 := Below.heap hb5 Hdh2.out hdl2
          have v3 : w5.cell? ⟨L.d, 3, none⟩ = some (.int .i64 (PD.cutsAll tails 0 (midD D j).files (midD D j)).armed) := by rw [cell_at hd5, Hall.out]; rfl
          have v4 : w5.cell? ⟨L.d, 4, none⟩ = some (.bool (PD.cutsAll tails 0 (midD D j).files (midD D j)).down) := by rw [cell_at hd5, Hall.out]; rfl
          have v6 : w5.cell? ⟨L.d, 6, none⟩ = some (.map (some Li.s6)) := by rw [cell_at hd5]; rfl
          have v7 : w5.cell? ⟨L.d, 7, none⟩ = some Li.pv := by rw [cell_at hd5]; rfl
          have u3 : w5.frozen? ⟨L.d, 3, none⟩ = false := frozen_at hd5
          have u4 : w5.frozen? ⟨L.d, 4, none⟩ = false := frozen_at hd5
          have u6 : w5.frozen? ⟨L.d, 6, none⟩ = false := frozen_at hd5
          have u7 : w5.frozen? ⟨L.d, 7, none⟩ = false := frozen_at hd5
          have Hd5 := Lib.hid hd5
          have Hm5 := Lib.hid hm5
          have Hb5 := Lib.hid hb5
          clear hd5 hm5 hb5 hz5 hm
          go_wp2_with fail
          go_end0
          have hsd : Li.d = L.d := Hst2.out.same
          have st6 : Step wr Li ((((w5.setCell ⟨L.d, 6, none⟩ (.map (some m))).setCell ⟨L.d, 7, none⟩ (.slice none 0 0)).setCell ⟨L.d, 3, none⟩ (.int .i64 (-1))).setCell ⟨L.d, 4, none⟩ (.bool false)) (Li.sync m) { PD.cutsAll tails 0 (midD D j).files (midD D j) with sure := (PD.cutsAll tails 0 (midD D j).files (midD D j)).files, pend := [], armed := -1, down := false } := by
            refine sync_fin Hst2.out.at_ hm0 ?_ (Hm5.out.keep ?_) rfl ?_
            · rw [hsd]
              exact ((((((Keeps.of_below Hb5.out).mono (T := fun b => b = L.d) (fun _ _ h => h.elim)).setCell (p := ⟨L.d, 6, none⟩) (fun _ => rfl) _).setCell (p := ⟨L.d, 7, none⟩) (fun _ => rfl) _).setCell (p := ⟨L.d, 3, none⟩) (fun _ => rfl) _).setCell (p := ⟨L.d, 4, none⟩) (fun _ => rfl) _)
            · have hne : m ≠ L.d := by omega
              exact (Below.heap_setCell _ _ _ _ hne).trans ((Below.heap_setCell _ _ _ _ hne).trans ((Below.heap_setCell _ _ _ _ hne).trans (Below.heap_setCell _ _ _ _ hne)))
            · rw [hsd, heap_setCell_at (heap_setCell_at (heap_setCell_at (heap_setCell_at Hd5.out _) _) _), Hall.out]; rfl
          have hvia : Via w L _ (Li.sync m) := ((Hvia.out.trans ⟨Hkw4.out, fun _ _ h => h, rfl, fun _ h => h⟩).trans Hst2.out.via).trans st6.via
          have hre : D.restart dir tails = { PD.cutsAll tails 0 (midD D j).files (midD D j) with sure := (PD.cutsAll tails 0 (midD D j).files (midD D j)).files, pend := [], armed := -1, down := false } := by
            have e1 : midD D j = { ({ D with files := D.back dir } : PD) with sure := D.files } := by
              unfold midD
              rw [show (D.pend.take j).foldl (fun l c => c.does l) D.sure = D.back dir from Hbk.out]
            rw [e1, cutsAll_sure]
            rfl
          refine ⟨rfl, { Li.sync m with mid := false }, ?_, hvia.keeps, hvia.roles, hvia.same, hvia.r3, Hm.out.symm⟩
          rw [hre]
          exact st6.at_.unmid rfl
end Go.Proofs.YtbckbkcpfejllaaDoor
