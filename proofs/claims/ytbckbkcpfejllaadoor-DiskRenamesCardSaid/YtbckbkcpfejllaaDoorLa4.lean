/- DiskRenames: a file that is written beside, synced and renamed is there behind any crash as it was, or as it is then: the walk. -/
import Derived.Test.YtbckbkcpfejllaaDoorRn
import Derived.Test.YtbckbkcpfejllaaDoorAo
namespace Go.Proofs.YtbckbkcpfejllaaDoor
open Go.RowKit Go.Maps Go.WideMaps Go.ChangeShapes Go.WideShapes Go.Deep

theorem rd_renamed {H : Type} {enc : TypeId × Value → H} {w : World} {base : Nat} {held : Bool} {fuel : Nat} {cs : List Value} {x : DataW H × List MemPlace} (h : DataW.trod enc Tryd.prog w base (fun _ => true) held fuel 60 cs = some x) :
    ∃ wv wb tv tb, ∃ arm dir : Int, ∃ kv, ∃ tails : List Int, cs = [wv, tv, .int .u8 arm, .int .i64 dir, kv] ∧ Bin w wv wb ∧ Bin w tv tb ∧ (0 ≤ arm ∧ arm ≤ 255) ∧ (-9223372036854775808 ≤ dir ∧ dir ≤ 9223372036854775807) ∧ Lst w kv (tails.map intV) ∧ ∀ t ∈ tails, -9223372036854775808 ≤ t ∧ t ≤ 9223372036854775807 := by
  obtain ⟨xs, n, _, _, hl, hlen, hf⟩ := DataW.trod_struct Tryd.underlying60 h
  rw [show Tryd.prog.cellsOf 60 = 5 by kernel_rfl] at hl
  obtain ⟨v0, v1, v2, v3, v4, rfl⟩ := five_of hl
  obtain ⟨y0, y1, y2, y3, rfl⟩ : ∃ a b c d, xs = [a, b, c, d] := four_of hlen
  have h0 : DataW.trod enc Tryd.prog w base (fun _ => true) held n 22 (List.take (Tryd.prog.cellsOf 22) [v0, v1, v2, v3, v4]) = some y0 := hf 0 _ rfl
  have h1 : DataW.trod enc Tryd.prog w base (fun _ => true) held n 22 (List.take (Tryd.prog.cellsOf 22) [v1, v2, v3, v4]) = some y1 := hf 1 _ rfl
  have h2 : DataW.trod enc Tryd.prog w base (fun _ => true) held n 5 (List.take (Tryd.prog.cellsOf 5) [v2, v3, v4]) = some y2 := hf 2 _ rfl
  have h3 : DataW.trod enc Tryd.prog w base (fun _ => true) held n 57 (List.take (Tryd.prog.cellsOf 57) [v3, v4]) = some y3 := hf 3 _ rfl
  rw [cells_1.2.2.1] at h0 h1
  rw [show Tryd.prog.cellsOf 5 = 1 by kernel_rfl] at h2
  rw [show Tryd.prog.cellsOf 57 = 2 by kernel_rfl] at h3
  obtain ⟨wv, wb, e0, b0⟩ := rd_bytes h0
  obtain ⟨tv, tb, e1, b1⟩ := rd_bytes h1
  obtain ⟨arm, e2, w2⟩ := rd_int Tryd.underlying5 h2
  obtain ⟨dir, kv, tails, e3, d3, l3, r3⟩ := rd_keep h3
  simp at e0 e1 e2 e3
  obtain ⟨rfl, rfl⟩ := e3
  subst e0 e1 e2
  exact ⟨_, wb, _, tb, arm, dir, _, tails, rfl, b0, b1, wf_u8 w2, d3, l3, r3⟩

set_option maxRecDepth 100000 in
set_option maxHeartbeats 1000000 in
theorem renames_at (w : World) {wv tv kv : Value} {W T : Bs} {arm dir : Int} {tails : List Int} (hw : Bin w wv W) (ht : Bin w tv T) (ha : 0 ≤ arm ∧ arm ≤ 255) (hd : -9223372036854775808 ≤ dir ∧ dir ≤ 9223372036854775807) (hk : Lst w kv (tails.map intV)) (hki : ∀ t ∈ tails, -9223372036854775808 ≤ t ∧ t ≤ 9223372036854775807) :
    Calls Tryd.prog 6 #[.agg #[wv, tv, .int .u8 arm, .int .i64 dir, kv]] w fun e w' => e = .returned (.bool true) ∧ Below w.heap.size w w' := by
  obtain ⟨n, rfl⟩ : ∃ n : Nat, arm = n := ⟨arm.toNat, by omega⟩
  obtain ⟨K, hK⟩ : ∃ K : Nat, (n : Int) % 6 = K := ⟨n % 6, by omega⟩
  obtain ⟨wa, wc, rfl⟩ : ∃ a c, wv = .slice a W.length c := by obtain ⟨a, c, e, _⟩ := hw; exact ⟨a, c, e⟩
  obtain ⟨ta, tc, rfl⟩ : ∃ a c, tv = .slice a T.length c := by obtain ⟨a, c, e, _⟩ := ht; exact ⟨a, c, e⟩
  obtain ⟨ka, kc, rfl⟩ : ∃ a c, kv = .slice a tails.length c := by obtain ⟨a, c, e, _⟩ := hk; rw [List.length_map] at e; exact ⟨a, c, e⟩
  have Hw := Lib.hid hw
  have Ht := Lib.hid ht
  have Hk := Lib.hid hk
  have Hki := Lib.hid hki
  clear hw ht hk hki
  go_enter Tryd.func6, Tryd.ntmps6
  go_wp2_with fail
  refine wp_region_reg (by kernel_rfl) (by kernel_rfl) ?_
  refine reg_quiet 0 rfl (by kernel_rfl) (fun K hK => ?_)
  go_simp
  refine hK _ ?_; clear hK K
  refine reg_quiet 1 rfl (by kernel_rfl) (fun K hK => ?_)
  go_simp
  refine hK _ ?_; clear hK K
  refine reg_quiet 2 rfl (by kernel_rfl) (fun K hK => ?_)
  go_simp
  refine hK _ ?_; clear hK K
  refine reg_quiet 3 rfl (by kernel_rfl) (fun K hK => ?_)
  go_simp
  refine hK _ ?_; clear hK K
  refine reg_quiet 4 rfl (by kernel_rfl) (fun K hK => ?_)
  go_simp
  refine hK _ ?_; clear hK K
  refine reg_quiet 5 rfl (by kernel_rfl) (fun K hK => ?_)
  go_simp
  refine hK _ ?_; clear hK K
  refine reg_quiet 6 rfl (by kernel_rfl) (fun K hK => ?_)
  go_simp
  refine hK _ ?_; clear hK K
  refine reg_quiet 7 rfl (by kernel_rfl) (fun K hK => ?_)
  go_simp
  refine hK _ ?_; clear hK K
  refine reg_turn 8 [7, 6, 5, 4, 3, 2, 1, 0] rfl (by kernel_rfl) (by kernel_rfl) (fun K hK => ?_)
  go_simp
  refine hK _ _ (StayOk.cons rfl (by go_simp) (StayOk.cons rfl (by go_simp) (StayOk.cons rfl (by go_simp) (StayOk.cons rfl (by go_simp) (StayOk.cons rfl (by go_simp) (StayOk.cons rfl (by go_simp) (StayOk.cons rfl (by go_simp) (StayOk.cons rfl (by go_simp) (StayOk.nil))))))))) ?_; clear hK K
  refine reg_quiet 9 rfl (by kernel_rfl) (fun K hK => ?_)
  go_simp
  refine hK _ ?_; clear hK K
  refine reg_quiet 10 rfl (by kernel_rfl) (fun K hK => ?_)
  go_simp
  refine hK _ ?_; clear hK K
  refine reg_quiet 11 rfl (by kernel_rfl) (fun K hK => ?_)
  go_simp
  refine hK _ ?_; clear hK K
  refine reg_turn 12 [] rfl (by kernel_rfl) (by kernel_rfl) (fun K hK => ?_)
  go_simp
  refine hK _ _ (StayOk.nil) ?_; clear hK K
  refine reg_done (by kernel_rfl) ?_
  obtain ⟨w0, hw0⟩ : ∃ w0 : World, ((w.alloc (.cells #[.slice wa W.length wc, .slice ta T.length tc, .int .u8 n, .int .i64 dir, .slice ka tails.length kc] 60)).alloc (.cells #[.int .i64 dir, .slice ka tails.length kc] 57)).drew = w0 := ⟨_, rfl⟩
  rw [hw0]
  have hb0 : Below w.heap.size w w0 := by rw [← hw0]; exact (((Below.refl _ w).alloc (Nat.le_refl _) _).alloc (by simp) _).drew
  have hx0 : w0.heap[w.heap.size + 1]? = some (.cells #[.int .i64 dir, .slice ka tails.length kc] 57 (0, 0)) := by rw [← hw0]; exact heap_alloc_at (by simp) _
  have z0 : w0.cell? ⟨w.heap.size + 1, 1, none⟩ = some (.slice ka tails.length kc) := by rw [cell_at hx0]; rfl
  have hsz0 := lt_of_heap hx0
  have Hb0 := Lib.hid hb0
  have Hx0 := Lib.hid hx0
  clear hw0 hb0 hx0
  by_cases q1 : 1000 < W.length
  · have g1 : decide ((1000 : Int) < (W.length : Int)) = true := by simp; omega
    go_wp2_with fail
    go_ret
    exact ⟨rfl, Hb0.out⟩
  have g1 : decide ((1000 : Int) < (W.length : Int)) = false := by simp; omega
  by_cases q2 : 1000 < T.length
  · have g2 : decide ((1000 : Int) < (T.length : Int)) = true := by simp; omega
    go_wp2_with fail
    go_ret
    exact ⟨rfl, Hb0.out⟩
  have g2 : decide ((1000 : Int) < (T.length : Int)) = false := by simp; omega
  by_cases q3 : 20 < tails.length
  · have g3 : decide ((20 : Int) < (tails.length : Int)) = true := by simp; omega
    go_wp2_with fail
    go_ret
    exact ⟨rfl, Hb0.out⟩
  have g3 : decide ((20 : Int) < (tails.length : Int)) = false := by simp; omega
  have hwt : W ≠ [] → ∀ q, (Value.slice wa W.length wc).ownBlock = some q → q < w0.heap.size := fun hne q hq => Nat.lt_of_lt_of_le (Hw.out.lt hne q hq) Hb0.out.size
  have htt : T ≠ [] → ∀ q, (Value.slice ta T.length tc).ownBlock = some q → q < w0.heap.size := fun hne q hq => Nat.lt_of_lt_of_le (Ht.out.lt hne q hq) Hb0.out.size
  have hkt : tails ≠ [] → ∀ q, (Value.slice ka tails.length kc).ownBlock = some q → q < w0.heap.size := fun hne q hq => Nat.lt_of_lt_of_le (Hk.out.lt (fun e => hne (List.map_eq_nil_iff.1 e)) q hq) Hb0.out.size
  have Hwt := Lib.hid hwt
  have Htt := Lib.hid htt
  have Hkt := Lib.hid hkt
  clear hwt htt hkt
  go_wp2_with fail
  refine (fresh4_at w0).mono ?_
  rintro e w1 ⟨rfl, h1, hb1⟩
  have H1 := Lib.hid h1
  have Hb1 := Lib.hid hb1
  clear h1 hb1
  clear z0
  go_wp2_with fail
  refine (told_write H1.out (by omega) nF (by decide) (Hw.out.keep fun q _ hq => (Hb1.out.block q (by omega)).trans (Hb0.out.block q hq)) (by omega) Hwt.out (R := fun c D' => c = 0 ∧ RnW W 0 none D') (fun p _ => rn_setup1 W (by omega) p)).mono ?_
  rintro e w2 ⟨c, D2, rfl, ⟨rfl, hr2⟩, h2, hk2⟩
  have hb2 : Below w0.heap.size w0 w2 := below_kept Hb1.out (Nat.le_refl _) hk2 (fun q hq => hq)
  have H2 := Lib.hid h2
  have Hr2 := Lib.hid hr2
  have Hb2 := Lib.hid hb2
  clear h2 hr2 hb2 hk2
  go_wp2_with fail
  refine (told_sync H2.out (by omega) nF (by decide) (R := fun c D' => c = 0 ∧ RnW W W.length none D') (rn_setup2 Hr2.out)).mono ?_
  rintro e w3 ⟨c, D3, rfl, ⟨rfl, hr3⟩, h3, hk3⟩
  have hb3 : Below w0.heap.size w0 w3 := below_kept Hb2.out (Nat.le_refl _) hk3 (fun q hq => hq)
  have H3 := Lib.hid h3
  have Hr3 := Lib.hid hr3
  have Hb3 := Lib.hid hb3
  clear h3 hr3 hb3 hk3
  go_wp2_with fail
  refine (told_syncDir H3.out (by omega) (R := fun c D' => c = 0 ∧ RnA W D') (rn_setup3 Hr3.out)).mono ?_
  rintro e w4 ⟨c, D4, rfl, ⟨rfl, hr4⟩, h4, hk4⟩
  have hb4 : Below w0.heap.size w0 w4 := below_kept Hb3.out (Nat.le_refl _) hk4 (fun q hq => hq)
  have H4 := Lib.hid h4
  have Hr4 := Lib.hid hr4
  have Hb4 := Lib.hid hb4
  clear h4 hr4 hb4 hk4
  go_wp2_with fail
  refine (done_arm H4.out (by omega) K (by omega)).mono ?_
  rintro e w5 ⟨rfl, h5, hk5⟩
  have hb5 : Below w0.heap.size w0 w5 := below_kept Hb4.out (Nat.le_refl _) hk5 (fun q hq => hq)
  have hr5 := Hr4.out.arm (max (K : Int) (-1))
  have H5 := Lib.hid h5
  have Hr5 := Lib.hid hr5
  have Hb5 := Lib.hid hb5
  clear h5 hr5 hb5 hk5
  go_wp2_with fail
  refine (told_write H5.out (by omega) nG (by decide) (Ht.out.keep fun q _ hq => (Hb5.out.block q (by omega)).trans (Hb0.out.block q hq)) (by omega) Htt.out (R := fun c D' => (c = 8 ∧ SafeR W T D') ∨ (c = 0 ∧ RnB W T false D')) (fun p hp => rn_write Hr5.out (by omega) (by omega) p hp)).mono ?_
  rintro e w6 ⟨c, D6, rfl, hr6, h6, hk6⟩
  have hb6 : Below w0.heap.size w0 w6 := below_kept Hb5.out (Nat.le_refl _) hk6 (fun q hq => hq)
  have H6 := Lib.hid h6
  have Hb6 := Lib.hid hb6
  clear h6 hb6 hk6
  rcases hr6 with ⟨rfl, hr6⟩ | ⟨rfl, hr6⟩
  · have Hr6 := Lib.hid hr6
    clear hr6
    have hxk := (Hb6.out.block (w.heap.size + 1) (by omega)).trans Hx0.out
    have y0 : _ = some (Value.int .i64 dir) := (cell_at (o := 0) hxk).trans rfl
    have y1 : _ = some (Value.slice ka tails.length kc) := (cell_at (o := 1) hxk).trans rfl
    clear hxk
    obtain ⟨hdn, p, b, hf, hfb, hWT⟩ := rn_back Hr6.out dir tails
    have Hbk := Lib.hid (And.intro hdn (And.intro hf hfb))
    clear hdn hf hfb
    go_wp2_with fail
    refine (done_restart H6.out (by omega) (tails := tails) hd.1 hd.2 (Hk.out.keep fun q _ hq => (Hb6.out.block q (by omega)).trans (Hb0.out.block q hq)) (by omega) Hki.out (fun hne q hq => Hkt.out hne q hq)).mono ?_
    rintro e wr ⟨rfl, hr, hkr⟩
    have hbr : Below w0.heap.size w0 wr := below_kept Hb6.out (Nat.le_refl _) hkr (fun q hq => hq)
    have Hr := Lib.hid hr
    have Hbr := Lib.hid hbr
    clear hr hbr hkr y0 y1
    go_wp2_with fail
    refine (has_read Hr.out nF (by decide)).mono ?_
    rintro e ws hrd
    obtain ⟨rb, rc, rfl, hbo, _, hbs⟩ := hrd.yes Hbk.out.1 Hbk.out.2.1 Hbk.out.2.2
    have hbsw : Below w0.heap.size w0 ws := Hbr.out.trans (hbs.mono Hbr.out.size)
    have hbsv : Below w.heap.size w ws := Hb0.out.trans (hbsw.mono Hb0.out.size)
    have hcv1 := (Bown.bin hbo).str
    have hcv2 := (Hw.out.keep (w' := ws) fun q _ hq => hbsv.block q hq).str
    have hcv3 := (Ht.out.keep (w' := ws) fun q _ hq => hbsv.block q hq).str
    have Hbs := Lib.hid hbsv
    clear hrd hbo hbs hbsw hbsv
    by_cases hbW : b = W
    · subst hbW
      go_wp2_with fail
      refine (awake4_at ws).mono ?_
      rintro e wt ⟨rfl, hbt⟩
      go_wp2_with fail
      go_ret
      exact ⟨rfl, Hbs.out.trans (hbt.mono Hbs.out.size)⟩
    · obtain rfl : b = T := hWT.resolve_left hbW
      have g9 : (b == W) = false := beq_eq_false_iff_ne.2 hbW
      go_wp2_with fail
      refine (awake4_at ws).mono ?_
      rintro e wt ⟨rfl, hbt⟩
      go_wp2_with fail
      go_ret
      exact ⟨rfl, Hbs.out.trans (hbt.mono Hbs.out.size)⟩
  have Hr6 := Lib.hid hr6
  clear hr6
  go_wp2_with fail
  refine (told_sync H6.out (by omega) nG (by decide) (R := fun c D' => (c = 8 ∧ SafeR W T D') ∨ (c = 0 ∧ RnB W T true D')) (rn_sync Hr6.out)).mono ?_
  rintro e w7 ⟨c, D7, rfl, hr7, h7, hk7⟩
  have hb7 : Below w0.heap.size w0 w7 := below_kept Hb6.out (Nat.le_refl _) hk7 (fun q hq => hq)
  have H7 := Lib.hid h7
  have Hb7 := Lib.hid hb7
  clear h7 hb7 hk7
  rcases hr7 with ⟨rfl, hr7⟩ | ⟨rfl, hr7⟩
  · have Hr7 := Lib.hid hr7
    clear hr7
    have hxk := (Hb7.out.block (w.heap.size + 1) (by omega)).trans Hx0.out
    have y0 : _ = some (Value.int .i64 dir) := (cell_at (o := 0) hxk).trans rfl
    have y1 : _ = some (Value.slice ka tails.length kc) := (cell_at (o := 1) hxk).trans rfl
    clear hxk
    obtain ⟨hdn, p, b, hf, hfb, hWT⟩ := rn_back Hr7.out dir tails
    have Hbk := Lib.hid (And.intro hdn (And.intro hf hfb))
    clear hdn hf hfb
    go_wp2_with fail
    refine (done_restart H7.out (by omega) (tails := tails) hd.1 hd.2 (Hk.out.keep fun q _ hq => (Hb7.out.block q (by omega)).trans (Hb0.out.block q hq)) (by omega) Hki.out (fun hne q hq => Hkt.out hne q hq)).mono ?_
    rintro e wr ⟨rfl, hr, hkr⟩
    have hbr : Below w0.heap.size w0 wr := below_kept Hb7.out (Nat.le_refl _) hkr (fun q hq => hq)
    have Hr := Lib.hid hr
    have Hbr := Lib.hid hbr
    clear hr hbr hkr y0 y1
    go_wp2_with fail
    refine (has_read Hr.out nF (by decide)).mono ?_
    rintro e ws hrd
    obtain ⟨rb, rc, rfl, hbo, _, hbs⟩ := hrd.yes Hbk.out.1 Hbk.out.2.1 Hbk.out.2.2
    have hbsw : Below w0.heap.size w0 ws := Hbr.out.trans (hbs.mono Hbr.out.size)
    have hbsv : Below w.heap.size w ws := Hb0.out.trans (hbsw.mono Hb0.out.size)
    have hcv1 := (Bown.bin hbo).str
    have hcv2 := (Hw.out.keep (w' := ws) fun q _ hq => hbsv.block q hq).str
    have hcv3 := (Ht.out.keep (w' := ws) fun q _ hq => hbsv.block q hq).str
    have Hbs := Lib.hid hbsv
    clear hrd hbo hbs hbsw hbsv
    by_cases hbW : b = W
    · subst hbW
      go_wp2_with fail
      refine (awake4_at ws).mono ?_
      rintro e wt ⟨rfl, hbt⟩
      go_wp2_with fail
      go_ret
      exact ⟨rfl, Hbs.out.trans (hbt.mono Hbs.out.size)⟩
    · obtain rfl : b = T := hWT.resolve_left hbW
      have g9 : (b == W) = false := beq_eq_false_iff_ne.2 hbW
      go_wp2_with fail
      refine (awake4_at ws).mono ?_
      rintro e wt ⟨rfl, hbt⟩
      go_wp2_with fail
      go_ret
      exact ⟨rfl, Hbs.out.trans (hbt.mono Hbs.out.size)⟩
  have Hr7 := Lib.hid hr7
  clear hr7
  go_wp2_with fail
  refine (told_rename H7.out (by omega) nG nF (by decide) (by decide) (R := fun c D' => (c = 8 ∧ SafeR W T D') ∨ (c = 0 ∧ RnC W T D')) (rn_rename Hr7.out)).mono ?_
  rintro e w8 ⟨c, D8, rfl, hr8, h8, hk8⟩
  have hb8 : Below w0.heap.size w0 w8 := below_kept Hb7.out (Nat.le_refl _) hk8 (fun q hq => hq)
  have H8 := Lib.hid h8
  have Hb8 := Lib.hid hb8
  clear h8 hb8 hk8
  rcases hr8 with ⟨rfl, hr8⟩ | ⟨rfl, hr8⟩
  · have Hr8 := Lib.hid hr8
    clear hr8
    have hxk := (Hb8.out.block (w.heap.size + 1) (by omega)).trans Hx0.out
    have y0 : _ = some (Value.int .i64 dir) := (cell_at (o := 0) hxk).trans rfl
    have y1 : _ = some (Value.slice ka tails.length kc) := (cell_at (o := 1) hxk).trans rfl
    clear hxk
    obtain ⟨hdn, p, b, hf, hfb, hWT⟩ := rn_back Hr8.out dir tails
    have Hbk := Lib.hid (And.intro hdn (And.intro hf hfb))
    clear hdn hf hfb
    go_wp2_with fail
    refine (done_restart H8.out (by omega) (tails := tails) hd.1 hd.2 (Hk.out.keep fun q _ hq => (Hb8.out.block q (by omega)).trans (Hb0.out.block q hq)) (by omega) Hki.out (fun hne q hq => Hkt.out hne q hq)).mono ?_
    rintro e wr ⟨rfl, hr, hkr⟩
    have hbr : Below w0.heap.size w0 wr := below_kept Hb8.out (Nat.le_refl _) hkr (fun q hq => hq)
    have Hr := Lib.hid hr
    have Hbr := Lib.hid hbr
    clear hr hbr hkr y0 y1
    go_wp2_with fail
    refine (has_read Hr.out nF (by decide)).mono ?_
    rintro e ws hrd
    obtain ⟨rb, rc, rfl, hbo, _, hbs⟩ := hrd.yes Hbk.out.1 Hbk.out.2.1 Hbk.out.2.2
    have hbsw : Below w0.heap.size w0 ws := Hbr.out.trans (hbs.mono Hbr.out.size)
    have hbsv : Below w.heap.size w ws := Hb0.out.trans (hbsw.mono Hb0.out.size)
    have hcv1 := (Bown.bin hbo).str
    have hcv2 := (Hw.out.keep (w' := ws) fun q _ hq => hbsv.block q hq).str
    have hcv3 := (Ht.out.keep (w' := ws) fun q _ hq => hbsv.block q hq).str
    have Hbs := Lib.hid hbsv
    clear hrd hbo hbs hbsw hbsv
    by_cases hbW : b = W
    · subst hbW
      go_wp2_with fail
      refine (awake4_at ws).mono ?_
      rintro e wt ⟨rfl, hbt⟩
      go_wp2_with fail
      go_ret
      exact ⟨rfl, Hbs.out.trans (hbt.mono Hbs.out.size)⟩
    · obtain rfl : b = T := hWT.resolve_left hbW
      have g9 : (b == W) = false := beq_eq_false_iff_ne.2 hbW
      go_wp2_with fail
      refine (awake4_at ws).mono ?_
      rintro e wt ⟨rfl, hbt⟩
      go_wp2_with fail
      go_ret
      exact ⟨rfl, Hbs.out.trans (hbt.mono Hbs.out.size)⟩
  have Hr8 := Lib.hid hr8
  clear hr8
  go_wp2_with fail
  refine (told_syncDir H8.out (by omega) (R := fun c D' => (c = 8 ∧ SafeR W T D') ∨ (c = 0 ∧ RnD T D')) (rn_syncDir Hr8.out)).mono ?_
  rintro e w9 ⟨c, D9, rfl, hr9, h9, hk9⟩
  have hb9 : Below w0.heap.size w0 w9 := below_kept Hb8.out (Nat.le_refl _) hk9 (fun q hq => hq)
  have H9 := Lib.hid h9
  have Hb9 := Lib.hid hb9
  clear h9 hb9 hk9
  rcases hr9 with ⟨rfl, hr9⟩ | ⟨rfl, hr9⟩
  · have Hr9 := Lib.hid hr9
    clear hr9
    have hxk := (Hb9.out.block (w.heap.size + 1) (by omega)).trans Hx0.out
    have y0 : _ = some (Value.int .i64 dir) := (cell_at (o := 0) hxk).trans rfl
    have y1 : _ = some (Value.slice ka tails.length kc) := (cell_at (o := 1) hxk).trans rfl
    clear hxk
    obtain ⟨hdn, p, b, hf, hfb, hWT⟩ := rn_back Hr9.out dir tails
    have Hbk := Lib.hid (And.intro hdn (And.intro hf hfb))
    clear hdn hf hfb
    go_wp2_with fail
    refine (done_restart H9.out (by omega) (tails := tails) hd.1 hd.2 (Hk.out.keep fun q _ hq => (Hb9.out.block q (by omega)).trans (Hb0.out.block q hq)) (by omega) Hki.out (fun hne q hq => Hkt.out hne q hq)).mono ?_
    rintro e wr ⟨rfl, hr, hkr⟩
    have hbr : Below w0.heap.size w0 wr := below_kept Hb9.out (Nat.le_refl _) hkr (fun q hq => hq)
    have Hr := Lib.hid hr
    have Hbr := Lib.hid hbr
    clear hr hbr hkr y0 y1
    go_wp2_with fail
    refine (has_read Hr.out nF (by decide)).mono ?_
    rintro e ws hrd
    obtain ⟨rb, rc, rfl, hbo, _, hbs⟩ := hrd.yes Hbk.out.1 Hbk.out.2.1 Hbk.out.2.2
    have hbsw : Below w0.heap.size w0 ws := Hbr.out.trans (hbs.mono Hbr.out.size)
    have hbsv : Below w.heap.size w ws := Hb0.out.trans (hbsw.mono Hb0.out.size)
    have hcv1 := (Bown.bin hbo).str
    have hcv2 := (Hw.out.keep (w' := ws) fun q _ hq => hbsv.block q hq).str
    have hcv3 := (Ht.out.keep (w' := ws) fun q _ hq => hbsv.block q hq).str
    have Hbs := Lib.hid hbsv
    clear hrd hbo hbs hbsw hbsv
    by_cases hbW : b = W
    · subst hbW
      go_wp2_with fail
      refine (awake4_at ws).mono ?_
      rintro e wt ⟨rfl, hbt⟩
      go_wp2_with fail
      go_ret
      exact ⟨rfl, Hbs.out.trans (hbt.mono Hbs.out.size)⟩
    · obtain rfl : b = T := hWT.resolve_left hbW
      have g9 : (b == W) = false := beq_eq_false_iff_ne.2 hbW
      go_wp2_with fail
      refine (awake4_at ws).mono ?_
      rintro e wt ⟨rfl, hbt⟩
      go_wp2_with fail
      go_ret
      exact ⟨rfl, Hbs.out.trans (hbt.mono Hbs.out.size)⟩
  have Hr9 := Lib.hid hr9
  clear hr9
  have hxk := (Hb9.out.block (w.heap.size + 1) (by omega)).trans Hx0.out
  have y0 : _ = some (Value.int .i64 dir) := (cell_at (o := 0) hxk).trans rfl
  have y1 : _ = some (Value.slice ka tails.length kc) := (cell_at (o := 1) hxk).trans rfl
  clear hxk
  obtain ⟨hdn, p, b, hf, hfb, hWT⟩ := rn_back Hr9.out.safe dir tails
  have Hbk := Lib.hid (And.intro hdn (And.intro hf hfb))
  clear hdn hf hfb
  go_wp2_with fail
  refine (done_restart H9.out (by omega) (tails := tails) hd.1 hd.2 (Hk.out.keep fun q _ hq => (Hb9.out.block q (by omega)).trans (Hb0.out.block q hq)) (by omega) Hki.out (fun hne q hq => Hkt.out hne q hq)).mono ?_
  rintro e wr ⟨rfl, hr, hkr⟩
  have hbr : Below w0.heap.size w0 wr := below_kept Hb9.out (Nat.le_refl _) hkr (fun q hq => hq)
  have Hr := Lib.hid hr
  have Hbr := Lib.hid hbr
  clear hr hbr hkr y0 y1
  go_wp2_with fail
  refine (has_read Hr.out nF (by decide)).mono ?_
  rintro e ws hrd
  obtain ⟨rb, rc, rfl, hbo, _, hbs⟩ := hrd.yes Hbk.out.1 Hbk.out.2.1 Hbk.out.2.2
  have hbsw : Below w0.heap.size w0 ws := Hbr.out.trans (hbs.mono Hbr.out.size)
  have hbsv : Below w.heap.size w ws := Hb0.out.trans (hbsw.mono Hb0.out.size)
  have hcv1 := (Bown.bin hbo).str
  have hcv2 := (Hw.out.keep (w' := ws) fun q _ hq => hbsv.block q hq).str
  have hcv3 := (Ht.out.keep (w' := ws) fun q _ hq => hbsv.block q hq).str
  have Hbs := Lib.hid hbsv
  clear hrd hbo hbs hbsw hbsv
  obtain rfl : b = T := hWT.elim id id
  go_wp2_with fail
  refine (awake4_at ws).mono ?_
  rintro e wt ⟨rfl, hbt⟩
  go_wp2_with fail
  go_ret
  exact ⟨rfl, Hbs.out.trans (hbt.mono Hbs.out.size)⟩
end Go.Proofs.YtbckbkcpfejllaaDoor
