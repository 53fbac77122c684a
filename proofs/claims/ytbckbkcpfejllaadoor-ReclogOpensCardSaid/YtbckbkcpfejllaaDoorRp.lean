/- ReclogOpens: what is opened of any file, and what becomes of it: the walk. -/
import Derived.Test.YtbckbkcpfejllaaDoorRo
namespace Go.Proofs.YtbckbkcpfejllaaDoor
open Go.RowKit Go.Maps Go.WideMaps

theorem stat_none (w : World) (s : ByteArray) : Calls Tryd.prog 12 #[.pointer none, .string s] w fun e w' => e = .returned (.tuple #[.agg #[.int .i64 0, .int .i64 0], .int .i64 8]) ∧ Below w.heap.size w w' := by
  go_enter Tryd.func12, Tryd.ntmps12
  go_wp2_with fail
  refine (look_nil _ s).mono ?_
  rintro e w1 ⟨rfl, rfl⟩
  go_wp2_with fail
  refine bodyPost_ret (v := .tuple #[.agg #[.int .i64 0, .int .i64 0], .int .i64 8]) (by simp [results, Tryd.results12, go_sem]) rfl ⟨rfl, (Below.refl _ w).alloc (Nat.le_refl _) _⟩
theorem read_none (w : World) (s : ByteArray) : Calls Tryd.prog 13 #[.pointer none, .string s] w fun e w' => e = .returned (.tuple #[.slice none 0 0, .int .i64 8]) ∧ w = w' := by
  go_enter Tryd.func13, Tryd.ntmps13
  go_wp2_with fail
  refine (look_nil w s).mono ?_
  rintro e w1 ⟨rfl, rfl⟩
  go_wp2_with fail
  go_ret2
  exact ⟨rfl, rfl⟩
theorem open_none (w : World) (s : ByteArray) (hs : s.size ≤ 100000) (k : UInt8) : Calls Tryd.prog 10 #[.pointer none, .string s, .int .u8 k.toNat] w fun e w' => e = .returned (.tuple #[.pointer none, .slice none 0 0, .int .i64 8]) ∧ Below w.heap.size w w' := by
  go_enter Tryd.func10, Tryd.ntmps10
  go_wp2_with fail
  refine (stat_none _ _).mono ?_
  rintro e w1 ⟨rfl, hb1⟩
  have Hb1 := Lib.hid ((((Below.refl w.heap.size w).alloc (Nat.le_refl _) _)).trans (hb1.mono (by simp)))
  clear hb1
  go_wp2_with fail
  refine (read_none _ _).mono ?_
  rintro e w2 ⟨rfl, rfl⟩
  go_wp2_with fail
  go_ret3
  exact ⟨rfl, Hb1.out.alloc Hb1.out.size _⟩
theorem scanL_many : ∀ (f : Nat) (xs : Bs), (scanL f xs).1.length ≤ xs.length
  | 0, _ => Nat.zero_le _
  | f + 1, xs => by
    unfold scanL
    split
    · exact Nat.zero_le _
    · split
      · exact Nat.zero_le _
      · split
        · exact Nat.zero_le _
        · have := scanL_many f (xs.drop (8 + val32 xs))
          rw [List.length_drop] at this
          dsimp only
          rw [List.length_cons]
          omega
theorem scan_many (b : Bs) (k : UInt8) : (scanP b k).1.length ≤ b.length := by
  unfold scanP
  split
  · exact Nat.zero_le _
  · split
    · exact Nat.zero_le _
    · have := scanL_many b.length (b.drop 8)
      rw [List.length_drop] at this
      dsimp only
      omega
set_option maxRecDepth 100000 in
set_option maxHeartbeats 4000000 in
theorem opens_at (w : World) {v : Value} {b : Bs} (hb : Bin w v b) (kind : UInt8) (there spare : Bool) :
    Calls Tryd.prog 3 #[.agg #[v, .int .u8 kind.toNat, .bool there, .bool spare]] w fun e w' => e = .returned (.bool true) ∧ Below w.heap.size w w' := by
  obtain ⟨va, vc, rfl⟩ : ∃ a c, v = .slice a b.length c := by obtain ⟨a, c, e, _⟩ := hb; exact ⟨a, c, e⟩
  obtain ⟨wa, hwa⟩ : ∃ wa : World, w.alloc (.cells #[.slice va b.length vc, .int .u8 kind.toNat, .bool there, .bool spare] 24) = wa := ⟨_, rfl⟩
  have hba : Below w.heap.size w wa := by rw [← hwa]; exact (Below.refl _ w).alloc (Nat.le_refl _) _
  have hxa : wa.heap[w.heap.size]? = some (.cells #[.slice va b.length vc, .int .u8 kind.toNat, .bool there, .bool spare] 24 (0, 0)) := by rw [← hwa]; exact heap_alloc_new w _
  have z0 : wa.drew.cell? ⟨w.heap.size, 0, none⟩ = some (.slice va b.length vc) := (cell_at (w := wa) hxa).trans rfl
  have z1 : wa.drew.cell? ⟨w.heap.size, 1, none⟩ = some (.int .u8 kind.toNat) := (cell_at (w := wa) hxa).trans rfl
  have z2 : wa.drew.cell? ⟨w.heap.size, 2, none⟩ = some (.bool there) := (cell_at (w := wa) hxa).trans rfl
  have z3 : wa.drew.cell? ⟨w.heap.size, 3, none⟩ = some (.bool spare) := (cell_at (w := wa) hxa).trans rfl
  have hbz : Bin wa.drew (.slice va b.length vc) b := hb.keep (w' := wa.drew) fun q _ hq => hba.block q hq
  have HA := Lib.hid (And.intro hba.drew hbz)
  clear hba hxa hbz hb
  go_enter Tryd.func3, Tryd.ntmps3
  go_wp2_with fail
  refine wp_region_reg (by kernel_rfl) (by kernel_rfl) ?_
  refine reg_quiet 0 rfl (by kernel_rfl) (fun K hK => ?_)
  go_simp
  refine hK _ ?_; clear hK K
  refine reg_quiet 1 rfl (by kernel_rfl) (fun K hK => ?_)
  go_simp
  refine hK _ ?_; clear hK K
  refine reg_quiet 2 rfl (by kernel_rfl) (fun K hK => ?_)
  go_simp
  refine hK _ ?_; clear hK K
  refine reg_quiet 3 rfl (by kernel_rfl) (fun K hK => ?_)
  go_simp
  refine hK _ ?_; clear hK K
  refine reg_quiet 4 rfl (by kernel_rfl) (fun K hK => ?_)
  go_simp
  refine hK _ ?_; clear hK K
  refine reg_quiet 5 rfl (by kernel_rfl) (fun K hK => ?_)
  go_simp
  refine hK _ ?_; clear hK K
  refine reg_quiet 6 rfl (by kernel_rfl) (fun K hK => ?_)
  go_simp
  refine hK _ ?_; clear hK K
  refine reg_quiet 7 rfl (by kernel_rfl) (fun K hK => ?_)
  go_simp
  refine hK _ ?_; clear hK K
  refine reg_quiet 8 rfl (by kernel_rfl) (fun K hK => ?_)
  go_simp
  refine hK _ ?_; clear hK K
  refine reg_quiet 9 rfl (by kernel_rfl) (fun K hK => ?_)
  go_simp
  refine hK _ ?_; clear hK K
  refine reg_quiet 10 rfl (by kernel_rfl) (fun K hK => ?_)
  go_simp
  refine hK _ ?_; clear hK K
  refine reg_quiet 11 rfl (by kernel_rfl) (fun K hK => ?_)
  go_simp
  refine hK _ ?_; clear hK K
  refine reg_done (by kernel_rfl) ?_
  by_cases h5 : 5000 < b.length
  · go_wp2_with fail
    go_ret
    exact ⟨rfl, HA.out.1⟩
  obtain ⟨wz, hwz⟩ : ∃ wz, wa.drew = wz := ⟨_, rfl⟩
  rw [hwz] at HA
  clear z0 z1 z2 z3 hwa
  go_wp2_with fail
  clear hwz
  refine (has_new 16777216 (by omega) (by omega) wz).mono ?_
  rintro e0 w3 ⟨rfl, h3, hb3⟩
  obtain ⟨d, hd⟩ : ∃ d, wz.heap.size + 2 = d := ⟨_, rfl⟩
  rw [hd] at h3 ⊢
  have H3 := Lib.hid (And.intro h3 (And.intro hb3 (HA.out.2.keep (w' := w3) fun q _ hq => hb3.block q hq)))
  clear h3 hb3 hd
  have hlow : b ≠ [] → ∀ q, (Value.slice va b.length vc).ownBlock = some q → q < wz.heap.size := fun hne q hq => HA.out.2.lt hne q hq
  have Hlow := Lib.hid hlow
  clear hlow
  cases there
  case' true =>
    go_wp2_with fail
    refine (told_write (R := fun c D' => c = 0 ∧ Nice D' ∧ readP D' (bs nL) = b) H3.out.1 (by omega) nL (by decide) H3.out.2.2 (by omega) Hlow.out (fun q hq => by
      obtain ⟨D', e, g1, g2, _⟩ := nice_write nice_new H3.out.1 (by omega) isE_nL (by simp) right_nL b (by omega) q hq
      rw [e]; exact ⟨rfl, g1, g2 rfl⟩)).mono ?_
    rintro e0 w4 ⟨c, D4, rfl, ⟨rfl, hn4, hr4⟩, h4, hk4⟩
    have hb4 : Below wz.heap.size wz w4 := below_kept H3.out.2.1 (Nat.le_refl _) hk4 fun q hq => hq
    obtain ⟨bb, hbb⟩ : ∃ bb, bb = b := ⟨_, rfl⟩
    have H4 := Lib.hid (show Has (fun q => q < wz.heap.size) d w4 D4 2 ∧ Nice D4 ∧ readP D4 (bs nL) = bb ∧ Below wz.heap.size wz w4 from ⟨h4, hn4, by rw [hbb]; exact hr4, hb4⟩)
    have HBB := Lib.hid (show Bin wz (.slice va b.length vc) bb from by rw [hbb]; exact HA.out.2)
    have hbl : bb.length ≤ 5000 := by rw [hbb]; omega
    have Hbl := Lib.hid (show bb = b from hbb)
    clear h4 hn4 hr4 hk4 hb4 hbb
  case' false =>
    obtain ⟨D4, hD4⟩ : ∃ D4, D4 = PD.new 16777216 := ⟨_, rfl⟩
    obtain ⟨w4, hw4⟩ : ∃ w4, w4 = w3 := ⟨_, rfl⟩
    obtain ⟨bb, hbb⟩ : ∃ bb : Bs, bb = [] := ⟨_, rfl⟩
    have H4 := Lib.hid (show Has (fun q => q < wz.heap.size) d w4 D4 2 ∧ Nice D4 ∧ readP D4 (bs nL) = bb ∧ Below wz.heap.size wz w4 from ⟨by rw [hw4, hD4]; exact H3.out.1.more (by omega), by rw [hD4]; exact nice_new, by rw [hD4, hbb]; rfl, by rw [hw4]; exact H3.out.2.1⟩)
    have HBB := Lib.hid (show Bin wz (.slice none 0 0) bb from by rw [hbb]; exact Bin.nil _)
    have hbl : bb.length ≤ 5000 := by rw [hbb]; simp
    have Hbl := Lib.hid (show bb = [] from hbb)
    rw [← hw4] at H3
    rw [← hw4]
    clear hD4 hw4 hbb
  all_goals
    cases spare
    case' true =>
      go_wp2_with fail
      refine (told_write (R := fun c D' => c = 0 ∧ Nice D' ∧ readP D' (bs nL) = bb) H4.out.1 (by omega) nN (by decide) (HA.out.2.keep fun q _ hq => H4.out.2.2.2.block q hq) (by omega) Hlow.out (fun q hq => by
        obtain ⟨D', e, g1, _, g2⟩ := nice_write H4.out.2.1 H4.out.1 (by omega) isE_nN (by simp) right_nN b (by omega) q hq
        rw [e]; exact ⟨rfl, g1, (g2 fun e => ne_nL e.symm).trans H4.out.2.2.1⟩)).mono ?_
      rintro e0 w5 ⟨c, D5, rfl, ⟨rfl, hn5, hr5⟩, h5', hk5⟩
      have H5 := Lib.hid (show Has (fun q => q < wz.heap.size) d w5 D5 4 ∧ Nice D5 ∧ readP D5 (bs nL) = bb ∧ Below wz.heap.size wz w5 from ⟨h5', hn5, hr5, below_kept H4.out.2.2.2 (Nat.le_refl _) hk5 fun q hq => hq⟩)
      clear hn5 hr5 h5' hk5
      go_wp2_with fail
    case' false =>
      obtain ⟨D5, hD5⟩ : ∃ D5, D5 = D4 := ⟨_, rfl⟩
      obtain ⟨w5, hw5⟩ : ∃ w5, w5 = w4 := ⟨_, rfl⟩
      have H5 := Lib.hid (show Has (fun q => q < wz.heap.size) d w5 D5 4 ∧ Nice D5 ∧ readP D5 (bs nL) = bb ∧ Below wz.heap.size wz w5 from by rw [hw5, hD5]; exact ⟨H4.out.1.more (by omega), H4.out.2.1, H4.out.2.2.1, H4.out.2.2.2⟩)
      rw [← hw5]
      clear hD5 hw5
      go_wp2_with fail
  all_goals
    obtain ⟨⟨recs, en, ee⟩, hs⟩ : ∃ x, scanP bb kind = x := ⟨_, rfl⟩
    have hle := scanP_le bb kind
    rw [hs] at hle
    dsimp only at hle
    have Hs := Lib.hid hs
    clear hs
    refine (log_open H5.out.1 (by omega) nL (by decide) kind).mono ?_
    rintro e0 w6 ⟨c, q, pv, v6, G, rfl, _, hc, h6, hG, hk6, hno, hok⟩
    rw [spare_nL] at hc h6 hok
    have hno2 := nice_open H5.out.2.1 H5.out.1 (by omega) kind q
    rw [H5.out.2.2.1, Hs.out] at hno2
    obtain ⟨D6, e6, g6, d6, n6, x6, y6⟩ := hno2
    dsimp only at e6 g6 x6 y6
    rw [e6] at hc h6
    rw [show c = ee from hc] at hno hok ⊢
    clear hc e6
    have hb6 : Below wz.heap.size wz w6 := below_kept H5.out.2.2.2 (Nat.le_refl _) hk6 fun q hq => hq
    have hbb6 := HBB.out.keep (w' := w6) fun q _ hq => hb6.block q hq
    have hsc := refscan_at hbb6 (by omega) kind
    rw [Hs.out] at hsc
    have HSC := Lib.hid hsc
    clear hsc
    by_cases hee : ee = 0
    · obtain ⟨p, rfl, _, _, _, hrg, _⟩ := hok hee
      rw [g6] at hrg
      obtain ⟨⟨p6, hp6⟩, hrd⟩ := y6 hee
      subst hee
      obtain ⟨now, hnow⟩ : ∃ now, readP D6 (bs nL) = now := ⟨_, rfl⟩
      have hpb : (D6.fs p6).b = now := by rw [← hnow]; unfold readP; rw [hp6]
      rw [hnow] at hrd
      have H6 := Lib.hid (And.intro hb6 (And.intro h6 (And.intro hrg.recsIn (And.intro d6 (And.intro n6 (And.intro hp6 (And.intro hpb (And.intro hrd hbb6))))))))
      have hrl : recs.length ≤ 10000 := by
        have := scan_many bb kind
        rw [Hs.out] at this
        dsimp only at this
        omega
      clear hb6 h6 hrg d6 n6 hp6 hpb hrd hbb6 hnow hG hk6 hno hok x6 y6 g6
      go_wp2_with fail
      refine HSC.out.mono ?_
      rintro e0 w7 ⟨v7, rfl, hrec7, hb7⟩
      have H7 := Lib.hid (And.intro hb7 (hrec7.g (G := fun _ => True) fun _ _ _ => trivial).recsIn)
      clear hb7 hrec7
      go_wp2_with fail
      refine (has_stat (H6.out.2.1.below H7.out.1) nN (by decide)).mono ?_
      rintro e0 w8 hst
      obtain ⟨rfl, hb8⟩ := hst.no H6.out.2.2.2.1 H6.out.2.2.2.2.1
      have Hb8 := Lib.hid (H7.out.1.trans (hb8.mono H7.out.1.size))
      clear hst
      go_wp2_with fail
      obtain ⟨w9, hw9⟩ : ∃ w9, w8.alloc (.cells #[.int .i64 0, .int .i64 0] 37) = w9 := ⟨_, rfl⟩
      have hb9 : Below w6.heap.size w6 w9 := by rw [← hw9]; exact Hb8.out.alloc Hb8.out.size _
      have hb79 : Below w7.heap.size w7 w9 := by rw [← hw9]; exact hb8.alloc hb8.size _
      rw [hw9]
      have H9 := Lib.hid (And.intro hb9 (H7.out.2.below hb79))
      clear hw9 hb9 hb79 hb8
      refine (has_read (H6.out.2.1.below H9.out.1) nL (by decide)).mono ?_
      rintro e0 w10 hrd10
      obtain ⟨na, nc, rfl, hbo, _, hb10⟩ := hrd10.yes H6.out.2.2.2.1 H6.out.2.2.2.2.2.1 H6.out.2.2.2.2.2.2.1
      have hb610 := H9.out.1.trans (hb10.mono H9.out.1.size)
      have H10 := Lib.hid (And.intro hb610 (And.intro (H9.out.2.below hb10) (And.intro (Bown.bin hbo) (H6.out.2.2.2.2.2.2.2.2.keep (w' := w10) fun q _ hq => hb610.block q hq))))
      clear hrd10 hbo hb10 hb610
      go_wp2_with fail
      refine (refhead_at w10 kind).mono ?_
      rintro e0 w11 ⟨rfl, hh, hb11⟩
      have hb611 := H10.out.1.trans (hb11.mono H10.out.1.size)
      have H11 := Lib.hid (And.intro hb611 (And.intro (H10.out.2.1.below hb11) (And.intro (H10.out.2.2.1.keep (w' := w11) fun q _ hq => hb11.block q hq) (And.intro (H10.out.2.2.2.keep (w' := w11) fun q _ hq => hb11.block q hq) hh))))
      clear hb611 hb11 hh
      by_cases hen : en = 0
      · subst hen
        have hnw : now = headP kind := by have := H6.out.2.2.2.2.2.2.2.1; simpa using this
        have Hnw := Lib.hid hnw
        clear hnw
        go_wp2_with fail
        refine (open_none w11 nL (by decide) kind).mono ?_
        rintro e0 w12 ⟨rfl, hb12⟩
        have hb612 := H11.out.1.trans (hb12.mono H11.out.1.size)
        have H12 := Lib.hid (And.intro hb612 (And.intro (H11.out.2.1.below hb12) (And.intro (H11.out.2.2.1.keep (w' := w12) fun q _ hq => hb12.block q hq) (H11.out.2.2.2.2.keep (w' := w12) fun q _ hq => hb12.block q hq))))
        clear hb612 hb12
        go_wp2_with fail
        refine (same5_at (H6.out.2.2.1.below H12.out.1) H12.out.2.1 (by omega)).mono ?_
        rintro e0 w13 ⟨rfl, hb13⟩
        rw [decide_eq_true (rfl : recs = recs)]
        have hs1 := (H12.out.2.2.1.keep (w' := w13) fun q _ hq => hb13.block q hq).str
        have hs2 := (H12.out.2.2.2.keep (w' := w13) fun q _ hq => hb13.block q hq).str
        rw [Hnw.out] at hs1 ⊢
        have Hb13 := Lib.hid (H12.out.1.trans (hb13.mono H12.out.1.size))
        clear hb13
        rw [len_headP] at hs1 ⊢
        go_wp2_with fail
        refine (awake5_at w13).mono ?_
        rintro e0 w14 ⟨rfl, hb14⟩
        have Hb14 := Lib.hid (Hb13.out.trans (hb14.mono Hb13.out.size))
        clear hb14
        go_wp2_with fail
        go_ret
        exact ⟨rfl, HA.out.1.trans ((H6.out.1.trans (Hb14.out.mono H6.out.1.size)).mono HA.out.1.size)⟩
      · have hnw : now = bb.take en := by have := H6.out.2.2.2.2.2.2.2.1; rw [if_neg hen] at this; exact this
        have Hnw := Lib.hid hnw
        clear hnw
        first
          | (exfalso; have h0 : bb.length = 0 := by rw [Hbl.out]; rfl
             omega)
          | (
              have hvc : b.length ≤ vc := by
                obtain ⟨a, c, e, h, _⟩ := HA.out.2
                obtain ⟨_, _, rfl⟩ := Value.slice.inj e
                exact h
              have heb : en ≤ vc := by have := Hbl.out; subst this; omega
              have hwt := H11.out.2.2.2.1.take hle
              have Hwt := Lib.hid hwt
              clear hwt hvc
              go_wp2_with fail
              all_goals
                refine (open_none w11 nL (by decide) kind).mono ?_
                rintro e0 w12 ⟨rfl, hb12⟩
                have hb612 := H11.out.1.trans (hb12.mono H11.out.1.size)
                have H12 := Lib.hid (And.intro hb612 (And.intro (H11.out.2.1.below hb12) (And.intro (H11.out.2.2.1.keep (w' := w12) fun q _ hq => hb12.block q hq) (Hwt.out.keep (w' := w12) fun q _ hq => hb12.block q hq))))
                clear hb612 hb12
                go_wp2_with fail
                refine (same5_at (H6.out.2.2.1.below H12.out.1) H12.out.2.1 (by omega)).mono ?_
                rintro e0 w13 ⟨rfl, hb13⟩
                rw [decide_eq_true (rfl : recs = recs)]
                have hs1 := (H12.out.2.2.1.keep (w' := w13) fun q _ hq => hb13.block q hq).str
                have hs2 := (H12.out.2.2.2.keep (w' := w13) fun q _ hq => hb13.block q hq).str
                rw [← Hnw.out] at hs2
                have Hb13 := Lib.hid (H12.out.1.trans (hb13.mono H12.out.1.size))
                clear hb13
                go_wp2_with fail
                refine (awake5_at w13).mono ?_
                rintro e0 w14 ⟨rfl, hb14⟩
                have Hb14 := Lib.hid (Hb13.out.trans (hb14.mono Hb13.out.size))
                clear hb14
                go_wp2_with fail
                go_ret
                exact ⟨rfl, HA.out.1.trans ((H6.out.1.trans (Hb14.out.mono H6.out.1.size)).mono HA.out.1.size)⟩)
    · obtain ⟨rfl, rfl⟩ := hno hee
      obtain ⟨hrd, p6, hp6⟩ := x6 hee
      have hpb : (D6.fs p6).b = bb := by rw [← hrd]; unfold readP; rw [hp6]
      have H6 := Lib.hid (And.intro hb6 (And.intro h6 (And.intro d6 (And.intro n6 (And.intro hp6 (And.intro hpb hbb6))))))
      have g7 : (ee == 0) = false := by simpa using hee
      clear hb6 h6 d6 n6 hp6 hpb hrd hbb6 hG hk6 hno hok x6 y6 g6 hee
      go_wp2_with fail
      refine HSC.out.mono ?_
      rintro e0 w7 ⟨v7, rfl, _, hb7⟩
      have H7 := Lib.hid hb7
      clear hb7
      go_wp2_with fail
      refine (has_stat (H6.out.2.1.below H7.out) nN (by decide)).mono ?_
      rintro e0 w8 hst
      obtain ⟨rfl, hb8⟩ := hst.no H6.out.2.2.1 H6.out.2.2.2.1
      have Hb8 := Lib.hid (H7.out.trans (hb8.mono H7.out.size))
      clear hst hb8
      go_wp2_with fail
      obtain ⟨w9, hw9⟩ : ∃ w9, w8.alloc (.cells #[.int .i64 0, .int .i64 0] 37) = w9 := ⟨_, rfl⟩
      have hb9 : Below w6.heap.size w6 w9 := by rw [← hw9]; exact Hb8.out.alloc Hb8.out.size _
      rw [hw9]
      have H9 := Lib.hid hb9
      clear hw9 hb9
      refine (has_read (H6.out.2.1.below H9.out) nL (by decide)).mono ?_
      rintro e0 w10 hrd10
      obtain ⟨na, nc, rfl, hbo, _, hb10⟩ := hrd10.yes H6.out.2.2.1 H6.out.2.2.2.2.1 H6.out.2.2.2.2.2.1
      have hb610 := H9.out.trans (hb10.mono H9.out.size)
      have hs1 := (Bown.bin hbo).str
      have hs2 := (H6.out.2.2.2.2.2.2.keep (w' := w10) fun q _ hq => hb610.block q hq).str
      have Hb610 := Lib.hid hb610
      clear hrd10 hbo hb10 hb610
      go_wp2_with fail
      refine (awake5_at w10).mono ?_
      rintro e0 w14 ⟨rfl, hb14⟩
      have Hb14 := Lib.hid (Hb610.out.trans (hb14.mono Hb610.out.size))
      clear hb14
      go_wp2_with fail
      go_ret
      exact ⟨rfl, HA.out.1.trans ((H6.out.1.trans (Hb14.out.mono H6.out.1.size)).mono HA.out.1.size)⟩
end Go.Proofs.YtbckbkcpfejllaaDoor
