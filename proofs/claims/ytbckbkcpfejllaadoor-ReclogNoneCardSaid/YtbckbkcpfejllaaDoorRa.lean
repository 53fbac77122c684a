/- ReclogNone: a log that is not there tells that the disk is down; so does one of a disk that is: the walk. -/
import Derived.Test.YtbckbkcpfejllaaDoorLe
namespace Go.Proofs.YtbckbkcpfejllaaDoor
open Go.RowKit Go.Maps Go.WideMaps

abbrev nL : ByteArray := ⟨#[108, 111, 103]⟩
abbrev nN : ByteArray := ⟨#[108, 111, 103, 46, 110, 101, 119]⟩
theorem spare_nL : spareN nL = nN := by decide
theorem right_nL : rightP nL = true := by decide
theorem right_nN : rightP nN = true := by decide
theorem isE_nL : isE nL = false := by
  cases h : isE nL
  · rfl
  · exact absurd ((isE_iff _).1 h) (by decide)
theorem isE_nN : isE nN = false := by
  cases h : isE nN
  · rfl
  · exact absurd ((isE_iff _).1 h) (by decide)
theorem ne_nL : bs nL ≠ bs nN := by decide
theorem sync_down {D : PD} (h : D.down = true) (name : ByteArray) : logSyncP D name = (8, D) := by
  unfold logSyncP
  rw [deed_down h, then_err (by decide)]
theorem rewrite_down {D : PD} (h : D.down = true) (name spare : ByteArray) (b : Bs) (q : Nat) : logRewriteP D name spare b q = (8, D) := by
  unfold logRewriteP
  rw [deed_down h, then_err (by decide)]
theorem open_down {D : PD} (h : D.down = true) (name spare : ByteArray) (k : UInt8) (q : Nat) : logOpenP D name spare k q = (8, D) := by
  unfold logOpenP
  rw [if_pos h]
set_option maxRecDepth 100000 in
set_option maxHeartbeats 1000000 in
theorem rnone_at (w : World) {v : Value} {b : Bs} (hb : Bin w v b) : Calls Tryd.prog 4 #[v] w fun e w' => e = .returned (.bool true) ∧ Below w.heap.size w w' := by
  obtain ⟨va, vc, rfl⟩ : ∃ a c, v = .slice a b.length c := by obtain ⟨a, c, e, _⟩ := hb; exact ⟨a, c, e⟩
  by_cases hl : 4096 < b.length
  · clear hb
    go_enter Tryd.func4, Tryd.ntmps4
    go_wp2_with fail
    go_ret
    exact ⟨rfl, Below.refl _ w⟩
  have Hb := Lib.hid hb
  clear hb
  go_enter Tryd.func4, Tryd.ntmps4
  go_wp2_with fail
  refine (log_append_nil w _).mono ?_
  rintro e0 w1 ⟨rfl, rfl⟩
  go_wp2_with fail
  refine (log_sync_nil w).mono ?_
  rintro e0 w1 ⟨rfl, hb1⟩
  have Hb1 := Lib.hid hb1
  clear hb1
  go_wp2_with fail
  refine (log_rewrite_nil _ _).mono ?_
  rintro e0 w2 ⟨rfl, hb2⟩
  have Hb2 := Lib.hid (Hb1.out.trans ((((Below.refl _ w1).alloc (Nat.le_refl _) _).trans (hb2.mono (by simp))).mono Hb1.out.size))
  clear hb2 Hb1
  go_wp2_with fail
  refine (has_new 1048576 (by omega) (by omega) w2).mono ?_
  rintro e0 w3 ⟨rfl, h3, hb3⟩
  obtain ⟨d, hd⟩ : ∃ d, w2.heap.size + 2 = d := ⟨_, rfl⟩
  rw [hd] at h3 ⊢
  have H3 := Lib.hid h3
  have Hb3 := Lib.hid hb3
  clear h3 hb3 hd
  go_wp2_with fail
  refine (log_open H3.out (by omega) nL (by decide) 1).mono ?_
  rintro e0 w4 ⟨c, q, pv, v', G, rfl, hq, hc, h4, hG, hk4, _, hok⟩
  rw [spare_nL] at hq hc h4 hok
  obtain ⟨D4, e4, hs4, hu4, _⟩ := open_new (k := 1) (spare := nN) isE_nL ne_nL right_nL 1048576 (by decide) q
  rw [e4] at hc h4
  obtain rfl : c = 0 := hc
  obtain ⟨p, rfl, _, hp4, hGp, _, _⟩ := hok rfl
  have H4 := Lib.hid (And.intro h4 (And.intro hG (And.intro hk4 (And.intro hp4 (And.intro hGp hu4)))))
  clear hq h4 hG hk4 hok hp4 hGp e4 hs4 hu4
  go_wp2_with fail
  refine (done_arm H4.out.1 (by omega) 0 (by omega)).mono ?_
  rintro e0 w5 ⟨rfl, h5, hk5⟩
  have H5 := Lib.hid (And.intro h5 (And.intro hk5 (H4.out.2.2.2.1.kept hk5 H4.out.2.2.2.2.1)))
  clear h5 hk5
  go_wp2_with fail
  have hbw5 : Below w.heap.size w w5 := by
    have h23 : Below w.heap.size w w3 := Hb2.out.trans (Hb3.out.mono Hb2.out.size)
    refine below_kept (F := fun b => b < w2.heap.size) (below_kept (F := fun b => b < w2.heap.size) h23 (Nat.le_refl _) H4.out.2.2.1 fun b hb => Nat.lt_of_lt_of_le hb Hb2.out.size) (Nat.le_refl _) (H5.out.2.1.mono fun b _ hn hF => hn (H4.out.2.1 b hF)) fun b hb => Nat.lt_of_lt_of_le hb Hb2.out.size
  have hGl : ∀ b, b < w.heap.size → G b := fun b hb => H4.out.2.1 b (Nat.lt_of_lt_of_le hb Hb2.out.size)
  have HB5 := Lib.hid (And.intro hbw5 hGl)
  clear hbw5 hGl
  refine (log_append (R := fun c D' => c = 8 ∧ D'.down = true) H5.out.1 (by omega) H5.out.2.2 (by decide) (Hb.out.keep fun q _ hq => HB5.out.1.block q hq) (by omega) (fun q _ => by rw [deed_zero (by exact H4.out.2.2.2.2.2.1) (by rfl)]; exact ⟨rfl, rfl⟩)).mono ?_
  rintro e0 w6 ⟨c, D6, rfl, ⟨rfl, hd6⟩, h6, hk6⟩
  have H6 := Lib.hid (And.intro h6 (And.intro (H5.out.2.2.kept hk6 H4.out.2.2.2.2.1) (And.intro hd6 (below_kept HB5.out.1 (Nat.le_refl _) hk6 HB5.out.2))))
  clear h6 hk6 hd6
  go_wp2_with fail
  refine (log_sync H6.out.1 (by omega) H6.out.2.1 H4.out.2.2.2.2.1 (by decide)).mono ?_
  rintro e0 w7 ⟨c, D7, rfl, hr7, h7, hk7⟩
  rw [sync_down H6.out.2.2.1] at hr7
  obtain ⟨rfl, rfl⟩ := Prod.mk.inj hr7
  have H7 := Lib.hid (And.intro h7 (And.intro (H6.out.2.1.kept hk7 H4.out.2.2.2.2.1) (below_kept H6.out.2.2.2 (Nat.le_refl _) hk7 HB5.out.2)))
  clear h7 hk7 hr7
  go_wp2_with fail
  refine (log_rewrite (l := []) H7.out.1 (by omega) H7.out.2.1 H4.out.2.2.2.2.1 (by decide) ⟨[], Lst.nil _, rfl, fun j h => absurd h (by simp)⟩ (by simp) (by simp)).mono ?_
  rintro e0 w8 ⟨c, D8, rfl, ⟨q8, _, hr8⟩, h8, hk8⟩
  rw [rewrite_down H6.out.2.2.1] at hr8
  obtain ⟨rfl, rfl⟩ := Prod.mk.inj hr8
  have H8 := Lib.hid (And.intro h8 (below_kept H7.out.2.2 (Nat.le_refl _) hk8 HB5.out.2))
  clear h8 hk8 hr8
  go_wp2_with fail
  refine (log_open H8.out.1 (by omega) nL (by decide) 1).mono ?_
  rintro e0 w9 ⟨c, q9, pv9, v9, G9, rfl, _, hc9, _, _, hk9, hno, _⟩
  rw [open_down H6.out.2.2.1] at hc9
  obtain rfl : c = 8 := hc9
  obtain ⟨rfl, rfl⟩ := hno (by decide)
  have H9 := Lib.hid (below_kept H8.out.2 (Nat.le_refl _) hk9 HB5.out.2)
  clear hk9 hno
  go_wp2_with fail
  refine (awake5_at w9).mono ?_
  rintro e0 w10 ⟨rfl, hb10⟩
  have H10 := Lib.hid (H9.out.trans (hb10.mono H9.out.size))
  clear hb10
  go_wp2_with fail
  go_ret
  exact ⟨rfl, H10.out⟩
end Go.Proofs.YtbckbkcpfejllaaDoor
