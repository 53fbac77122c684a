/- The laws of layer 5: are two rows of records alike; what the chapter's example says. -/
import Derived.Test.YtbckbkcpfejllaaDoorLw
namespace Go.Proofs.YtbckbkcpfejllaaDoor
open Go.RowKit Go.Maps Go.WideMaps

set_option maxRecDepth 100000 in
theorem same5_at {w : World} {va vb : Value} {la lb : List Bs} (ha : RecsIn w va la) (hb : RecsIn w vb lb) (hla : la.length ≤ 1000000) :
    Calls Tryd.prog 16 #[va, vb] w fun e w' => e = .returned (.bool (decide (la = lb))) ∧ Below w.heap.size w w' := by
  obtain ⟨vs, ⟨xa, ca, rfl, ha1, ha2, hac⟩, hva, hae⟩ := ha
  obtain ⟨us, ⟨xb, cb, rfl, hb1, hb2, hbc⟩, hvb, hbe⟩ := hb
  rw [hva, hvb]
  obtain ⟨r, hr⟩ : ∃ r : Bool, decide (la = lb) = r := ⟨_, rfl⟩
  rw [hr]
  by_cases hl : la.length = lb.length
  · rw [← hl]
    obtain ⟨n, hn⟩ : ∃ n, la.length = n := ⟨_, rfl⟩
    rw [hn]
    rw [hn] at hla
    have Hn := Lib.hid (And.intro hn (hl ▸ hn : lb.length = n))
    have Hr := Lib.hid hr
    have HA := Lib.hid (And.intro hva (And.intro hac hae))
    have HB := Lib.hid (And.intro hvb (And.intro hbc hbe))
    clear hl hn hr hva hvb hac hae hbc hbe ha1 ha2 hb1 hb2
    go_enter Tryd.func16, Tryd.ntmps16
    go_wp2_with fail
    go_loopw [5] (fun i wr => ∃ k : Nat, k ≤ n ∧ i = .int .i64 k ∧ la.take k = lb.take k ∧ Below w.heap.size w wr) (fun i _ => n - (intOf i).toNat)
    case atStart => exact ⟨0, Nat.zero_le _, rfl, by simp, Below.refl _ w⟩
    case round =>
      obtain ⟨k, hk, rfl, ht, hbw⟩ := hrel
      have Ht := Lib.hid ht
      have Hbw := Lib.hid hbw
      clear ht hbw
      by_cases hlt : k < n
      · have hka : k < la.length := by rw [Hn.out.1]; exact hlt
        have hkb : k < lb.length := by rw [Hn.out.2]; exact hlt
        obtain ⟨hva, hac, hae⟩ := HA.out
        obtain ⟨hvb, hbc, hbe⟩ := HB.out
        obtain ⟨ab, ao, rfl, hca⟩ := hac k (by omega)
        obtain ⟨bb, bo, rfl, hcb⟩ := hbc k (by omega)
        have ea := hae k (by omega) hka
        have eb := hbe k (by omega) hkb
        obtain ⟨x, hx⟩ : ∃ x, la[k] = x := ⟨_, rfl⟩
        obtain ⟨y, hy⟩ : ∃ y, lb[k] = y := ⟨_, rfl⟩
        obtain ⟨u, hu⟩ : ∃ u, vs[k]'(by omega) = u := ⟨_, rfl⟩
        obtain ⟨v, hv⟩ : ∃ v, us[k]'(by omega) = v := ⟨_, rfl⟩
        rw [hu, hx] at ea
        rw [hv, hy] at eb
        rw [hu] at hca
        rw [hv] at hcb
        have ca : wr.drew.cell? ⟨ab, ao + k, none⟩ = some u := (Hbw.out.cell (p := ⟨ab, ao + k, none⟩) (World.block_lt_of_cell? w _ hca)).trans hca
        have cb : wr.drew.cell? ⟨bb, bo + k, none⟩ = some v := (Hbw.out.cell (p := ⟨bb, bo + k, none⟩) (World.block_lt_of_cell? w _ hcb)).trans hcb
        have sa := (ea.keep (w' := wr.drew) fun q _ hq => Hbw.out.block q hq).str
        have sb := (eb.keep (w' := wr.drew) fun q _ hq => Hbw.out.block q hq).str
        have hta : la.take (k + 1) = la.take k ++ [x] := by rw [List.take_succ_eq_append_getElem hka, hx]
        have htb : lb.take (k + 1) = lb.take k ++ [y] := by rw [List.take_succ_eq_append_getElem hkb, hy]
        have Htt := Lib.hid (And.intro hta htb)
        have Hxy := Lib.hid (And.intro hx hy)
        clear hta htb hx hy hu hv hca hcb ea eb hae hbe hac hbc
        by_cases hq : x = y
        · subst hq
          go_wp2_with fail
          refine wp_region_reg (by kernel_rfl) (by kernel_rfl) ?_
          refine reg_quiet 0 rfl (by kernel_rfl) (fun K hK => ?_)
          go_simp
          refine hK _ ?_; clear hK K
          refine reg_quiet 1 rfl (by kernel_rfl) (fun K hK => ?_)
          go_simp
          refine hK _ ?_; clear hK K
          refine reg_quiet 2 rfl (by kernel_rfl) (fun K hK => ?_)
          go_simp
          refine hK _ ?_; clear hK K
          refine reg_quiet 3 rfl (by kernel_rfl) (fun K hK => ?_)
          go_simp
          refine hK _ ?_; clear hK K
          refine reg_quiet 4 rfl (by kernel_rfl) (fun K hK => ?_)
          go_simp
          refine hK _ ?_; clear hK K
          refine reg_quiet 5 rfl (by kernel_rfl) (fun K hK => ?_)
          go_simp
          refine hK _ ?_; clear hK K
          refine reg_quiet 6 rfl (by kernel_rfl) (fun K hK => ?_)
          go_simp
          refine hK _ ?_; clear hK K
          refine reg_quiet 7 rfl (by kernel_rfl) (fun K hK => ?_)
          go_simp
          refine hK _ ?_; clear hK K
          refine reg_quiet 8 rfl (by kernel_rfl) (fun K hK => ?_)
          go_simp
          refine hK _ ?_; clear hK K
          refine reg_quiet 9 rfl (by kernel_rfl) (fun K hK => ?_)
          go_simp
          refine hK _ ?_; clear hK K
          refine reg_quiet 10 rfl (by kernel_rfl) (fun K hK => ?_)
          go_simp
          refine hK _ ?_; clear hK K
          refine reg_done (by kernel_rfl) ?_
          go_wp2_with fail
          go_roundw
          case rel => exact ⟨k + 1, by omega, by go_num, by rw [Htt.out.1, Htt.out.2, Ht.out], Hbw.out.drew⟩
          case measure => simp [intOf]; omega
        · have hq2 : (x == y) = false := by simpa using hq
          have Hq := Lib.hid hq
          clear hq
          go_wp2_with fail
          refine wp_region_reg (by kernel_rfl) (by kernel_rfl) ?_
          refine reg_quiet 0 rfl (by kernel_rfl) (fun K hK => ?_)
          go_simp
          refine hK _ ?_; clear hK K
          refine reg_quiet 1 rfl (by kernel_rfl) (fun K hK => ?_)
          go_simp
          refine hK _ ?_; clear hK K
          refine reg_quiet 2 rfl (by kernel_rfl) (fun K hK => ?_)
          go_simp
          refine hK _ ?_; clear hK K
          refine reg_quiet 3 rfl (by kernel_rfl) (fun K hK => ?_)
          go_simp
          refine hK _ ?_; clear hK K
          refine reg_quiet 4 rfl (by kernel_rfl) (fun K hK => ?_)
          go_simp
          refine hK _ ?_; clear hK K
          refine reg_quiet 5 rfl (by kernel_rfl) (fun K hK => ?_)
          go_simp
          refine hK _ ?_; clear hK K
          refine reg_quiet 6 rfl (by kernel_rfl) (fun K hK => ?_)
          go_simp
          refine hK _ ?_; clear hK K
          refine reg_quiet 7 rfl (by kernel_rfl) (fun K hK => ?_)
          go_simp
          refine hK _ ?_; clear hK K
          refine reg_quiet 8 rfl (by kernel_rfl) (fun K hK => ?_)
          go_simp
          refine hK _ ?_; clear hK K
          refine reg_quiet 9 rfl (by kernel_rfl) (fun K hK => ?_)
          go_simp
          refine hK _ ?_; clear hK K
          refine reg_quiet 10 rfl (by kernel_rfl) (fun K hK => ?_)
          go_simp
          refine hK _ ?_; clear hK K
          refine reg_done (by kernel_rfl) ?_
          go_wp2_with fail
          go_ret
          have hne : la ≠ lb := fun e => Hq.out (by
            have h := congrArg (fun l : List Bs => l[k]?) e
            simp only [List.getElem?_eq_getElem hka, List.getElem?_eq_getElem hkb, Hxy.out.1, Hxy.out.2] at h
            exact Option.some.inj h)
          exact ⟨by rw [← Hr.out]; simp [hne], Hbw.out.drew⟩
      · obtain rfl : k = n := by omega
        have he : la = lb := by
          have := Ht.out
          rwa [List.take_of_length_le (by rw [Hn.out.1]; exact Nat.le_refl _), List.take_of_length_le (by rw [Hn.out.2]; exact Nat.le_refl _)] at this
        obtain rfl : r = true := by rw [← Hr.out]; simp [he]
        clear he
        go_wp2_with fail
        go_ret
        exact ⟨rfl, Hbw.out⟩
  · obtain rfl : r = false := by rw [← hr]; simp; exact fun e => hl (e ▸ rfl)
    have g : ((la.length : Int) == (lb.length : Int)) = false := by simpa using fun e => hl (by exact_mod_cast e)
    clear hl hr hva hvb hac hae hbc hbe ha1 ha2 hb1 hb2
    go_enter Tryd.func16, Tryd.ntmps16
    go_wp2_with fail
    go_ret
    exact ⟨rfl, Below.refl _ w⟩
theorem crc_a : frameP [97] = [1, 0, 0, 0, 67, 190, 183, 232, 97] := by decide
set_option maxRecDepth 100000 in
theorem awake5_at (w : World) : Calls Tryd.prog 14 #[] w fun e w' => e = .returned (.bool true) ∧ Below w.heap.size w w' := by
  have kc := fun (w : World) (C : Array Value) (n c : Nat) => Lib.run_convert_bytes_const (P := Tryd.prog) w 22 5 C n c Tryd.underlying22 Tryd.underlying5
  go_enter Tryd.func14, Tryd.ntmps14
  go_wp2_with fail
  refine (frame_good (b := [97]) (bin_new (xs := [97]) (heap_alloc_at rfl _)) (by decide)).mono ?_
  rintro e w1 ⟨fa, fc, rfl, hown, hb1, hf1⟩
  have hb : Bin w1 (.slice fa 9 fc) [1, 0, 0, 0, 67, 190, 183, 232, 97] := by
    rw [← crc_a]
    exact Bown.bin (xs := frameP [97]) (by exact hown)
  have hs := hb.str
  have Hb1 := Lib.hid hb1
  rw [show 8 + List.length [(97 : UInt8)] = 9 from rfl]
  clear hown hb1 hf1 hb
  go_wp2_with fail
  go_ret
  exact ⟨rfl, ((Below.refl _ w).alloc (Nat.le_refl _) _).trans (Hb1.out.mono (by simp))⟩
abbrev nL : ByteArray := ⟨#[108, 111, 103]⟩
abbrev nN : ByteArray := ⟨#[108, 111, 103, 46, 110, 101, 119]⟩
theorem spare_nL : spareN nL = nN := by decide
theorem right_nL : rightP nL = true := by decide
theorem right_nN : rightP nN = true := by decide
theorem isE_nL : isE nL = false := by
  cases h : isE nL
  · rfl
  · exact absurd ((isE_iff _).1 h) (by decide)
theorem isE_nN : isE nN = false := by
  cases h : isE nN
  · rfl
  · exact absurd ((isE_iff _).1 h) (by decide)
theorem ne_nL : bs nL ≠ bs nN := by decide
theorem sync_down {D : PD} (h : D.down = true) (name : ByteArray) : logSyncP D name = (8, D) := by
  unfold logSyncP
  rw [deed_down h, then_err (by decide)]
theorem rewrite_down {D : PD} (h : D.down = true) (name spare : ByteArray) (b : Bs) (q : Nat) : logRewriteP D name spare b q = (8, D) := by
  unfold logRewriteP
  rw [deed_down h, then_err (by decide)]
theorem open_down {D : PD} (h : D.down = true) (name spare : ByteArray) (k : UInt8) (q : Nat) : logOpenP D name spare k q = (8, D) := by
  unfold logOpenP
  rw [if_pos h]
end Go.Proofs.YtbckbkcpfejllaaDoor
