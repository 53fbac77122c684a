/- DiskArmed: a disk that is armed does so many deeds, and no more, till it is restarted: plainly, and the walk. -/
import Derived.Test.YtbckbkcpfejllaaDoorLa1
namespace Go.Proofs.YtbckbkcpfejllaaDoor
open Go.RowKit Go.Maps Go.WideMaps

theorem fresh4_at (w : World) : Calls Tryd.prog 21 #[] w fun e w' => e = .returned (.tuple #[.pointer (some ⟨w.heap.size + 2, 0, none⟩), .bool true]) ∧ Has (fun b => b < w.heap.size) (w.heap.size + 2) w' (PD.new 16777216) 0 ∧ Below w.heap.size w w' := by
  go_enter Tryd.func21, Tryd.ntmps21
  go_wp2_with fail
  refine (has_new 16777216 (by omega) (by omega) w).mono ?_
  rintro e w1 ⟨rfl, h1, hb1⟩
  have H1 := Lib.hid h1
  have Hb1 := Lib.hid hb1
  clear h1 hb1
  go_wp2_with fail
  go_ret2
  exact ⟨rfl, H1.out, Hb1.out⟩

/-- What lies on the disk behind K deeds: one file of K bytes, none of them sure; or nothing. -/
def ArmS (K : Nat) (D : PD) : Prop :=
  D.quota = 16777216 ∧ D.sure = [] ∧ ((K = 0 ∧ D.files = [] ∧ D.pend = []) ∨ (0 < K ∧ ∃ p, D.files = [(bs nF, p)] ∧ (D.fs p).b.length = K ∧ (D.fs p).sure = 0 ∧ D.pend = [⟨nF, some p, ByteArray.empty⟩]))
def ArmI (K j : Nat) (D : PD) : Prop := ArmS j D ∧ D.armed = (K : Int) - j ∧ D.deeds = j ∧ D.down = false
def ArmJ (K : Nat) (dn : Bool) (D : PD) : Prop := ArmS K D ∧ (dn = false → D.armed = 0) ∧ D.deeds = K ∧ D.down = dn
theorem arm_start (K : Nat) : ArmI K 0 { PD.new 16777216 with armed := max (K : Int) (-1) } :=
  ⟨⟨rfl, rfl, Or.inl ⟨rfl, rfl, rfl⟩⟩, by show max (K : Int) (-1) = _; omega, rfl, rfl⟩
theorem arm_append {K j : Nat} {D : PD} (h : ArmI K j D) (hj : j < K) (hK : K ≤ 50) (c : UInt8) (p' : Nat) :
    (D.deed (rightP nF) fun D' => D'.append nF [c] p').1 = 0 ∧ ArmI K (j + 1) (D.deed (rightP nF) fun D' => D'.append nF [c] p').2 := by
  obtain ⟨⟨hq, hs, hfl⟩, ha, hd, hdn⟩ := h
  rw [right_nF, deed_up hdn (by rw [ha]; omega)]
  have hca : D.counted.armed = (K : Int) - (j + 1 : Nat) := by show (if 0 < D.armed then D.armed - 1 else D.armed) = _; rw [ha]; split <;> omega
  have hcd : D.counted.deeds = ((j + 1 : Nat) : Int) := by show D.deeds + 1 = _; rw [hd]; omega
  rcases hfl with ⟨rfl, hf, hp⟩ | ⟨_, p, hf, hl, hsu, hp⟩
  · obtain ⟨D', e, h', hq'⟩ := one_append_new (D := D.counted) (n := nF) (p := p') (b := [c]) hf hs hp hca hcd rfl hdn isE_nF (by simp) (by show _ ≤ D.quota; rw [hq]; simp)
    rw [e]
    exact ⟨rfl, ⟨hq'.trans hq, h'.sure, Or.inr ⟨by omega, p', h'.files, by rw [h'.fs]; rfl, by rw [h'.fs], h'.pend⟩⟩, h'.armed, h'.deeds, h'.down⟩
  · have hone : OneI D.counted nF p (D.fs p) [] [⟨nF, some p, ByteArray.empty⟩] ((K : Int) - (j + 1 : Nat)) ((j + 1 : Nat) : Int) D.clock := ⟨hf, rfl, hs, hp, hca, hcd, rfl, hdn⟩
    obtain ⟨D', e, h', hq'⟩ := hone.append [c] p' (by rw [hl]; simp; omega) (by show _ ≤ D.quota; rw [hq, hl]; simp; omega)
    rw [e]
    exact ⟨rfl, ⟨hq'.trans hq, h'.sure, Or.inr ⟨by omega, p, h'.files, by rw [h'.fs]; simp [hl], by rw [h'.fs]; exact hsu, h'.pend⟩⟩, h'.armed, h'.deeds, h'.down⟩
theorem arm_over {K : Nat} {D : PD} {dn : Bool} (h : ArmJ K dn D) (r : Bool) (f : PD → Int × PD) : (D.deed r f).1 = 8 ∧ ArmJ K true (D.deed r f).2 := by
  obtain ⟨hs, ha, hd, hdn⟩ := h
  cases dn
  · rw [deed_zero hdn (ha rfl)]
    exact ⟨rfl, hs, (fun h => by cases h), hd, rfl⟩
  · rw [deed_down hdn]
    exact ⟨rfl, hs, (fun h => by cases h), hd, hdn⟩
theorem arm_arm {K : Nat} {D : PD} (h : ArmJ K true D) (n : Int) : ArmJ K true { D with armed := n } := ⟨h.1, (fun h => by cases h), h.2.2.1, h.2.2.2⟩
theorem back_nil {D : PD} (h : D.pend = []) (dir : Int) : D.back dir = D.sure := by
  unfold PD.back
  rw [h]; simp
/-- Behind the restart. -/
theorem arm_back {K : Nat} {D : PD} (h : ArmJ K true D) (hK2 : K ≤ 50) : (K = 0 ∧ Dir.find (D.restart 1 [1000]).files (bs nF) = none) ∨ (0 < K ∧ ∃ p, Dir.find (D.restart 1 [1000]).files (bs nF) = some p ∧ ((D.restart 1 [1000]).fs p).b.length = K) := by
  obtain ⟨⟨hq, hs, hfl⟩, _⟩ := h
  rcases hfl with ⟨h0, hf, hp⟩ | ⟨hK, p, hf, hl, hsu, hp⟩
  · refine Or.inl ⟨h0, ?_⟩
    rw [restart_none (by rw [back_nil hp, hs])]
    rfl
  · refine Or.inr ⟨hK, ?_⟩
    have hb : D.back 1 = [(bs nF, p)] := by rw [back_one hp, hs, does_new _ isE_nF]
    obtain ⟨h1, h2⟩ := restart_one hb [1000]
    refine ⟨p, by rw [h1]; exact find_one _ _, ?_⟩
    rw [h2]
    have ht : PD.tailOf [1000] 0 = 1000 := rfl
    unfold PF.kept
    rw [ht, hsu, if_neg (by omega), hl]
theorem arm_sync (D : PD) : ((D.restart 1 [1000]).deed true fun D' => D'.syncDir).1 = 0 := by
  rw [deed_up rfl (by show (-1 : Int) ≠ 0; decide)]
  rfl

set_option maxRecDepth 100000 in
set_option maxHeartbeats 2000000 in
theorem armed_at (a b : Nat) (ha : a ≤ 255) (hb : b ≤ 255) (w : World) : Calls Tryd.prog 7 #[.int .u8 a, .int .u8 b] w fun e w' => e = .returned (.bool true) ∧ Below w.heap.size w w' := by
  obtain ⟨K, hK⟩ : ∃ K : Nat, (a : Int) % 50 = K := ⟨a % 50, by omega⟩
  obtain ⟨M, hM⟩ : ∃ M : Nat, (b : Int) % 5 = M := ⟨b % 5, by omega⟩
  have hK5 : K < 50 := by omega
  have hM5 : M < 5 := by omega
  go_enter Tryd.func7, Tryd.ntmps7
  go_wp2_with fail
  refine (fresh4_at w).mono ?_
  rintro e w1 ⟨rfl, h1, hb1⟩
  have H1 := Lib.hid h1
  have Hb1 := Lib.hid hb1
  clear h1 hb1
  go_wp2_with fail
  refine (done_arm H1.out (by omega) K (by omega)).mono ?_
  rintro e w2 ⟨rfl, h2, hk2⟩
  have hb2 : Below w.heap.size w w2 := below_kept Hb1.out (Nat.le_refl _) hk2 (fun b hb => hb)
  have H2 := Lib.hid h2
  clear h2 hk2
  go_wp2_with fail
  go_loopw [8] (fun i wr => ∃ (j : Nat) (D : PD), j ≤ K ∧ i = .int .i64 j ∧ ArmI K j D ∧ Has (fun b => b < w.heap.size) (w.heap.size + 2) wr D (2 * j + 2) ∧ Below w.heap.size w wr) (fun i _ => K - (intOf i).toNat)
  case atStart => exact ⟨0, _, Nat.zero_le _, rfl, arm_start K, H2.out, hb2⟩
  case round =>
    obtain ⟨j, D, hj, rfl, hI, hH, hbw⟩ := hrel
    have HI := Lib.hid hI
    have HH := Lib.hid hH
    clear hI hH
    by_cases hlt : j < K
    · go_wp2_with fail
      have hbv : byteV (UInt8.ofNat j) = .int .u8 j := by
        unfold byteV
        congr 1
        simp
        omega
      have hbin : Bin (wr.alloc (.cells #[.int .u8 j] 5)) (.slice (some ⟨wr.heap.size, 0, none⟩) 1 1) [UInt8.ofNat j] := bin_new (xs := [UInt8.ofNat j]) (by rw [List.map_singleton, hbv]; exact heap_alloc_at rfl _)
      have Hbin := Lib.hid hbin
      clear hbin hbv
      refine (told_append (HH.out.alloc _) (by omega) nF (by decide) Hbin.out (by simp) (fun q hq => Or.inr (Option.some.inj hq).symm) (R := fun c D' => c = 0 ∧ ArmI K (j + 1) D') (fun p _ => arm_append HI.out hlt (by omega) _ p)).mono ?_
      rintro e w3 ⟨c, D3, rfl, ⟨rfl, hr3⟩, h3, hk3⟩
      have hb3 : Below w.heap.size w w3 := below_kept (hbw.alloc hbw.size _) (Nat.le_refl _) hk3 (fun b hb => Or.inl hb)
      have H3 := Lib.hid (h3.less (G := fun b => b < w.heap.size) (fun b hb => Or.inl hb))
      have Hr3 := Lib.hid hr3
      clear h3 hr3 hk3
      have hdn := has_down H3.out
      rw [Hr3.out.2.2.2] at hdn
      have Hdn := Lib.hid hdn
      clear hdn
      go_wp2_with fail
      refine Hdn.out.mono ?_
      rintro e w4 ⟨rfl, rfl⟩
      go_wp2_with fail
      go_roundw
      case rel => exact ⟨j + 1, D3, by omega, by go_num, Hr3.out, H3.out.more (by omega), hb3⟩
      case measure => simp [intOf]; omega
    · obtain rfl : j = K := by omega
      go_wp2_with fail
      have hJ0 : ArmJ j false D := ⟨HI.out.1, fun _ => by rw [HI.out.2.1]; omega, HI.out.2.2.1, HI.out.2.2.2⟩
      go_loopw [9] (fun i wr => ∃ (m : Nat) (D : PD), m ≤ M + 1 ∧ i = .int .i64 m ∧ (∃ dn, ArmJ j dn D ∧ (0 < m → dn = true)) ∧ Has (fun b => b < w.heap.size) (w.heap.size + 2) wr D (1000 + 2 * m) ∧ Below w.heap.size w wr) (fun i _ => M + 1 - (intOf i).toNat)
      case atStart => exact ⟨0, D, Nat.zero_le _, rfl, ⟨false, hJ0, (fun h => by omega)⟩, HH.out.more (by omega), hbw⟩
      case round =>
        clear hbw HH HI hJ0
        obtain ⟨m, D, hm, rfl, ⟨dn, hJ, hdn⟩, hH, hbw⟩ := hrel
        have HJ := Lib.hid (And.intro hJ hdn)
        have HH := Lib.hid hH
        clear hJ hH hdn
        by_cases hlt : m < M + 1
        · have hle : decide ((m : Int) ≤ (M : Int)) = true := by simp; omega
          go_wp2_with fail
          have hbin : Bin (wr.alloc (.cells #[.int .u8 7] 5)) (.slice (some ⟨wr.heap.size, 0, none⟩) 1 1) [7] := bin_new (xs := [7]) (heap_alloc_at rfl _)
          have Hbin := Lib.hid hbin
          clear hbin
          refine (told_append (HH.out.alloc _) (by omega) nF (by decide) Hbin.out (by simp) (fun q hq => Or.inr (Option.some.inj hq).symm) (R := fun c D' => c = 8 ∧ ArmJ j true D') (fun p _ => arm_over HJ.out.1 _ _)).mono ?_
          rintro e w3 ⟨c, D3, rfl, ⟨rfl, hr3⟩, h3, hk3⟩
          have hb3 : Below w.heap.size w w3 := below_kept (hbw.alloc hbw.size _) (Nat.le_refl _) hk3 (fun b hb => Or.inl hb)
          have H3 := Lib.hid (h3.less (G := fun b => b < w.heap.size) (fun b hb => Or.inl hb))
          have Hr3 := Lib.hid hr3
          clear h3 hr3 hk3
          have hdn := has_down H3.out
          rw [Hr3.out.2.2.2] at hdn
          have Hdn := Lib.hid hdn
          have hde := has_deeds H3.out
          rw [Hr3.out.2.2.1] at hde
          have Hde := Lib.hid hde
          clear hdn hde
          go_wp2_with fail
          refine Hdn.out.mono ?_
          rintro e w4 ⟨rfl, rfl⟩
          go_wp2_with fail
          refine Hde.out.mono ?_
          rintro e w4 ⟨rfl, rfl⟩
          go_wp2_with fail
          go_roundw
          case rel => exact ⟨m + 1, D3, by omega, by go_num, ⟨true, Hr3.out, fun _ => rfl⟩, H3.out.more (by omega), hb3⟩
          case measure => simp [intOf]; omega
        · have hle : decide ((m : Int) ≤ (M : Int)) = false := by simp; omega
          obtain rfl : dn = true := HJ.out.2 (by omega)
          have HJt := Lib.hid HJ.out.1
          clear HJ
          go_wp2_with fail
          refine (done_arm HH.out (by omega) 100 (by omega)).mono ?_
          rintro e w3 ⟨rfl, h3, hk3⟩
          have hb3 : Below w.heap.size w w3 := below_kept hbw (Nat.le_refl _) hk3 (fun b hb => hb)
          have H3 := Lib.hid h3
          have HJ3 := Lib.hid (arm_arm HJt.out (max 100 (-1)))
          clear h3 hk3
          go_wp2_with fail
          refine (has_stat H3.out nF (by decide)).mono ?_
          rintro e w4 hs4
          obtain ⟨rfl, hb4⟩ := hs4.down HJ3.out.2.2.2
          have hb4w : Below w.heap.size w w4 := hb3.trans (hb4.mono hb3.size)
          have H4 := Lib.hid ((H3.out.below hb4).less (G := fun b => b < w.heap.size) (fun b hb => Or.inl hb))
          clear hb4 hs4
          go_wp2_with fail
          refine (told_syncDir ((H4.out.alloc _).less (G := fun b => b < w.heap.size) (fun b hb => Or.inl hb)) (by omega) (R := fun c D' => c = 8 ∧ ArmJ j true D') (arm_over HJ3.out _ _)).mono ?_
          rintro e w5 ⟨c, D5, rfl, ⟨rfl, hr5⟩, h5, hk5⟩
          have hb5 : Below w.heap.size w w5 := below_kept (hb4w.alloc hb4w.size _) (Nat.le_refl _) hk5 (fun b hb => hb)
          have H5 := Lib.hid h5
          have Hr5 := Lib.hid hr5
          clear h5 hr5 hk5
          go_wp2_with fail
          refine (done_restart (H5.out.alloc _) (by omega) (tails := [1000]) (by omega) (by omega) (Lst.new (vs := [.int .i64 1000]) (heap_alloc_at rfl _)) (by decide) (fun t ht => by rw [List.mem_singleton.1 ht]; decide) (fun b hb => Or.inr (Option.some.inj hb).symm)).mono ?_
          rintro e w6 ⟨rfl, h6, hk6⟩
          have hb6 : Below w.heap.size w w6 := below_kept (hb5.alloc hb5.size _) (Nat.le_refl _) hk6 (fun b hb => Or.inl hb)
          have H6 := Lib.hid (h6.less (G := fun b => b < w.heap.size) (fun b hb => Or.inl hb))
          clear h6 hk6
          go_wp2_with fail
          refine (has_read H6.out nF (by decide)).mono ?_
          rintro e w7 hr7
          have hdn := restart_flags D5 1 [1000]
          obtain ⟨av, n, cv, c7, rfl, hn7, hc7, hb7⟩ : ∃ (av : Option Addr) (n cv : Nat) (c : Int), e = .returned (.tuple #[.slice av n cv, .int .i64 c]) ∧ n = j ∧ (c = if j = 0 then 6 else 0) ∧ Below w6.heap.size w6 w7 := by
            rcases arm_back Hr5.out (by omega) with ⟨h0, hf⟩ | ⟨h0, p, hf, hl⟩
            · obtain ⟨he, hb⟩ := hr7.no hdn.1 hf
              exact ⟨none, 0, 0, 6, he, h0.symm, by rw [if_pos h0], hb⟩
            · obtain ⟨av, cv, he, _, _, hb⟩ := hr7.yes hdn.1 hf rfl
              exact ⟨av, _, cv, 0, he, hl, by rw [if_neg (by omega)], hb⟩
          subst hn7
          have hb7w : Below w.heap.size w w7 := hb6.trans (hb7.mono hb6.size)
          have H7 := Lib.hid ((H6.out.below hb7).less (G := fun b => b < w.heap.size) (fun b hb => Or.inl hb))
          have hd7 := has_down H7.out
          rw [hdn.1] at hd7
          have Hd7 := Lib.hid hd7
          clear hr7 hdn hb7 hd7
          rcases Nat.eq_zero_or_pos n with h0 | h0
          · subst h0
            obtain rfl : c7 = 6 := hc7
            go_wp2_with fail
            refine Hd7.out.mono ?_
            rintro e w8 ⟨rfl, rfl⟩
            go_wp2_with fail
            refine (told_syncDir H7.out (by omega) (R := fun c _ => c = 0) (arm_sync D5)).mono ?_
            rintro e w8 ⟨c, D8, rfl, rfl, h8, hk8⟩
            have hb8 : Below w.heap.size w w8 := below_kept hb7w (Nat.le_refl _) hk8 (fun b hb => hb)
            clear h8 hk8
            go_wp2_with fail
            refine (awake4_at w8).mono ?_
            rintro e w9 ⟨rfl, hb9⟩
            have hb9w : Below w.heap.size w w9 := hb8.trans (hb9.mono hb8.size)
            clear hb9
            go_wp2_with fail
            go_ret
            exact ⟨rfl, hb9w⟩
          · obtain rfl : c7 = 0 := by rw [hc7, if_neg (by omega)]
            have hq : decide ((0 : Int) < (n : Int)) = true := by simp; omega
            clear hc7
            go_wp2_with fail
            refine Hd7.out.mono ?_
            rintro e w8 ⟨rfl, rfl⟩
            go_wp2_with fail
            refine (told_syncDir H7.out (by omega) (R := fun c _ => c = 0) (arm_sync D5)).mono ?_
            rintro e w8 ⟨c, D8, rfl, rfl, h8, hk8⟩
            have hb8 : Below w.heap.size w w8 := below_kept hb7w (Nat.le_refl _) hk8 (fun b hb => hb)
            clear h8 hk8
            go_wp2_with fail
            refine (awake4_at w8).mono ?_
            rintro e w9 ⟨rfl, hb9⟩
            have hb9w : Below w.heap.size w w9 := hb8.trans (hb9.mono hb8.size)
            clear hb9
            go_wp2_with fail
            go_ret
            exact ⟨rfl, hb9w⟩
end Go.Proofs.YtbckbkcpfejllaaDoor
