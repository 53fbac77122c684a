/- What the disk's chapter says in its examples: plainly, and the walk of the law's 'awake'. -/
import Derived.Test.YtbckbkcpfejllaaGreatDoorLa0
import Derived.Lib.SlBytesConst
namespace Go.Proofs.YtbckbkcpfejllaaGreatDoor
open Go.RowKit Go.Maps Go.WideMaps

abbrev nF : ByteArray := ⟨#[102]⟩
theorem right_nF : rightP nF = true := by decide
theorem isE_nF : isE nF = false := by
  have : ¬ isE nF = true := fun h => by have := (isE_iff nF).1 h; simp [bs] at this
  simpa using this
def AwR1 (q : Int) (c : Int) (D : PD) : Prop := c = 0 ∧ D.quota = q ∧ ∃ p, OneI D nF p ⟨[97], 0, 1⟩ [] [⟨nF, some p, ByteArray.empty⟩] (-1) 1 2
def AwR2 (q : Int) (c : Int) (D : PD) : Prop := c = 0 ∧ D.quota = q ∧ ∃ p, OneI D nF p ⟨[97, 98], 0, 2⟩ [] [⟨nF, some p, ByteArray.empty⟩] (-1) 2 3
def AwR3 (q : Int) (c : Int) (D : PD) : Prop := c = 0 ∧ D.quota = q ∧ ∃ p, OneI D nF p ⟨[97, 98], 2, 2⟩ [] [⟨nF, some p, ByteArray.empty⟩] (-1) 3 3
theorem aw1 (p : Nat) : AwR1 100 ((PD.new 100).deed (rightP nF) fun D' => D'.fresh nF [97] p).1 ((PD.new 100).deed (rightP nF) fun D' => D'.fresh nF [97] p).2 := by
  obtain ⟨D', e, h, hq⟩ := one_fresh (D := (PD.new 100).counted) (n := nF) (p := p) (b := [97]) (a := -1) (d := 1) (c := 1) rfl rfl rfl rfl rfl rfl rfl isE_nF (by decide) (by decide)
  rw [right_nF, deed_up rfl (by decide), e]
  exact ⟨rfl, hq, p, h⟩
theorem aw2 {D : PD} {c : Int} (h : AwR1 100 c D) (p' : Nat) : AwR2 100 (D.deed (rightP nF) fun D' => D'.append nF [98] p').1 (D.deed (rightP nF) fun D' => D'.append nF [98] p').2 := by
  obtain ⟨rfl, hq, p, h⟩ := h
  obtain ⟨D', e, h', hq'⟩ := h.counted.append [98] p' (by decide) (by show _ ≤ D.quota; rw [hq]; decide)
  rw [right_nF, deed_up h.down (by rw [h.armed]; decide), e]
  exact ⟨rfl, hq'.trans hq, p, h'⟩
theorem aw3 {D : PD} {c : Int} (h : AwR2 100 c D) : AwR3 100 (D.deed (rightP nF) fun D' => D'.sync nF).1 (D.deed (rightP nF) fun D' => D'.sync nF).2 := by
  obtain ⟨rfl, hq, p, h⟩ := h
  obtain ⟨D', e, h', hq'⟩ := h.counted.sync
  rw [right_nF, deed_up h.down (by rw [h.armed]; decide), e]
  exact ⟨rfl, hq'.trans hq, p, h'⟩
theorem back_zero (D : PD) : D.back 0 = D.sure := by
  unfold PD.back
  have : min (max (0 : Int) 0).toNat D.pend.length = 0 := by simp
  rw [this]; rfl
theorem back_one {D : PD} {c : Chg} (h : D.pend = [c]) : D.back 1 = c.does D.sure := by
  unfold PD.back
  have : min (max (1 : Int) 0).toNat D.pend.length = 1 := by rw [h]; rfl
  rw [this, h]; rfl
theorem does_new (n : ByteArray) (hn : isE n = false) (p : Nat) : Chg.does ⟨n, some p, ByteArray.empty⟩ [] = [(bs n, p)] := by
  have hE2 : isE ByteArray.empty = true := isE_empty
  simp only [Chg.does, hn, hE2]
  simp [Dir.put, Dir.ins, Dir.del]
theorem aw4 {D : PD} {c : Int} (h : AwR3 100 c D) : (D.restart 0 []).down = false ∧ Dir.find (D.restart 0 []).files (bs nF) = none := by
  obtain ⟨rfl, hq, p, h⟩ := h
  refine ⟨rfl, ?_⟩
  rw [restart_none (by rw [back_zero, h.sure])]
  rfl
theorem aw5 {D : PD} {c : Int} (h : AwR3 100 c D) : (D.restart 1 []).down = false ∧ ∃ p, Dir.find (D.restart 1 []).files (bs nF) = some p ∧ ((D.restart 1 []).fs p).b = [97, 98] := by
  obtain ⟨rfl, hq, p, h⟩ := h
  have hb : D.back 1 = [(bs nF, p)] := by rw [back_one h.pend, h.sure, does_new _ isE_nF]
  obtain ⟨h1, h2⟩ := restart_one hb []
  refine ⟨rfl, p, by rw [h1]; exact find_one _ _, ?_⟩
  rw [h2, h.fs]
  rfl

set_option maxRecDepth 100000 in
set_option maxHeartbeats 1000000 in
theorem awake4_at (w : World) : Calls Tryz.prog 26 #[] w fun e w' => e = .returned (.bool true) ∧ Below w.heap.size w w' := by
  have kc := fun (w : World) (C : Array Value) (n c : Nat) => Lib.run_convert_bytes_const (P := Tryz.prog) w 23 5 C n c Tryz.underlying23 Tryz.underlying5
  go_enter Tryz.func26, Tryz.ntmps26
  go_wp2_with fail
  go_loopw [1] (fun i wr => ∃ k : Nat, k ≤ 2 ∧ i = .int .i64 k ∧ Below w.heap.size w wr) (fun i _ => 2 - (intOf i).toNat)
  case atStart => exact ⟨0, by omega, rfl, Below.refl _ _⟩
  case round =>
    obtain ⟨k, hk, rfl, hbw⟩ := hrel
    by_cases hlt : k < 2
    · obtain rfl | rfl : k = 0 ∨ k = 1 := by omega
      · go_wp2_with fail
        refine (has_new 100 (by omega) (by omega) wr).mono ?_
        rintro e w1 ⟨rfl, h1, hb1⟩
        have H1 := Lib.hid h1
        have Hb1 := Lib.hid hb1
        clear h1 hb1
        go_wp2_with fail
        refine (told_write (H1.out.alloc _) (by omega) nF (by decide) (bin_new (xs := [97]) (heap_alloc_at rfl _)) (by decide) (fun _ q hq => Or.inr (Option.some.inj hq).symm) (R := AwR1 100) (fun p _ => aw1 p)).mono ?_
        rintro e w2 ⟨c, D2, rfl, hr2, h2, hk2⟩
        obtain rfl : c = 0 := hr2.1
        have H2 := Lib.hid h2
        have Hr2 := Lib.hid hr2
        have Hk2 := Lib.hid hk2
        clear h2 hr2 hk2
        go_wp2_with fail
        refine (told_append (H2.out.alloc _) (by omega) nF (by decide) (bin_new (xs := [98]) (heap_alloc_at rfl _)) (by decide) (fun _ q hq => Or.inr (Option.some.inj hq).symm) (R := AwR2 100) (fun p _ => aw2 Hr2.out p)).mono ?_
        rintro e w3 ⟨c, D3, rfl, hr3, h3, hk3⟩
        obtain rfl : c = 0 := hr3.1
        have H3 := Lib.hid h3
        have Hr3 := Lib.hid hr3
        have Hk3 := Lib.hid hk3
        clear h3 hr3 hk3
        go_wp2_with fail
        refine (told_sync H3.out (by omega) nF (by decide) (R := AwR3 100) (aw3 Hr3.out)).mono ?_
        rintro e w4 ⟨c, D4, rfl, hr4, h4, hk4⟩
        obtain rfl : c = 0 := hr4.1
        have H4 := Lib.hid h4
        have Hr4 := Lib.hid hr4
        have Hk4 := Lib.hid hk4
        clear h4 hr4 hk4
        go_wp2_with fail
        refine (done_restart H4.out (by omega) (tails := []) (by omega) (by omega) (Lst.nil _) (by decide) (fun t ht => (by cases ht)) (fun h => absurd rfl h)).mono ?_
        rintro e w5 ⟨rfl, h5, hk5⟩
        have H5 := Lib.hid h5
        have Hk5 := Lib.hid hk5
        clear h5 hk5
        go_wp2_with fail
        have hbz : Below w.heap.size w w5 := below_kept (below_kept ((below_kept ((below_kept ((hbw.trans (Hb1.out.mono hbw.size)).alloc (Nat.le_trans hbw.size Hb1.out.size) _) (Nat.le_refl _) Hk2.out (fun b hb => Or.inl (Nat.lt_of_lt_of_le hb hbw.size))).alloc (by have e1 := Hb1.out.size; have e2 := Hk2.out.size; have e3 := hbw.size; simp at e2; omega) _) (Nat.le_refl _) Hk3.out (fun b hb => Or.inl (Or.inl (Nat.lt_of_lt_of_le hb hbw.size))))) (Nat.le_refl _) Hk4.out (fun b hb => Or.inl (Or.inl (Nat.lt_of_lt_of_le hb hbw.size)))) (Nat.le_refl _) Hk5.out (fun b hb => Or.inl (Or.inl (Nat.lt_of_lt_of_le hb hbw.size)))
        refine (has_read H5.out nF (by decide)).mono ?_
        rintro e w6 hr
        obtain ⟨rfl, hb6⟩ := hr.no (aw4 Hr4.out).1 (aw4 Hr4.out).2
        go_wp2_with fail
        go_roundw
        case rel => exact ⟨1, by omega, by go_num, hbz.trans (hb6.mono hbz.size)⟩
        case measure => simp [intOf]
      · go_wp2_with fail
        refine (has_new 100 (by omega) (by omega) wr).mono ?_
        rintro e w1 ⟨rfl, h1, hb1⟩
        have H1 := Lib.hid h1
        have Hb1 := Lib.hid hb1
        clear h1 hb1
        go_wp2_with fail
        refine (told_write (H1.out.alloc _) (by omega) nF (by decide) (bin_new (xs := [97]) (heap_alloc_at rfl _)) (by decide) (fun _ q hq => Or.inr (Option.some.inj hq).symm) (R := AwR1 100) (fun p _ => aw1 p)).mono ?_
        rintro e w2 ⟨c, D2, rfl, hr2, h2, hk2⟩
        obtain rfl : c = 0 := hr2.1
        have H2 := Lib.hid h2
        have Hr2 := Lib.hid hr2
        have Hk2 := Lib.hid hk2
        clear h2 hr2 hk2
        go_wp2_with fail
        refine (told_append (H2.out.alloc _) (by omega) nF (by decide) (bin_new (xs := [98]) (heap_alloc_at rfl _)) (by decide) (fun _ q hq => Or.inr (Option.some.inj hq).symm) (R := AwR2 100) (fun p _ => aw2 Hr2.out p)).mono ?_
        rintro e w3 ⟨c, D3, rfl, hr3, h3, hk3⟩
        obtain rfl : c = 0 := hr3.1
        have H3 := Lib.hid h3
        have Hr3 := Lib.hid hr3
        have Hk3 := Lib.hid hk3
        clear h3 hr3 hk3
        go_wp2_with fail
        refine (told_sync H3.out (by omega) nF (by decide) (R := AwR3 100) (aw3 Hr3.out)).mono ?_
        rintro e w4 ⟨c, D4, rfl, hr4, h4, hk4⟩
        obtain rfl : c = 0 := hr4.1
        have H4 := Lib.hid h4
        have Hr4 := Lib.hid hr4
        have Hk4 := Lib.hid hk4
        clear h4 hr4 hk4
        go_wp2_with fail
        refine (done_restart H4.out (by omega) (tails := []) (by omega) (by omega) (Lst.nil _) (by decide) (fun t ht => (by cases ht)) (fun h => absurd rfl h)).mono ?_
        rintro e w5 ⟨rfl, h5, hk5⟩
        have H5 := Lib.hid h5
        have Hk5 := Lib.hid hk5
        clear h5 hk5
        go_wp2_with fail
        have hbz : Below w.heap.size w w5 := below_kept (below_kept ((below_kept ((below_kept ((hbw.trans (Hb1.out.mono hbw.size)).alloc (Nat.le_trans hbw.size Hb1.out.size) _) (Nat.le_refl _) Hk2.out (fun b hb => Or.inl (Nat.lt_of_lt_of_le hb hbw.size))).alloc (by have e1 := Hb1.out.size; have e2 := Hk2.out.size; have e3 := hbw.size; simp at e2; omega) _) (Nat.le_refl _) Hk3.out (fun b hb => Or.inl (Or.inl (Nat.lt_of_lt_of_le hb hbw.size))))) (Nat.le_refl _) Hk4.out (fun b hb => Or.inl (Or.inl (Nat.lt_of_lt_of_le hb hbw.size)))) (Nat.le_refl _) Hk5.out (fun b hb => Or.inl (Or.inl (Nat.lt_of_lt_of_le hb hbw.size)))
        refine (has_read H5.out nF (by decide)).mono ?_
        rintro e w6 hr
        obtain ⟨hdn, p, hfd, hfb⟩ := aw5 Hr4.out
        obtain ⟨a, c, rfl, hbo, _, hb6⟩ := hr.yes hdn hfd hfb
        have hcv := hbo.bin.str
        simp only [List.length_cons, List.length_nil, Nat.zero_add, Nat.reduceAdd] at hcv
        clear hdn hfd hfb hbo hr
        go_wp2_with fail
        go_roundw
        case rel => exact ⟨2, by omega, by go_num, hbz.trans (hb6.mono hbz.size)⟩
        case measure => simp [intOf]
    · go_wp2_with fail
      go_ret
      exact ⟨rfl, hbw⟩
theorem back_nil {D : PD} (h : D.pend = []) (dir : Int) : D.back dir = D.sure := by
  unfold PD.back
  rw [h]; simp
theorem fresh4_at (w : World) : Calls Tryz.prog 17 #[] w fun e w' => e = .returned (.tuple #[.pointer (some ⟨w.heap.size + 2, 0, none⟩), .bool true]) ∧ Has (fun b => b < w.heap.size) (w.heap.size + 2) w' (PD.new 16777216) 0 ∧ Below w.heap.size w w' := by
  go_enter Tryz.func17, Tryz.ntmps17
  go_wp2_with fail
  refine (has_new 16777216 (by omega) (by omega) w).mono ?_
  rintro e w1 ⟨rfl, h1, hb1⟩
  have H1 := Lib.hid h1
  have Hb1 := Lib.hid hb1
  clear h1 hb1
  go_wp2_with fail
  go_ret2
  exact ⟨rfl, H1.out, Hb1.out⟩
end Go.Proofs.YtbckbkcpfejllaaGreatDoor
