/- DiskSure: what was synced is there behind any restart: plainly, and the walk. -/
import Derived.Test.YtbckbkcpfejllaaGreatDoorLz0
namespace Go.Proofs.YtbckbkcpfejllaaGreatDoor
open Go.RowKit Go.Maps Go.WideMaps

abbrev nO : ByteArray := ⟨#[111, 119, 110, 47, 102, 105, 108, 101]⟩
theorem right_nO : rightP nO = true := by decide
theorem isE_nO : isE nO = false := by
  have : ¬ isE nO = true := fun h => by have := (isE_iff nO).1 h; simp [bs] at this
  simpa using this
theorem nO_ne : bs nO ≠ [] := by decide
/-- The setting up: a file, written, synced, its name synced. -/
def SuW (b : Bs) (s : Nat) (D : PD) : Prop := D.quota = 16777216 ∧ ∃ p sd pe d, OneI D nO p ⟨b, s, 1⟩ sd pe (-1) d 2
def SuD (b : Bs) (D : PD) : Prop := D.down = false ∧ ∃ p, SureI (bs nO) p ⟨b, b.length, 1⟩ D
theorem su_write (b : Bs) (hb : b.length ≤ 1000) (p : Nat) : ((PD.new 16777216).deed (rightP nO) fun D' => D'.fresh nO b p).1 = 0 ∧ SuW b 0 ((PD.new 16777216).deed (rightP nO) fun D' => D'.fresh nO b p).2 := by
  obtain ⟨D', e, h, hq⟩ := one_fresh (D := (PD.new 16777216).counted) (n := nO) (p := p) (b := b) (a := -1) (d := 1) (c := 1) rfl rfl rfl rfl rfl rfl rfl isE_nO (by omega) (by show _ ≤ (16777216 : Int); omega)
  rw [right_nO, deed_up rfl (by decide), e]
  exact ⟨rfl, hq, p, _, _, _, h⟩
theorem su_sync {b : Bs} {s : Nat} {D : PD} (h : SuW b s D) : (D.deed (rightP nO) fun D' => D'.sync nO).1 = 0 ∧ SuW b b.length (D.deed (rightP nO) fun D' => D'.sync nO).2 := by
  obtain ⟨hq, p, sd, pe, d, h⟩ := h
  rw [right_nO, deed_up h.down (by rw [h.armed]; decide)]
  obtain ⟨D', e, h', hq'⟩ := h.counted.sync
  rw [e]
  exact ⟨rfl, hq'.trans hq, p, _, _, _, h'⟩
theorem su_syncDir {b : Bs} {D : PD} (h : SuW b b.length D) : (D.deed true fun D' => D'.syncDir).1 = 0 ∧ SuD b (D.deed true fun D' => D'.syncDir).2 := by
  obtain ⟨hq, p, sd, pe, d, h⟩ := h
  rw [deed_up h.down (by rw [h.armed]; decide)]
  obtain ⟨D', e, h', hq'⟩ := h.counted.syncDir
  rw [e]
  refine ⟨rfl, h'.down, p, by rw [h'.files]; exact find_one _ _, by rw [h'.sure]; exact find_one _ _, fun x hx _ => ?_, fun x hx _ => ?_, fun c hc => ?_, h'.fs, rfl⟩
  · rw [h'.files] at hx; rw [List.mem_singleton.1 hx]
  · rw [h'.sure] at hx; rw [List.mem_singleton.1 hx]
  · rw [h'.pend] at hc; cases hc
theorem SureI.turns {o : Bs} (ho : o ≠ []) {p : Nat} {f : PF} {k : Nat} {D D' : PD} (h : SureI o p f D) (t : Turns (fun n => n ≠ o) k D D') : SureI o p f D' := t.keep (fun _ _ h t => h.turn ho t) h
theorem tmod9 (x : Int) : ∃ c : Nat, c ≤ 8 ∧ (wrap64 (x.tmod 9 + 9)).tmod 9 = c := by
  have h1 : -9 < x.tmod 9 ∧ x.tmod 9 < 9 := by
    rcases Int.le_total 0 x with h | h
    · rw [Int.tmod_eq_emod_of_nonneg h]; omega
    · obtain ⟨y, rfl⟩ : ∃ y : Int, x = -y := ⟨-x, by omega⟩
      rw [Int.neg_tmod, Int.tmod_eq_emod_of_nonneg (by omega)]; omega
  rw [IntWalk.wrap64_in _ (by omega), Int.tmod_eq_emod_of_nonneg (by omega)]
  exact ⟨((x.tmod 9 + 9) % 9).toNat, by omega, by omega⟩
theorem Lst.lt {w : World} {v : Value} {vs : List Value} (h : Lst w v vs) (hne : vs ≠ []) : ∀ q, v.ownBlock = some q → q < w.heap.size := by
  obtain ⟨a, cap, rfl, _, _, h4⟩ := h
  obtain ⟨b, off, rfl, hc⟩ := h4 0 (List.length_pos_iff.2 hne)
  intro q hq
  have : b = q := Option.some.inj hq
  subst this
  exact World.block_lt_of_cell? w _ hc
theorem own_true {s : ByteArray} (h : bs s = bs nO) : (s.toList == [111, 119, 110, 47, 102, 105, 108, 101]) = true := by
  rw [Go.ByteArray.toList_eq]; exact beq_iff_eq.2 h
theorem own_false {s : ByteArray} (h : bs s ≠ bs nO) : (s.toList == [111, 119, 110, 47, 102, 105, 108, 101]) = false := by
  rw [Go.ByteArray.toList_eq]; exact beq_eq_false_iff_ne.2 h

set_option maxRecDepth 100000 in
set_option maxHeartbeats 1000000 in
theorem sure_at (w : World) {v : Value} {l : List PAct} (hl : Acts w v l) {bv : Value} {b : Bs} (hb : Bin w bv b) {dir : Int} (hd : isI64 dir) {tv : Value} {tails : List Int} (ht : Lst w tv (tails.map intV)) (hti : ∀ t ∈ tails, isI64 t) :
    Calls Tryz.prog 3 #[v, bv, .agg #[.int .i64 dir, tv]] w fun e w' => e = .returned (.bool true) ∧ Below w.heap.size w w' := by
  obtain ⟨w0, hw0⟩ : ∃ w0 : World, w.alloc (.cells #[.int .i64 dir, tv] 26) = w0 := ⟨_, rfl⟩
  have hb0 : Below w.heap.size w w0 := by rw [← hw0]; exact (Below.refl _ w).alloc (Nat.le_refl _) _
  have hx0 : w0.heap[w.heap.size]? = some (.cells #[.int .i64 dir, tv] 26 (0, 0)) := by rw [← hw0]; exact heap_alloc_new w _
  have hlit := light_at w0 (hl.below hb0 (Nat.le_refl _))
  obtain ⟨ba, bc, rfl⟩ : ∃ a c, bv = .slice a b.length c := by obtain ⟨a, c, e, _⟩ := hb; exact ⟨a, c, e⟩
  obtain ⟨ta, tc, rfl⟩ : ∃ a c, tv = .slice a tails.length c := by obtain ⟨a, c, e, _⟩ := ht; rw [List.length_map] at e; exact ⟨a, c, e⟩
  have hlx := hl
  obtain ⟨a, cap, rfl, hcap, hj⟩ := hl
  have Hlit := Lib.hid hlit
  have Hl := Lib.hid hlx
  have Hb := Lib.hid hb
  have Ht := Lib.hid ht
  have Hti := Lib.hid hti
  have Hj := Lib.hid hj
  have Hb0 := Lib.hid hb0
  have Hx0 := Lib.hid hx0
  have z0 : w0.cell? ⟨w.heap.size, 1, none⟩ = some (.slice ta tails.length tc) := by rw [cell_at hx0]; rfl
  obtain ⟨n, hn⟩ : ∃ n, l.length = n := ⟨_, rfl⟩
  have Hn := Lib.hid hn
  have hsz0 := lt_of_heap hx0
  clear hlit hlx hb ht hti hj hb0 hx0
  rw [hn] at hcap Hlit ⊢
  clear hn
  by_cases hb1 : 1000 < b.length
  · have g1 : decide ((1000 : Int) < (b.length : Int)) = true := by simp; omega
    go_enter Tryz.func3, Tryz.ntmps3
    go_wp2_with fail
    refine Hlit.out.mono ?_
    rintro e w1 ⟨he, rfl⟩
    rcases he with rfl | ⟨rfl, _⟩
    · go_wp2_with fail
      go_ret
      exact ⟨rfl, Hb0.out⟩
    · go_wp2_with fail
      go_ret
      exact ⟨rfl, Hb0.out⟩
  have g1 : decide ((1000 : Int) < (b.length : Int)) = false := by simp; omega
  by_cases hb2 : 20 < tails.length
  · have g2 : decide ((20 : Int) < (tails.length : Int)) = true := by simp; omega
    go_enter Tryz.func3, Tryz.ntmps3
    go_wp2_with fail
    refine Hlit.out.mono ?_
    rintro e w1 ⟨he, rfl⟩
    rcases he with rfl | ⟨rfl, _⟩
    · go_wp2_with fail
      go_ret
      exact ⟨rfl, Hb0.out⟩
    · go_wp2_with fail
      go_ret
      exact ⟨rfl, Hb0.out⟩
  have g2 : decide ((20 : Int) < (tails.length : Int)) = false := by simp; omega
  go_enter Tryz.func3, Tryz.ntmps3
  go_wp2_with fail
  clear hw0
  refine Hlit.out.mono ?_
  rintro e w1 ⟨he, rfl⟩
  rcases he with rfl | ⟨rfl, h80, hsm⟩
  · go_wp2_with fail
    go_ret
    exact ⟨rfl, Hb0.out⟩
  have Hsm := Lib.hid hsm
  clear hsm
  go_wp2_with fail
  refine (fresh4_at w0).mono ?_
  rintro e w1 ⟨rfl, h1, hb1⟩
  have H1 := Lib.hid h1
  have Hb1 := Lib.hid (Hb0.out.trans (hb1.mono Hb0.out.size))
  have Hc1 := Lib.hid hb1
  clear h1 hb1
  go_wp2_with fail
  have hba : b ≠ [] → ∀ q, (Value.slice ba b.length bc).ownBlock = some q → q < w0.heap.size := fun hne q hq => Nat.lt_of_lt_of_le (Hb.out.lt hne q hq) Hb0.out.size
  refine (told_write H1.out (by omega) nO (by decide) (Hb.out.keep fun q _ hq => Hb1.out.block q hq) (by omega) hba (R := fun c D' => c = 0 ∧ SuW b 0 D') (fun p _ => su_write b (by omega) p)).mono ?_
  rintro e w2 ⟨c, D2, rfl, ⟨rfl, hr2⟩, h2, hk2⟩
  have hb2 : Below w0.heap.size w0 w2 := below_kept Hc1.out (Nat.le_refl _) hk2 (fun q hq => hq)
  have H2 := Lib.hid h2
  have Hr2 := Lib.hid hr2
  have Hb2 := Lib.hid hb2
  clear h2 hr2 hb2 hk2
  go_wp2_with fail
  refine (told_sync H2.out (by omega) nO (by decide) (R := fun c D' => c = 0 ∧ SuW b b.length D') (su_sync Hr2.out)).mono ?_
  rintro e w3 ⟨c, D3, rfl, ⟨rfl, hr3⟩, h3, hk3⟩
  have hb3 : Below w0.heap.size w0 w3 := below_kept Hb2.out (Nat.le_refl _) hk3 (fun q hq => hq)
  have H3 := Lib.hid h3
  have Hr3 := Lib.hid hr3
  have Hb3 := Lib.hid hb3
  clear h3 hr3 hb3 hk3
  go_wp2_with fail
  refine (told_syncDir H3.out (by omega) (R := fun c D' => c = 0 ∧ SuD b D') (su_syncDir Hr3.out)).mono ?_
  rintro e w4 ⟨c, D4, rfl, ⟨rfl, hd4, p, hr4⟩, h4, hk4⟩
  have hb4 : Below w0.heap.size w0 w4 := below_kept Hb3.out (Nat.le_refl _) hk4 (fun q hq => hq)
  have H4 := Lib.hid h4
  have Hr4 := Lib.hid hr4
  have Hd4 := Lib.hid hd4
  have Hb4 := Lib.hid hb4
  clear h4 hr4 hb4 hk4 hd4
  go_wp2_with fail
  refine (has_stat H4.out nO (by decide)).mono ?_
  rintro e w5 hs5
  obtain ⟨rfl, hb5⟩ := hs5.yes Hd4.out Hr4.out.ff Hr4.out.fs
  dsimp only
  have h5 := (H4.out.below hb5).less (G := fun q => q < w0.heap.size) (fun q hq => Or.inl hq)
  have hb5w : Below w0.heap.size w0 w5 := Hb4.out.trans (hb5.mono Hb4.out.size)
  have H5 := Lib.hid h5
  have Hb5 := Lib.hid hb5w
  clear hs5 hb5 h5 hb5w
  go_wp2_with fail
  have h6 := H5.out.alloc (.cells #[.int .i64 b.length, .int .i64 1] 36)
  have hb6 : Below w0.heap.size w0 (w5.alloc (.cells #[.int .i64 b.length, .int .i64 1] 36)) := Hb5.out.alloc Hb5.out.size _
  have hx6 : (w5.alloc (.cells #[.int .i64 b.length, .int .i64 1] 36)).heap[w5.heap.size]? = some (.cells #[.int .i64 b.length, .int .i64 1] 36 (0, 0)) := heap_alloc_new w5 _
  have hsz5 := Hb5.out.size
  have H6 := Lib.hid h6
  have Hb6 := Lib.hid hb6
  have Hx6 := Lib.hid hx6
  clear h6 hb6 hx6
  go_loopw [11] (fun i wr => ∃ (j : Nat) (D : PD), j ≤ n ∧ i = .int .i64 j ∧ SureI (bs nO) p ⟨b, b.length, 1⟩ D ∧ Has (fun q => q < w0.heap.size ∨ q = w5.heap.size) (w0.heap.size + 2) wr D (10 + 2 * j) ∧ Below w0.heap.size w0 wr ∧ wr.heap[w5.heap.size]? = some (.cells #[.int .i64 b.length, .int .i64 1] 36 (0, 0))) (fun i _ => n - (intOf i).toNat)
  case atStart => exact ⟨0, _, Nat.zero_le _, rfl, Hr4.out, H6.out.more (by omega), Hb6.out, Hx6.out⟩
  case round =>
    clear H1 Hb1 Hc1 H2 Hr2 Hb2 H3 Hr3 Hb3 H4 Hr4 Hd4 Hb4 H5 Hb5 H6 Hb6 Hx6
    obtain ⟨j, D, hjn, rfl, hI, hH, hbw, hxw⟩ := hrel
    have HI := Lib.hid hI
    have HH := Lib.hid hH
    have Hbw := Lib.hid hbw
    have Hxw := Lib.hid hxw
    clear hI hH hbw hxw
    by_cases hlt : j < n
    · have hjl : j < l.length := by rw [Hn.out]; exact hlt
      obtain ⟨ab, ao, xbv, xtv, rfl, hx⟩ := Hj.out j hjl
      have hxs := Hsm.out _ (List.getElem_mem hjl)
      obtain ⟨x, hxe⟩ : ∃ x, l[j] = x := ⟨_, rfl⟩
      rw [hxe] at hx hxs
      clear hxe
      obtain ⟨xs1, xs2, xs3, xs4⟩ := hxs
      have hxb : x.b ≠ [] → ∀ q, xbv.ownBlock = some q → q < w0.heap.size := fun hne q hq => Nat.lt_of_lt_of_le (hx.bin.lt hne q hq) Hb0.out.size
      have hxt : x.tails ≠ [] → ∀ q, xtv.ownBlock = some q → q < w0.heap.size := fun hne q hq => Nat.lt_of_lt_of_le (hx.lst.lt (fun e => hne (List.map_eq_nil_iff.1 e)) q hq) Hb0.out.size
      have hx := hx.below (Hb0.out.trans (Hbw.out.mono Hb0.out.size)) (Nat.le_refl _)
      obtain ⟨c0, c1, c2, c3, c4, c5, xbin, xlst, xok⟩ := hx
      obtain ⟨xba, xbc, rfl⟩ : ∃ a c, xbv = .slice a x.b.length c := by obtain ⟨a, c, e, _⟩ := xbin; exact ⟨a, c, e⟩
      obtain ⟨xta, xtc, rfl⟩ : ∃ a c, xtv = .slice a x.tails.length c := by obtain ⟨a, c, e, _⟩ := xlst; rw [List.length_map] at e; exact ⟨a, c, e⟩
      have Xbin := Lib.hid xbin
      have Xlst := Lib.hid xlst
      have Xok := Lib.hid xok
      clear xbin xlst xok
      have Hxb := Lib.hid hxb
      have Hxt := Lib.hid hxt
      clear hxb hxt
      obtain ⟨ch, hch8, hch⟩ := tmod9 x.what
      by_cases g3 : bs x.name = bs nO
      · have g4 := own_true g3
        clear g3
        go_wp2_with fail
        go_roundw
        case rel => exact ⟨j + 1, D, by omega, by go_num, HI.out, HH.out.more (by omega), Hbw.out, Hxw.out⟩
        case measure => simp [intOf]; omega
      have g4 := own_false g3
      by_cases g5 : bs x.to = bs nO
      · have g6 := own_true g5
        clear g5
        go_wp2_with fail
        go_roundw
        case rel => exact ⟨j + 1, D, by omega, by go_num, HI.out, HH.out.more (by omega), Hbw.out, Hxw.out⟩
        case measure => simp [intOf]; omega
      have g6 := own_false g5
      obtain rfl | rfl | h6 : ch = 7 ∨ ch = 8 ∨ ch ≤ 6 := by omega
      · go_wp2_with fail
        refine (done_arm HH.out (by omega) x.n (by have := Xok.out.n.2; omega)).mono ?_
        rintro e w6 ⟨rfl, h6, hk6⟩
        have hb6 : Below w0.heap.size w0 w6 := below_kept Hbw.out (Nat.le_refl _) hk6 (fun q hq => Or.inl hq)
        have hx6 := hk6.heap Hxw.out (fun hn => hn (Or.inr rfl))
        have HA := Lib.hid (And.intro h6 (And.intro hb6 hx6))
        clear h6 hb6 hx6 hk6
        go_wp2_with fail
        go_roundw
        case rel => exact ⟨j + 1, _, by omega, by go_num, HI.out.turn nO_ne (.arm D _ (by omega) (by have := Xok.out.n.2; omega)), HA.out.1.more (by omega), HA.out.2.1, HA.out.2.2⟩
        case measure => simp [intOf]; omega
      · go_wp2_with fail
        refine wp_region_reg (by kernel_rfl) (by kernel_rfl) ?_
        refine reg_quiet 0 rfl (by kernel_rfl) (fun K hK => ?_)
        go_simp
        refine hK _ ?_; clear hK K
        refine reg_quiet 1 rfl (by kernel_rfl) (fun K hK => ?_)
        go_simp
        refine hK _ ?_; clear hK K
        refine reg_quiet 2 rfl (by kernel_rfl) (fun K hK => ?_)
        go_simp
        refine hK _ ?_; clear hK K
        refine reg_quiet 3 rfl (by kernel_rfl) (fun K hK => ?_)
        go_simp
        refine hK _ ?_; clear hK K
        refine reg_quiet 4 rfl (by kernel_rfl) (fun K hK => ?_)
        go_simp
        refine hK _ ?_; clear hK K
        refine reg_quiet 5 rfl (by kernel_rfl) (fun K hK => ?_)
        go_simp
        refine hK _ ?_; clear hK K
        refine reg_quiet 6 rfl (by kernel_rfl) (fun K hK => ?_)
        go_simp
        refine hK _ ?_; clear hK K
        refine reg_quiet 7 rfl (by kernel_rfl) (fun K hK => ?_)
        go_simp
        refine hK _ ?_; clear hK K
        refine reg_quiet 8 rfl (by kernel_rfl) (fun K hK => ?_)
        go_simp
        refine hK _ ?_; clear hK K
        refine reg_quiet 9 rfl (by kernel_rfl) (fun K hK => ?_)
        go_simp
        refine hK _ ?_; clear hK K
        refine reg_quiet 10 rfl (by kernel_rfl) (fun K hK => ?_)
        go_simp
        refine hK _ ?_; clear hK K
        refine reg_quiet 11 rfl (by kernel_rfl) (fun K hK => ?_)
        go_simp
        refine hK _ ?_; clear hK K
        refine reg_turn 12 [] rfl (by kernel_rfl) (by kernel_rfl) (fun K hK => ?_)
        go_simp
        refine (done_restart HH.out.drew (by omega) (tails := x.tails) Xok.out.n.1 Xok.out.n.2 (Xlst.out.keep (w' := wr.drew) fun _ _ _ => rfl) (by omega) Xok.out.tails (fun hne q hq => Or.inl (Hxt.out hne q hq))).mono ?_
        rintro e w6 ⟨rfl, h6, hk6⟩
        have hb6 : Below w0.heap.size w0 w6 := below_kept Hbw.out.drew (Nat.le_refl _) hk6 (fun q hq => Or.inl hq)
        have hx6 := hk6.heap (b := w5.heap.size) Hxw.out (fun hn => hn (Or.inr rfl))
        have HA := Lib.hid (And.intro h6 (And.intro hb6 hx6))
        clear h6 hb6 hx6 hk6
        refine hK _ _ (StayOk.nil) ?_; clear hK K
        refine reg_done (by kernel_rfl) ?_
        go_wp2_with fail
        go_roundw
        case rel => exact ⟨j + 1, _, by omega, by go_num, HI.out.turn nO_ne (.restart D _ _), HA.out.1.more (by omega), HA.out.2.1, HA.out.2.2⟩
        case measure => simp [intOf]; omega
      · have g7 : ((ch : Int) == 7) = false := by simp; omega
        have g8 : ((ch : Int) == 8) = false := by simp; omega
        go_wp2_with fail
        refine (lawdeed_at (N := fun n => n ≠ bs nO) HH.out (by omega) ch h6 Xok.out.n g3 g5 xs1 xs2 Xbin.out xs3 (fun q _ hne hq => Or.inl (Hxb.out hne q hq)) x.what).mono ?_
        rintro e w6 ⟨r, D6, rfl, hr6, h6', hk6⟩
        have hb6 : Below w0.heap.size w0 w6 := below_kept Hbw.out (Nat.le_refl _) hk6 (fun q hq => Or.inl hq)
        have hx6 := hk6.heap Hxw.out (fun hn => hn (Or.inr rfl))
        have HA := Lib.hid (And.intro h6' (And.intro hb6 (And.intro hx6 hr6)))
        clear h6' hb6 hx6 hk6 hr6
        go_wp2_with fail
        go_roundw
        case rel => exact ⟨j + 1, D6, by omega, by go_num, HI.out.turns nO_ne HA.out.2.2.2, HA.out.1.more (by omega), HA.out.2.1, HA.out.2.2.1⟩
        case measure => simp [intOf]; omega
    · have hxk := (Hbw.out.block w.heap.size hsz0).trans Hx0.out
      have y0 : wr.cell? ⟨w.heap.size, 0, none⟩ = some (.int .i64 dir) := by rw [cell_at hxk]; rfl
      have y1 : wr.cell? ⟨w.heap.size, 1, none⟩ = some (.slice ta tails.length tc) := by rw [cell_at hxk]; rfl
      clear hxk z0
      have htw : Lst wr (.slice ta tails.length tc) (tails.map intV) := Ht.out.keep fun q _ hq => (Hbw.out.block q (by omega)).trans (Hb0.out.block q hq)
      have hto : tails ≠ [] → ∀ q, (Value.slice ta tails.length tc).ownBlock = some q → q < w0.heap.size := fun hne q hq => Nat.lt_of_lt_of_le (Ht.out.lt (fun e => hne (List.map_eq_nil_iff.1 e)) q hq) Hb0.out.size
      have hfin := restart_sure ((find_back (fun c hc => (HI.out.up c hc).2) dir).trans HI.out.fsu) HI.out.fs HI.out.all tails
      have hdn1 := (restart_flags D dir tails).1
      have Htw := Lib.hid htw
      have Hto := Lib.hid hto
      have Hfin := Lib.hid (And.intro hdn1 hfin)
      clear htw hto hfin hdn1
      go_wp2_with fail
      refine (done_restart HH.out (by omega) (tails := tails) hd.1 hd.2 Htw.out (by omega) Hti.out (fun hne q hq => Or.inl (Hto.out hne q hq))).mono ?_
      rintro e w6 ⟨rfl, h6, hk6⟩
      have hb6 : Below w0.heap.size w0 w6 := below_kept Hbw.out (Nat.le_refl _) hk6 (fun q hq => Or.inl hq)
      have hx6 := hk6.heap Hxw.out (fun hn => hn (Or.inr rfl))
      have H6 := Lib.hid h6
      have Hb6 := Lib.hid hb6
      have Hx6 := Lib.hid hx6
      clear h6 hb6 hx6 hk6 y0 y1
      go_wp2_with fail
      refine (has_read H6.out nO (by decide)).mono ?_
      rintro e w7 hr7
      obtain ⟨rb, rc, rfl, hbo, _, hb7⟩ := hr7.yes Hfin.out.1 Hfin.out.2.1 (b := b) (by rw [Hfin.out.2.2])
      have hb7w : Below w0.heap.size w0 w7 := Hb6.out.trans (hb7.mono Hb6.out.size)
      have h7 := (H6.out.below hb7).less (G := fun q => q < w0.heap.size ∨ q = w5.heap.size) (fun q hq => Or.inl hq)
      have hx7 := (hb7.block _ (lt_of_heap Hx6.out)).trans Hx6.out
      have hbo7 : Bin w7 (.slice rb b.length rc) b := hbo.bin
      have H7 := Lib.hid h7
      have Hb7 := Lib.hid hb7w
      have Hx7 := Lib.hid hx7
      have Hbo7 := Lib.hid hbo7
      clear hr7 hbo hb7 hb7w h7 hx7 hbo7
      go_wp2_with fail
      refine (has_stat H7.out nO (by decide)).mono ?_
      rintro e w8 hs8
      obtain ⟨rfl, hb8⟩ := hs8.yes Hfin.out.1 Hfin.out.2.1 Hfin.out.2.2
      dsimp only
      have hb8w : Below w0.heap.size w0 w8 := Hb7.out.trans (hb8.mono Hb7.out.size)
      have hx8 := (hb8.block _ (lt_of_heap Hx7.out)).trans Hx7.out
      have hbo8 : Bin w8 (.slice rb b.length rc) b := Hbo7.out.keep fun q _ hq => hb8.block q hq
      obtain ⟨w9, hw9⟩ : ∃ w9 : World, w8.alloc (.cells #[.int .i64 b.length, .int .i64 1] 36) = w9 := ⟨_, rfl⟩
      have hb9 : Below w8.heap.size w8 w9 := by rw [← hw9]; exact (Below.refl _ w8).alloc (Nat.le_refl _) _
      have hx9 : w9.heap[w8.heap.size]? = some (.cells #[.int .i64 b.length, .int .i64 1] 36 (0, 0)) := by rw [← hw9]; exact heap_alloc_new w8 _
      have hx9b := (hb9.block _ (lt_of_heap hx8)).trans hx8
      have q0 : w9.cell? ⟨w8.heap.size, 0, none⟩ = some (.int .i64 b.length) := by rw [cell_at hx9]; rfl
      have q1 : w9.cell? ⟨w8.heap.size, 1, none⟩ = some (.int .i64 1) := by rw [cell_at hx9]; rfl
      have q2 : w9.cell? ⟨w5.heap.size, 0, none⟩ = some (.int .i64 b.length) := by rw [cell_at hx9b]; rfl
      have q3 : w9.cell? ⟨w5.heap.size, 1, none⟩ = some (.int .i64 1) := by rw [cell_at hx9b]; rfl
      have hb9w : Below w.heap.size w w9 := Hb0.out.trans (((hb8w.trans (hb9.mono hb8w.size))).mono Hb0.out.size)
      have hcv1 := (hbo8.keep (w' := w9) fun q _ hq => hb9.block q hq).str
      have hcv2 := (Hb.out.keep (w' := w9) fun q _ hq => hb9w.block q hq).str
      have Hb9 := Lib.hid hb9w
      clear hs8 hb8 hb8w hx8 hbo8 hb9 hx9 hx9b hb9w
      go_wp2_with fail
      refine (awake4_at w9).mono ?_
      rintro e w10 ⟨rfl, hb10⟩
      go_wp2_with fail
      go_ret
      exact ⟨rfl, Hb9.out.trans (hb10.mono Hb9.out.size)⟩
end Go.Proofs.YtbckbkcpfejllaaGreatDoor
