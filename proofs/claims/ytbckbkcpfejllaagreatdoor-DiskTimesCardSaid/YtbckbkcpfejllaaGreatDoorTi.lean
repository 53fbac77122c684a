/- DiskTimes: no two contents ever had one time: the walk. -/
import Derived.Test.YtbckbkcpfejllaaGreatDoorNs
namespace Go.Proofs.YtbckbkcpfejllaaGreatDoor
open Go.RowKit Go.Maps Go.WideMaps

theorem tmod9b (x : Int) : ∃ c : Nat, c ≤ 8 ∧ (wrap64 (x.tmod 9 + 9)).tmod 9 = c := by
  have h1 : -9 < x.tmod 9 ∧ x.tmod 9 < 9 := by
    rcases Int.le_total 0 x with h | h
    · rw [Int.tmod_eq_emod_of_nonneg h]; omega
    · obtain ⟨y, rfl⟩ : ∃ y : Int, x = -y := ⟨-x, by omega⟩
      rw [Int.neg_tmod, Int.tmod_eq_emod_of_nonneg (by omega)]; omega
  rw [IntWalk.wrap64_in _ (by omega), Int.tmod_eq_emod_of_nonneg (by omega)]
  exact ⟨((x.tmod 9 + 9) % 9).toNat, by omega, by omega⟩
/-- What a round keeps. -/
structure TimesR (N c h d k : Nat) (w0 w : World) (H : Int → Bs) (D : PD) : Prop where
  ti : TimesI H D
  na : NamesI (fun n => n.length ≤ 120) D
  tab : Tab w c h H D.clock
  has : Has (fun q => q < N ∨ q = c ∨ q = h) d w D k
  bel : Below N w0 w
theorem TimesR.step {N c h d k : Nat} {w0 w w' : World} {H : Int → Bs} {D D' : PD} (r : TimesR N c h d k w0 w H D) (t : Turns (fun n => n.length ≤ 120) 2 D D') (hh : Has (fun q => q < N ∨ q = c ∨ q = h) d w' D' (k + 2)) (hk : Keeps (fun b => ¬ (b < N ∨ b = c ∨ b = h)) w w') (hN : N ≤ w0.heap.size) :
    ∃ H', TimesR N c h d (k + 2) w0 w' H' D' := by
  obtain ⟨H', h1, h2, h3⟩ := times_turns t r.ti
  exact ⟨H', h1, r.na.turns t, (r.tab.keep (hk.block c r.tab.lt.1 (fun hn => hn (Or.inr (Or.inl rfl)))) (hk.block h r.tab.lt.2 (fun hn => hn (Or.inr (Or.inr rfl))))).mono h2 h3, hh, below_kept r.bel hN hk (fun b hb => Or.inl hb)⟩

theorem Keeps.of_drew {S : Nat → Prop} {w w' : World} (h : Keeps S w.drew w') : Keeps S w w' := ((Keeps.refl S w).drew).trans h (fun _ _ h => h)
set_option maxRecDepth 100000 in
set_option maxHeartbeats 4000000 in
theorem times_at (w : World) {v : Value} {l : List PAct} (hl : Acts w v l) :
    Calls Tryz.prog 4 #[v] w fun e w' => e = .returned (.bool true) ∧ Below w.heap.size w w' := by
  have hlit := light_at w hl
  have hlx := hl
  obtain ⟨a, cap, rfl, hcap, hj⟩ := hl
  have Hlit := Lib.hid hlit
  have Hj := Lib.hid hj
  obtain ⟨n, hn⟩ : ∃ n, l.length = n := ⟨_, rfl⟩
  have Hn := Lib.hid hn
  clear hlit hlx hj
  rw [hn] at hcap Hlit ⊢
  clear hn
  obtain ⟨CS, cs1, cs2, hmk1⟩ := mk_row (t := 48) (e := 9) Tryz.underlying48 info_str (by omega) rfl
  obtain ⟨CB, cb1, cb2, hmk2⟩ := mk_row (t := 49) (e := 4) Tryz.underlying49 info_bool (by omega) rfl
  have HC := Lib.hid (And.intro cs1 (And.intro cs2 (And.intro cb1 cb2)))
  clear cs1 cs2 cb1 cb2
  go_enter Tryz.func4, Tryz.ntmps4
  go_wp2_with fail
  refine Hlit.out.mono ?_
  rintro e w1 ⟨he, rfl⟩
  rcases he with rfl | ⟨rfl, h80, hsm⟩
  · go_wp2_with fail
    go_ret
    exact ⟨rfl, Below.refl _ _⟩
  have Hsm := Lib.hid hsm
  clear hsm
  go_wp2_with fail
  refine (fresh4_at w).mono ?_
  rintro e w1 ⟨rfl, h1, hb1⟩
  have H1 := Lib.hid h1
  have Hb1 := Lib.hid hb1
  have hz1 : w.heap.size + 2 < w1.heap.size := by
    obtain ⟨L, h⟩ := h1
    have := lt_of_heap h.at_.hd
    rw [h.dd] at this
    exact this
  have Hz1 := Lib.hid hz1
  clear h1 hb1 hz1
  go_wp2_with fail
  obtain ⟨w2, hw2⟩ : ∃ w2 : World, (w1.alloc (.cells CS 9)).alloc (.cells CB 4) = w2 := ⟨_, rfl⟩
  have hR : TimesR w.heap.size w1.heap.size (w1.heap.size + 1) (w.heap.size + 2) 0 w w2 (fun _ => []) (PD.new 16777216) := by
    refine ⟨TimesI.new _, NamesI.new _ _, ?_, ?_, ?_⟩
    · rw [← hw2]
      exact Tab.new (heap_alloc_of (heap_alloc_new w1 _) _) (heap_alloc_at (by simp) _) HC.out.1 HC.out.2.2.1 HC.out.2.1 HC.out.2.2.2 _ _
    · rw [← hw2]
      exact ((H1.out.alloc _).alloc _).less (fun q hq => by
        rcases hq with hq | hq | hq
        · exact Or.inl (Or.inl hq)
        · exact Or.inl (Or.inr hq)
        · exact Or.inr (by rw [hq]; simp))
    · rw [← hw2]
      exact (Hb1.out.alloc Hb1.out.size _).alloc (by have := Hb1.out.size; simp; omega) _
  have HR := Lib.hid hR
  have Hsz := Hz1
  clear hR hmk1 hmk2
  rw [hw2]
  clear hw2
  go_loopw [7] (fun i wr => ∃ (j : Nat) (D : PD) (H : Int → Bs), j ≤ n ∧ i = .int .i64 j ∧ TimesR w.heap.size w1.heap.size (w1.heap.size + 1) (w.heap.size + 2) (2 * j) w wr H D) (fun i _ => n - (intOf i).toNat)
  case atStart => exact ⟨0, _, _, Nat.zero_le _, rfl, HR.out⟩
  case round =>
    clear HR H1 Hb1 HC
    obtain ⟨j, D, H, hjn, rfl, hr⟩ := hrel
    have R := Lib.hid hr
    clear hr
    by_cases hlt : j < n
    · have hjl : j < l.length := by rw [Hn.out]; exact hlt
      obtain ⟨ab, ao, xbv, xtv, rfl, hx⟩ := Hj.out j hjl
      have hxs := Hsm.out _ (List.getElem_mem hjl)
      obtain ⟨x, hxe⟩ : ∃ x, l[j] = x := ⟨_, rfl⟩
      rw [hxe] at hx hxs
      clear hxe
      obtain ⟨xs1, xs2, xs3, xs4⟩ := hxs
      have hxb : x.b ≠ [] → ∀ q, xbv.ownBlock = some q → q < w.heap.size := fun hne q hq => hx.bin.lt hne q hq
      have hxt : x.tails ≠ [] → ∀ q, xtv.ownBlock = some q → q < w.heap.size := fun hne q hq => hx.lst.lt (fun e => hne (List.map_eq_nil_iff.1 e)) q hq
      have hx := hx.below R.out.bel (Nat.le_refl _)
      obtain ⟨c0, c1, c2, c3, c4, c5, xbin, xlst, xok⟩ := hx
      obtain ⟨xba, xbc, rfl⟩ : ∃ a c, xbv = .slice a x.b.length c := by obtain ⟨a, c, e, _⟩ := xbin; exact ⟨a, c, e⟩
      obtain ⟨xta, xtc, rfl⟩ : ∃ a c, xtv = .slice a x.tails.length c := by obtain ⟨a, c, e, _⟩ := xlst; rw [List.length_map] at e; exact ⟨a, c, e⟩
      have Xbin := Lib.hid xbin
      have Xlst := Lib.hid xlst
      have Xok := Lib.hid xok
      have Hxb := Lib.hid hxb
      have Hxt := Lib.hid hxt
      clear xbin xlst xok hxb hxt
      have hnn : (bs x.name).length ≤ 120 := xs1
      have hnt : (bs x.to).length ≤ 120 := xs2
      obtain ⟨ch, hch8, hch⟩ := tmod9b x.what
      obtain rfl | rfl | h6 : ch = 7 ∨ ch = 8 ∨ ch ≤ 6 := by omega
      · go_wp2_with fail
        refine (done_arm R.out.has (by omega) x.n (by have := Xok.out.n.2; omega)).mono ?_
        rintro e w6 ⟨rfl, h6, hk6⟩
        obtain ⟨H6, hr6⟩ := R.out.step (.one (.arm D (max x.n (-1)) (by omega) (by have := Xok.out.n.2; omega))) h6 hk6 (Nat.le_refl _)
        generalize hD6 : { D with armed := max x.n (-1) } = D6 at hr6
        have R6 := Lib.hid hr6
        clear hr6 h6 hk6 hD6 c0 c1 c2 c3 c4 c5
        go_wp2_with fail
        refine (has_names R6.out.has (by omega)).mono ?_
        rintro e w7 ⟨nv, rfl, hnl, hb7, hnb⟩
        obtain ⟨na, ncap, rfl⟩ : ∃ a cp, nv = .slice a D6.shown.length cp := by
          obtain ⟨a, cp, rfl, _⟩ := hnl
          exact ⟨a, cp, by rw [List.length_map]⟩
        obtain ⟨M, hM⟩ : ∃ M, D6.shown.length = M := ⟨_, rfl⟩
        have hMb : M ≤ 1000 := by
          have h1 := R6.out.has.bud.nf
          have h2 : D6.shown.length ≤ D6.files.length := by unfold PD.shown; split <;> simp
          omega
        rw [hM] at hnl hnb ⊢
        have htab7 : Tab w7 w1.heap.size (w1.heap.size + 1) H6 D6.clock := R6.out.tab.keep (hb7.block _ R6.out.tab.lt.1) (hb7.block _ R6.out.tab.lt.2)
        have hhas7 := (R6.out.has.below hb7).less (G := fun q => q < w.heap.size ∨ q = w1.heap.size ∨ q = w1.heap.size + 1) (fun q hq => Or.inl hq)
        have hbel7 : Below w.heap.size w w7 := R6.out.bel.trans (hb7.mono R6.out.bel.size)
        have hlt6 := R6.out.tab.lt
        have Hnl := Lib.hid hnl
        have Hnb := Lib.hid hnb
        have HM := Lib.hid hM
        have Htab7 := Lib.hid htab7
        have Hhas7 := Lib.hid hhas7
        have Hbel7 := Lib.hid hbel7
        clear hnl hnb hM htab7 hhas7 hbel7 hb7
        go_wp2_with fail
        go_loopw [10] (fun i wr2 => ∃ m : Nat, m ≤ M ∧ i = .int .i64 m ∧ Tab wr2 w1.heap.size (w1.heap.size + 1) H6 D6.clock ∧ Keeps (fun b => b = w1.heap.size ∨ b = w1.heap.size + 1) w7 wr2) (fun i _ => M - (intOf i).toNat)
        case atStart => exact ⟨0, Nat.zero_le _, rfl, Htab7.out, Keeps.refl _ _⟩
        case round =>
          obtain ⟨m, hmM, rfl, htab, hkw⟩ := hrel
          have hhas8 := Hhas7.out.keeps (hkw.mono fun q _ hq => Or.inr hq)
          have hbel8 : Below w.heap.size w _ := Hbel7.out.trans (hkw.below Hbel7.out.size fun q hq h => by have := Hsz.out; omega)
          have Htab := Lib.hid htab
          have Hkw := Lib.hid hkw
          have Hhas8 := Lib.hid hhas8
          have Hbel8 := Lib.hid hbel8
          clear htab hkw hhas8 hbel8
          by_cases hltm : m < M
          · have hms : m < D6.shown.length := by rw [HM.out]; exact hltm
            obtain ⟨_, _, hse, _, _, hnc⟩ := Hnl.out
            obtain ⟨nb, no, hna, hncell⟩ := hnc m (by rw [List.length_map]; exact hms)
            injection hse with e1 e2 e3
            subst e1 e3
            clear e2
            subst hna
            rw [List.getElem_map] at hncell
            obtain ⟨x, hxe⟩ : ∃ x, D6.shown[m] = x := ⟨_, rfl⟩
            have hxm : x ∈ D6.shown := hxe ▸ List.getElem_mem hms
            rw [hxe] at hncell
            have hnm := Hnb.out nb rfl
            have hncell2 := Hkw.out.cell hncell (fun hq => by omega)
            clear hxe hncell hnc
            have hdn : D6.down = false := by
              cases hd : D6.down with
              | false => rfl
              | true => unfold PD.shown at hxm; rw [hd] at hxm; cases hxm
            have hxf : x ∈ D6.files := by unfold PD.shown at hxm; rw [hdn] at hxm; exact hxm
            have hfind := find_of_mem R6.out.has.apart hxf
            obtain ⟨ht1, ht2, ht3⟩ := R6.out.ti.at_ x.2 (Or.inl ⟨x, hxf, rfl⟩)
            have hxl : x.1.length ≤ 120 := R6.out.na.f x hxf
            obtain ⟨⟨fb, fsu, ft⟩, hfe⟩ : ∃ f, D6.fs x.2 = f := ⟨_, rfl⟩
            rw [hfe] at ht1 ht2 ht3
            dsimp only at ht1 ht2 ht3
            have Hx := Lib.hid (And.intro hdn (And.intro hfind (And.intro hfe ht1)))
            clear hdn hxf hfind hfe ht1 hxm
            simp only [nameV, encStr] at hncell2
            go_wp2_with fail
            refine (has_read Hhas8.out ⟨x.1.toArray⟩ (by simp [ByteArray.size]; omega)).mono ?_
            rintro e w9 hr9
            rw [show bs ⟨x.1.toArray⟩ = x.1 by simp [bs]] at hr9
            have htab8 := Htab.out
            obtain ⟨rb, rc, rfl, hbo, hro, hb9⟩ := hr9.yes Hx.out.1 Hx.out.2.1 (b := fb) (by rw [Hx.out.2.2.1])
            have hhas9 := (Hhas8.out.below hb9).less (G := fun q => q < w.heap.size ∨ q = w1.heap.size ∨ q = w1.heap.size + 1) (fun q hq => Or.inl hq)
            have hbo9 : Bin w9 (.slice rb fb.length rc) fb := hbo.bin
            have htab9 := Htab.out.keep (hb9.block _ Htab.out.lt.1) (hb9.block _ Htab.out.lt.2)
            have hcell9 := (hb9.cell (p := ⟨nb, no + m, none⟩) (World.block_lt_of_cell? _ _ hncell2)).trans hncell2
            have hkw9 : Keeps (fun b => b = w1.heap.size ∨ b = w1.heap.size + 1) w7 w9 := Hkw.out.trans ((Keeps.of_below hb9).mono (T := fun b => b = w1.heap.size ∨ b = w1.heap.size + 1) (fun _ _ h => h.elim)) (fun _ _ h => h)
            have hbel9 : Below w.heap.size w w9 := Hbel8.out.trans (hb9.mono Hbel8.out.size)
            have Htab8 := Lib.hid htab8
            clear htab8
            have Hhas9 := Lib.hid hhas9
            have Hbo9 := Lib.hid hbo9
            have Htab9 := Lib.hid htab9
            have Hkw9 := Lib.hid hkw9
            have Hbel9 := Lib.hid hbel9
            clear hr9 hbo hb9 hhas9 hbo9 htab9 hkw9 hbel9 hncell2
            go_wp2_with fail
            refine (has_stat Hhas9.out ⟨x.1.toArray⟩ (by simp [ByteArray.size]; omega)).mono ?_
            rintro e w10 hs10
            rw [show bs ⟨x.1.toArray⟩ = x.1 by simp [bs]] at hs10
            obtain ⟨rfl, hb10⟩ := hs10.yes Hx.out.1 Hx.out.2.1 Hx.out.2.2.1
            dsimp only
            obtain ⟨w11, hw11⟩ : ∃ w11 : World, w10.alloc (.cells #[.int .i64 fb.length, .int .i64 ft] 36) = w11 := ⟨_, rfl⟩
            have hb11 : Below w9.heap.size w9 w11 := by rw [← hw11]; exact hb10.alloc hb10.size _
            have hx11 : w11.heap[w10.heap.size]? = some (.cells #[.int .i64 fb.length, .int .i64 ft] 36 (0, 0)) := by rw [← hw11]; exact heap_alloc_new w10 _
            have q1 : w11.cell? ⟨w10.heap.size, 1, none⟩ = some (.int .i64 ft) := by rw [cell_at hx11]; rfl
            have hs10z := hb10.size
            have hbel11 : Below w.heap.size w w11 := Hbel9.out.trans (hb11.mono Hbel9.out.size)
            have Hbel11 := Lib.hid hbel11
            have Hb11 := Lib.hid hb11
            have Hs10 := Lib.hid hs10z
            clear hs10 hb10 hb11 hx11 hbel11 hs10z hcell9
            have gt1 : decide (ft < 1) = false := by simp; omega
            by_cases hbig : 2000 ≤ ft
            · have gt2 : decide ((2000 : Int) ≤ ft) = true := by simp; omega
              go_wp2_with fail
              go_ret
              exact ⟨rfl, Hbel11.out⟩
            have gt2 : decide ((2000 : Int) ≤ ft) = false := by simp; omega
            obtain ⟨tn, rfl⟩ : ∃ tn : Nat, ft = tn := ⟨ft.toNat, by omega⟩
            have htab11 := Htab9.out.keep (Hb11.out.block _ Htab9.out.lt.1) (Hb11.out.block _ Htab9.out.lt.2)
            have Htab11 := Lib.hid htab11
            obtain ⟨C, B, tc, tb, tcs, tbs, tall⟩ := htab11
            obtain ⟨os, ob, o1, o2, o3⟩ := tall tn (by omega)
            have Ho3 := Lib.hid o3
            have q2 : w11.drew.cell? ⟨w1.heap.size, tn, none⟩ = some (.string os) := (cell_at tc).trans o1
            have q3 : w11.drew.cell? ⟨w1.heap.size + 1, tn, none⟩ = some (.bool ob) := (cell_at tb).trans o2
            have q4 : w11.drew.drew.frozen? ⟨w1.heap.size, tn, none⟩ = false := frozen_at tc
            have q5 : w11.drew.drew.frozen? ⟨w1.heap.size + 1, tn, none⟩ = false := frozen_at tb
            have q7 : (w11.drew.drew.setCell ⟨w1.heap.size + 1, tn, none⟩ (.bool true)).frozen? ⟨w1.heap.size, tn, none⟩ = false := frozen_at (heap_setCell_of tc (by simp) _)
            have q8 : ∃ u, w11.drew.drew.cell? ⟨w1.heap.size + 1, tn, none⟩ = some u := ⟨_, (cell_at tb).trans o2⟩
            have q9 : (w11.drew.drew.setCell ⟨w1.heap.size + 1, tn, none⟩ (.bool true)).cell? ⟨w1.heap.size, tn, none⟩ = some (.string os) := (cell_at (heap_setCell_of tc (by simp) _)).trans o1
            have q6 : w11.drew.drew.cell? ⟨w10.heap.size, 1, none⟩ = some (.int .i64 tn) := q1
            have qb : w11.drew.drew.cell? ⟨w1.heap.size + 1, tn, none⟩ = some (.bool ob) := q3
            have r1 : (w11.setCell ⟨w1.heap.size + 1, tn, none⟩ (.bool true)).cell? ⟨w10.heap.size, 1, none⟩ = some (.int .i64 tn) := (World.cell?_of_block (w := w11) (Below.heap_setCell _ _ _ _ (by have := Hs10.out; have := Htab9.out.lt.2; simp; omega))).trans q1
            have r2 : (w11.setCell ⟨w1.heap.size + 1, tn, none⟩ (.bool true)).frozen? ⟨w1.heap.size, tn, none⟩ = false := q7
            have r3 : (w11.setCell ⟨w1.heap.size + 1, tn, none⟩ (.bool true)).cell? ⟨w1.heap.size, tn, none⟩ = some (.string os) := q9
            clear tall o1 o2 o3 tc tb tcs tbs q8
            go_wp2_with fail
            have qa : w11.drew.cell? ⟨w10.heap.size, 1, none⟩ = some (.int .i64 tn) := q1
            clear q1
            have hbo11 : Bin w11 (.slice rb fb.length rc) fb := Hbo9.out.keep fun q _ hq => Hb11.out.block q hq
            have hcv1 := (hbo11.keep (w' := w11.drew) fun _ _ _ => rfl).str
            have hcv2 := (hbo11.keep (w' := w11.drew.drew) fun _ _ _ => rfl).str
            have hcv3 := (hbo11.keep (w' := (w11.setCell ⟨w1.heap.size + 1, tn, none⟩ (.bool true)).drew.drew) fun q hq _ => Below.heap_setCell _ _ _ _ (by
              have hrq := hro q hq
              have := Htab8.out.lt.2
              simp; omega)).str
            clear hbo11
            cases ob
            · skip
              refine wp_region_reg (by kernel_rfl) (by kernel_rfl) ?_
              refine reg_quiet 0 rfl (by kernel_rfl) (fun K hK => ?_)
              go_simp
              refine hK _ ?_; clear hK K
              refine reg_quiet 1 rfl (by kernel_rfl) (fun K hK => ?_)
              go_simp
              refine hK _ ?_; clear hK K
              refine reg_quiet 2 rfl (by kernel_rfl) (fun K hK => ?_)
              go_simp
              refine hK _ ?_; clear hK K
              refine reg_quiet 3 rfl (by kernel_rfl) (fun K hK => ?_)
              go_simp
              refine hK _ ?_; clear hK K
              refine reg_quiet 4 rfl (by kernel_rfl) (fun K hK => ?_)
              go_simp
              refine hK _ ?_; clear hK K
              refine reg_quiet 5 rfl (by kernel_rfl) (fun K hK => ?_)
              go_simp
              refine hK _ ?_; clear hK K
              refine reg_quiet 6 rfl (by kernel_rfl) (fun K hK => ?_)
              go_simp
              refine hK _ ?_; clear hK K
              refine reg_quiet 7 rfl (by kernel_rfl) (fun K hK => ?_)
              go_simp
              refine hK _ ?_; clear hK K
              refine reg_quiet 8 rfl (by kernel_rfl) (fun K hK => ?_)
              go_simp
              refine hK _ ?_; clear hK K
              refine reg_quiet 9 rfl (by kernel_rfl) (fun K hK => ?_)
              go_simp
              refine hK _ ?_; clear hK K
              refine reg_quiet 10 rfl (by kernel_rfl) (fun K hK => ?_)
              go_simp
              refine hK _ ?_; clear hK K
              refine reg_quiet 11 rfl (by kernel_rfl) (fun K hK => ?_)
              go_simp
              refine hK _ ?_; clear hK K
              refine reg_quiet 12 rfl (by kernel_rfl) (fun K hK => ?_)
              go_simp
              refine hK _ ?_; clear hK K
              refine reg_quiet 13 rfl (by kernel_rfl) (fun K hK => ?_)
              go_simp
              refine hK _ ?_; clear hK K
              refine reg_quiet 14 rfl (by kernel_rfl) (fun K hK => ?_)
              go_simp
              refine hK _ ?_; clear hK K
              refine reg_done (by kernel_rfl) ?_
              go_wp2_with fail
              refine wp_region_reg (by kernel_rfl) (by kernel_rfl) ?_
              refine reg_quiet 0 rfl (by kernel_rfl) (fun K hK => ?_)
              go_simp
              refine hK _ ?_; clear hK K
              refine reg_quiet 1 rfl (by kernel_rfl) (fun K hK => ?_)
              go_simp
              refine hK _ ?_; clear hK K
              refine reg_quiet 2 rfl (by kernel_rfl) (fun K hK => ?_)
              go_simp
              refine hK _ ?_; clear hK K
              refine reg_quiet 3 rfl (by kernel_rfl) (fun K hK => ?_)
              go_simp
              refine hK _ ?_; clear hK K
              refine reg_quiet 4 rfl (by kernel_rfl) (fun K hK => ?_)
              go_simp
              refine hK _ ?_; clear hK K
              refine reg_quiet 5 rfl (by kernel_rfl) (fun K hK => ?_)
              go_simp
              refine hK _ ?_; clear hK K
              refine reg_quiet 6 rfl (by kernel_rfl) (fun K hK => ?_)
              go_simp
              refine hK _ ?_; clear hK K
              refine reg_quiet 7 rfl (by kernel_rfl) (fun K hK => ?_)
              go_simp
              refine hK _ ?_; clear hK K
              refine reg_quiet 8 rfl (by kernel_rfl) (fun K hK => ?_)
              go_simp
              refine hK _ ?_; clear hK K
              refine reg_turn 9 [5, 4, 3] rfl (by kernel_rfl) (by kernel_rfl) (fun K hK => ?_)
              go_simp
              refine hK _ _ (StayOk.cons rfl (by go_simp) (StayOk.cons rfl (by go_simp) (StayOk.cons rfl (by go_simp) (StayOk.nil)))) ?_; clear hK K
              refine reg_quiet 10 rfl (by kernel_rfl) (fun K hK => ?_)
              go_simp
              refine hK _ ?_; clear hK K
              refine reg_turn 11 [] rfl (by kernel_rfl) (by kernel_rfl) (fun K hK => ?_)
              go_simp
              refine hK _ _ (StayOk.nil) ?_; clear hK K
              refine reg_done (by kernel_rfl) ?_
              go_wp2_with fail
              go_roundw
              case rel =>
                refine ⟨m + 1, by omega, by go_num, ?_, ?_⟩
                · exact Tab.put (Htab11.out.keep rfl rfl) (by simp) (by omega) ht3 fb Hx.out.2.2.2
                · exact (((Hkw9.out.trans ((Keeps.of_below Hb11.out).mono (T := fun b => b = w1.heap.size ∨ b = w1.heap.size + 1) (fun _ _ h => h.elim)) (fun _ _ h => h)).drew.drew).setCell (p := ⟨w1.heap.size + 1, tn, none⟩) (fun _ => Or.inr rfl) _).setCell (p := ⟨w1.heap.size, tn, none⟩) (fun _ => Or.inl rfl) _
              case measure => simp [intOf]; omega
            · obtain rfl : os = ⟨fb.toArray⟩ := by rw [← Hx.out.2.2.2]; exact (Ho3.out rfl).1
              refine wp_region_reg (by kernel_rfl) (by kernel_rfl) ?_
              refine reg_quiet 0 rfl (by kernel_rfl) (fun K hK => ?_)
              go_simp
              refine hK _ ?_; clear hK K
              refine reg_quiet 1 rfl (by kernel_rfl) (fun K hK => ?_)
              go_simp
              refine hK _ ?_; clear hK K
              refine reg_quiet 2 rfl (by kernel_rfl) (fun K hK => ?_)
              go_simp
              refine hK _ ?_; clear hK K
              refine reg_quiet 3 rfl (by kernel_rfl) (fun K hK => ?_)
              go_simp
              refine hK _ ?_; clear hK K
              refine reg_quiet 4 rfl (by kernel_rfl) (fun K hK => ?_)
              go_simp
              refine hK _ ?_; clear hK K
              refine reg_quiet 5 rfl (by kernel_rfl) (fun K hK => ?_)
              go_simp
              refine hK _ ?_; clear hK K
              refine reg_quiet 6 rfl (by kernel_rfl) (fun K hK => ?_)
              go_simp
              refine hK _ ?_; clear hK K
              refine reg_quiet 7 rfl (by kernel_rfl) (fun K hK => ?_)
              go_simp
              refine hK _ ?_; clear hK K
              refine reg_quiet 8 rfl (by kernel_rfl) (fun K hK => ?_)
              go_simp
              refine hK _ ?_; clear hK K
              refine reg_quiet 9 rfl (by kernel_rfl) (fun K hK => ?_)
              go_simp
              refine hK _ ?_; clear hK K
              refine reg_quiet 10 rfl (by kernel_rfl) (fun K hK => ?_)
              go_simp
              refine hK _ ?_; clear hK K
              refine reg_quiet 11 rfl (by kernel_rfl) (fun K hK => ?_)
              go_simp
              refine hK _ ?_; clear hK K
              refine reg_quiet 12 rfl (by kernel_rfl) (fun K hK => ?_)
              go_simp
              refine hK _ ?_; clear hK K
              refine reg_quiet 13 rfl (by kernel_rfl) (fun K hK => ?_)
              go_simp
              refine hK _ ?_; clear hK K
              refine reg_quiet 14 rfl (by kernel_rfl) (fun K hK => ?_)
              go_simp
              refine hK _ ?_; clear hK K
              refine reg_done (by kernel_rfl) ?_
              go_wp2_with fail
              refine wp_region_reg (by kernel_rfl) (by kernel_rfl) ?_
              refine reg_quiet 0 rfl (by kernel_rfl) (fun K hK => ?_)
              go_simp
              refine hK _ ?_; clear hK K
              refine reg_quiet 1 rfl (by kernel_rfl) (fun K hK => ?_)
              go_simp
              refine hK _ ?_; clear hK K
              refine reg_quiet 2 rfl (by kernel_rfl) (fun K hK => ?_)
              go_simp
              refine hK _ ?_; clear hK K
              refine reg_quiet 3 rfl (by kernel_rfl) (fun K hK => ?_)
              go_simp
              refine hK _ ?_; clear hK K
              refine reg_quiet 4 rfl (by kernel_rfl) (fun K hK => ?_)
              go_simp
              refine hK _ ?_; clear hK K
              refine reg_quiet 5 rfl (by kernel_rfl) (fun K hK => ?_)
              go_simp
              refine hK _ ?_; clear hK K
              refine reg_quiet 6 rfl (by kernel_rfl) (fun K hK => ?_)
              go_simp
              refine hK _ ?_; clear hK K
              refine reg_quiet 7 rfl (by kernel_rfl) (fun K hK => ?_)
              go_simp
              refine hK _ ?_; clear hK K
              refine reg_quiet 8 rfl (by kernel_rfl) (fun K hK => ?_)
              go_simp
              refine hK _ ?_; clear hK K
              refine reg_turn 9 [5, 4, 3] rfl (by kernel_rfl) (by kernel_rfl) (fun K hK => ?_)
              go_simp
              refine hK _ _ (StayOk.cons rfl (by go_simp) (StayOk.cons rfl (by go_simp) (StayOk.cons rfl (by go_simp) (StayOk.nil)))) ?_; clear hK K
              refine reg_quiet 10 rfl (by kernel_rfl) (fun K hK => ?_)
              go_simp
              refine hK _ ?_; clear hK K
              refine reg_turn 11 [] rfl (by kernel_rfl) (by kernel_rfl) (fun K hK => ?_)
              go_simp
              refine hK _ _ (StayOk.nil) ?_; clear hK K
              refine reg_done (by kernel_rfl) ?_
              go_wp2_with fail
              go_roundw
              case rel =>
                refine ⟨m + 1, by omega, by go_num, ?_, ?_⟩
                · exact Tab.put (Htab11.out.keep rfl rfl) (by simp) (by omega) ht3 fb Hx.out.2.2.2
                · exact (((Hkw9.out.trans ((Keeps.of_below Hb11.out).mono (T := fun b => b = w1.heap.size ∨ b = w1.heap.size + 1) (fun _ _ h => h.elim)) (fun _ _ h => h)).drew.drew).setCell (p := ⟨w1.heap.size + 1, tn, none⟩) (fun _ => Or.inr rfl) _).setCell (p := ⟨w1.heap.size, tn, none⟩) (fun _ => Or.inl rfl) _
              case measure => simp [intOf]; omega
          · obtain rfl : m = M := by omega
            go_wp2_with fail
            go_roundw
            case rel => exact ⟨j + 1, D6, H6, by omega, by go_num, R6.out.ti, R6.out.na, Htab.out, Hhas8.out.more (by omega), Hbel8.out⟩
            case measure => simp [intOf]; omega
      · go_wp2_with fail
        refine wp_region_reg (by kernel_rfl) (by kernel_rfl) ?_
        refine reg_quiet 0 rfl (by kernel_rfl) (fun K hK => ?_)
        go_simp
        refine hK _ ?_; clear hK K
        refine reg_quiet 1 rfl (by kernel_rfl) (fun K hK => ?_)
        go_simp
        refine hK _ ?_; clear hK K
        refine reg_quiet 2 rfl (by kernel_rfl) (fun K hK => ?_)
        go_simp
        refine hK _ ?_; clear hK K
        refine reg_quiet 3 rfl (by kernel_rfl) (fun K hK => ?_)
        go_simp
        refine hK _ ?_; clear hK K
        refine reg_quiet 4 rfl (by kernel_rfl) (fun K hK => ?_)
        go_simp
        refine hK _ ?_; clear hK K
        refine reg_quiet 5 rfl (by kernel_rfl) (fun K hK => ?_)
        go_simp
        refine hK _ ?_; clear hK K
        refine reg_quiet 6 rfl (by kernel_rfl) (fun K hK => ?_)
        go_simp
        refine hK _ ?_; clear hK K
        refine reg_quiet 7 rfl (by kernel_rfl) (fun K hK => ?_)
        go_simp
        refine hK _ ?_; clear hK K
        refine reg_quiet 8 rfl (by kernel_rfl) (fun K hK => ?_)
        go_simp
        refine hK _ ?_; clear hK K
        refine reg_quiet 9 rfl (by kernel_rfl) (fun K hK => ?_)
        go_simp
        refine hK _ ?_; clear hK K
        refine reg_quiet 10 rfl (by kernel_rfl) (fun K hK => ?_)
        go_simp
        refine hK _ ?_; clear hK K
        refine reg_quiet 11 rfl (by kernel_rfl) (fun K hK => ?_)
        go_simp
        refine hK _ ?_; clear hK K
        refine reg_turn 12 [] rfl (by kernel_rfl) (by kernel_rfl) (fun K hK => ?_)
        go_simp
        refine (done_restart R.out.has.drew (by omega) (tails := x.tails) Xok.out.n.1 Xok.out.n.2 (Xlst.out.keep (w' := wr.drew) fun _ _ _ => rfl) (by omega) Xok.out.tails (fun hne q hq => Or.inl (Hxt.out hne q hq))).mono ?_
        rintro e w6 ⟨rfl, h6, hk6⟩
        obtain ⟨H6, hr6⟩ := R.out.step (.one (.restart D x.n x.tails)) h6 (hk6.of_drew) (Nat.le_refl _)
        generalize hD6 : D.restart x.n x.tails = D6 at hr6
        have R6 := Lib.hid hr6
        clear hr6 h6 hk6 hD6 c0 c1 c2 c3 c4 c5
        refine hK _ _ (StayOk.nil) ?_; clear hK K
        refine reg_done (by kernel_rfl) ?_
        go_wp2_with fail
        refine (has_names R6.out.has (by omega)).mono ?_
        rintro e w7 ⟨nv, rfl, hnl, hb7, hnb⟩
        obtain ⟨na, ncap, rfl⟩ : ∃ a cp, nv = .slice a D6.shown.length cp := by
          obtain ⟨a, cp, rfl, _⟩ := hnl
          exact ⟨a, cp, by rw [List.length_map]⟩
        obtain ⟨M, hM⟩ : ∃ M, D6.shown.length = M := ⟨_, rfl⟩
        have hMb : M ≤ 1000 := by
          have h1 := R6.out.has.bud.nf
          have h2 : D6.shown.length ≤ D6.files.length := by unfold PD.shown; split <;> simp
          omega
        rw [hM] at hnl hnb ⊢
        have htab7 : Tab w7 w1.heap.size (w1.heap.size + 1) H6 D6.clock := R6.out.tab.keep (hb7.block _ R6.out.tab.lt.1) (hb7.block _ R6.out.tab.lt.2)
        have hhas7 := (R6.out.has.below hb7).less (G := fun q => q < w.heap.size ∨ q = w1.heap.size ∨ q = w1.heap.size + 1) (fun q hq => Or.inl hq)
        have hbel7 : Below w.heap.size w w7 := R6.out.bel.trans (hb7.mono R6.out.bel.size)
        have hlt6 := R6.out.tab.lt
        have Hnl := Lib.hid hnl
        have Hnb := Lib.hid hnb
        have HM := Lib.hid hM
        have Htab7 := Lib.hid htab7
        have Hhas7 := Lib.hid hhas7
        have Hbel7 := Lib.hid hbel7
        clear hnl hnb hM htab7 hhas7 hbel7 hb7
        go_wp2_with fail
        go_loopw [10] (fun i wr2 => ∃ m : Nat, m ≤ M ∧ i = .int .i64 m ∧ Tab wr2 w1.heap.size (w1.heap.size + 1) H6 D6.clock ∧ Keeps (fun b => b = w1.heap.size ∨ b = w1.heap.size + 1) w7 wr2) (fun i _ => M - (intOf i).toNat)
        case atStart => exact ⟨0, Nat.zero_le _, rfl, Htab7.out, Keeps.refl _ _⟩
        case round =>
          obtain ⟨m, hmM, rfl, htab, hkw⟩ := hrel
          have hhas8 := Hhas7.out.keeps (hkw.mono fun q _ hq => Or.inr hq)
          have hbel8 : Below w.heap.size w _ := Hbel7.out.trans (hkw.below Hbel7.out.size fun q hq h => by have := Hsz.out; omega)
          have Htab := Lib.hid htab
          have Hkw := Lib.hid hkw
          have Hhas8 := Lib.hid hhas8
          have Hbel8 := Lib.hid hbel8
          clear htab hkw hhas8 hbel8
          by_cases hltm : m < M
          · have hms : m < D6.shown.length := by rw [HM.out]; exact hltm
            obtain ⟨_, _, hse, _, _, hnc⟩ := Hnl.out
            obtain ⟨nb, no, hna, hncell⟩ := hnc m (by rw [List.length_map]; exact hms)
            injection hse with e1 e2 e3
            subst e1 e3
            clear e2
            subst hna
            rw [List.getElem_map] at hncell
            obtain ⟨x, hxe⟩ : ∃ x, D6.shown[m] = x := ⟨_, rfl⟩
            have hxm : x ∈ D6.shown := hxe ▸ List.getElem_mem hms
            rw [hxe] at hncell
            have hnm := Hnb.out nb rfl
            have hncell2 := Hkw.out.cell hncell (fun hq => by omega)
            clear hxe hncell hnc
            have hdn : D6.down = false := by
              cases hd : D6.down with
              | false => rfl
              | true => unfold PD.shown at hxm; rw [hd] at hxm; cases hxm
            have hxf : x ∈ D6.files := by unfold PD.shown at hxm; rw [hdn] at hxm; exact hxm
            have hfind := find_of_mem R6.out.has.apart hxf
            obtain ⟨ht1, ht2, ht3⟩ := R6.out.ti.at_ x.2 (Or.inl ⟨x, hxf, rfl⟩)
            have hxl : x.1.length ≤ 120 := R6.out.na.f x hxf
            obtain ⟨⟨fb, fsu, ft⟩, hfe⟩ : ∃ f, D6.fs x.2 = f := ⟨_, rfl⟩
            rw [hfe] at ht1 ht2 ht3
            dsimp only at ht1 ht2 ht3
            have Hx := Lib.hid (And.intro hdn (And.intro hfind (And.intro hfe ht1)))
            clear hdn hxf hfind hfe ht1 hxm
            simp only [nameV, encStr] at hncell2
            go_wp2_with fail
            refine (has_read Hhas8.out ⟨x.1.toArray⟩ (by simp [ByteArray.size]; omega)).mono ?_
            rintro e w9 hr9
            rw [show bs ⟨x.1.toArray⟩ = x.1 by simp [bs]] at hr9
            have htab8 := Htab.out
            obtain ⟨rb, rc, rfl, hbo, hro, hb9⟩ := hr9.yes Hx.out.1 Hx.out.2.1 (b := fb) (by rw [Hx.out.2.2.1])
            have hhas9 := (Hhas8.out.below hb9).less (G := fun q => q < w.heap.size ∨ q = w1.heap.size ∨ q = w1.heap.size + 1) (fun q hq => Or.inl hq)
            have hbo9 : Bin w9 (.slice rb fb.length rc) fb := hbo.bin
            have htab9 := Htab.out.keep (hb9.block _ Htab.out.lt.1) (hb9.block _ Htab.out.lt.2)
            have hcell9 := (hb9.cell (p := ⟨nb, no + m, none⟩) (World.block_lt_of_cell? _ _ hncell2)).trans hncell2
            have hkw9 : Keeps (fun b => b = w1.heap.size ∨ b = w1.heap.size + 1) w7 w9 := Hkw.out.trans ((Keeps.of_below hb9).mono (T := fun b => b = w1.heap.size ∨ b = w1.heap.size + 1) (fun _ _ h => h.elim)) (fun _ _ h => h)
            have hbel9 : Below w.heap.size w w9 := Hbel8.out.trans (hb9.mono Hbel8.out.size)
            have Htab8 := Lib.hid htab8
            clear htab8
            have Hhas9 := Lib.hid hhas9
            have Hbo9 := Lib.hid hbo9
            have Htab9 := Lib.hid htab9
            have Hkw9 := Lib.hid hkw9
            have Hbel9 := Lib.hid hbel9
            clear hr9 hbo hb9 hhas9 hbo9 htab9 hkw9 hbel9 hncell2
            go_wp2_with fail
            refine (has_stat Hhas9.out ⟨x.1.toArray⟩ (by simp [ByteArray.size]; omega)).mono ?_
            rintro e w10 hs10
            rw [show bs ⟨x.1.toArray⟩ = x.1 by simp [bs]] at hs10
            obtain ⟨rfl, hb10⟩ := hs10.yes Hx.out.1 Hx.out.2.1 Hx.out.2.2.1
            dsimp only
            obtain ⟨w11, hw11⟩ : ∃ w11 : World, w10.alloc (.cells #[.int .i64 fb.length, .int .i64 ft] 36) = w11 := ⟨_, rfl⟩
            have hb11 : Below w9.heap.size w9 w11 := by rw [← hw11]; exact hb10.alloc hb10.size _
            have hx11 : w11.heap[w10.heap.size]? = some (.cells #[.int .i64 fb.length, .int .i64 ft] 36 (0, 0)) := by rw [← hw11]; exact heap_alloc_new w10 _
            have q1 : w11.cell? ⟨w10.heap.size, 1, none⟩ = some (.int .i64 ft) := by rw [cell_at hx11]; rfl
            have hs10z := hb10.size
            have hbel11 : Below w.heap.size w w11 := Hbel9.out.trans (hb11.mono Hbel9.out.size)
            have Hbel11 := Lib.hid hbel11
            have Hb11 := Lib.hid hb11
            have Hs10 := Lib.hid hs10z
            clear hs10 hb10 hb11 hx11 hbel11 hs10z hcell9
            have gt1 : decide (ft < 1) = false := by simp; omega
            by_cases hbig : 2000 ≤ ft
            · have gt2 : decide ((2000 : Int) ≤ ft) = true := by simp; omega
              go_wp2_with fail
              go_ret
              exact ⟨rfl, Hbel11.out⟩
            have gt2 : decide ((2000 : Int) ≤ ft) = false := by simp; omega
            obtain ⟨tn, rfl⟩ : ∃ tn : Nat, ft = tn := ⟨ft.toNat, by omega⟩
            have htab11 := Htab9.out.keep (Hb11.out.block _ Htab9.out.lt.1) (Hb11.out.block _ Htab9.out.lt.2)
            have Htab11 := Lib.hid htab11
            obtain ⟨C, B, tc, tb, tcs, tbs, tall⟩ := htab11
            obtain ⟨os, ob, o1, o2, o3⟩ := tall tn (by omega)
            have Ho3 := Lib.hid o3
            have q2 : w11.drew.cell? ⟨w1.heap.size, tn, none⟩ = some (.string os) := (cell_at tc).trans o1
            have q3 : w11.drew.cell? ⟨w1.heap.size + 1, tn, none⟩ = some (.bool ob) := (cell_at tb).trans o2
            have q4 : w11.drew.drew.frozen? ⟨w1.heap.size, tn, none⟩ = false := frozen_at tc
            have q5 : w11.drew.drew.frozen? ⟨w1.heap.size + 1, tn, none⟩ = false := frozen_at tb
            have q7 : (w11.drew.drew.setCell ⟨w1.heap.size + 1, tn, none⟩ (.bool true)).frozen? ⟨w1.heap.size, tn, none⟩ = false := frozen_at (heap_setCell_of tc (by simp) _)
            have q8 : ∃ u, w11.drew.drew.cell? ⟨w1.heap.size + 1, tn, none⟩ = some u := ⟨_, (cell_at tb).trans o2⟩
            have q9 : (w11.drew.drew.setCell ⟨w1.heap.size + 1, tn, none⟩ (.bool true)).cell? ⟨w1.heap.size, tn, none⟩ = some (.string os) := (cell_at (heap_setCell_of tc (by simp) _)).trans o1
            have q6 : w11.drew.drew.cell? ⟨w10.heap.size, 1, none⟩ = some (.int .i64 tn) := q1
            have qb : w11.drew.drew.cell? ⟨w1.heap.size + 1, tn, none⟩ = some (.bool ob) := q3
            have r1 : (w11.setCell ⟨w1.heap.size + 1, tn, none⟩ (.bool true)).cell? ⟨w10.heap.size, 1, none⟩ = some (.int .i64 tn) := (World.cell?_of_block (w := w11) (Below.heap_setCell _ _ _ _ (by have := Hs10.out; have := Htab9.out.lt.2; simp; omega))).trans q1
            have r2 : (w11.setCell ⟨w1.heap.size + 1, tn, none⟩ (.bool true)).frozen? ⟨w1.heap.size, tn, none⟩ = false := q7
            have r3 : (w11.setCell ⟨w1.heap.size + 1, tn, none⟩ (.bool true)).cell? ⟨w1.heap.size, tn, none⟩ = some (.string os) := q9
            clear tall o1 o2 o3 tc tb tcs tbs q8
            go_wp2_with fail
            have qa : w11.drew.cell? ⟨w10.heap.size, 1, none⟩ = some (.int .i64 tn) := q1
            clear q1
            have hbo11 : Bin w11 (.slice rb fb.length rc) fb := Hbo9.out.keep fun q _ hq => Hb11.out.block q hq
            have hcv1 := (hbo11.keep (w' := w11.drew) fun _ _ _ => rfl).str
            have hcv2 := (hbo11.keep (w' := w11.drew.drew) fun _ _ _ => rfl).str
            have hcv3 := (hbo11.keep (w' := (w11.setCell ⟨w1.heap.size + 1, tn, none⟩ (.bool true)).drew.drew) fun q hq _ => Below.heap_setCell _ _ _ _ (by
              have hrq := hro q hq
              have := Htab8.out.lt.2
              simp; omega)).str
            clear hbo11
            cases ob
            · skip
              refine wp_region_reg (by kernel_rfl) (by kernel_rfl) ?_
              refine reg_quiet 0 rfl (by kernel_rfl) (fun K hK => ?_)
              go_simp
              refine hK _ ?_; clear hK K
              refine reg_quiet 1 rfl (by kernel_rfl) (fun K hK => ?_)
              go_simp
              refine hK _ ?_; clear hK K
              refine reg_quiet 2 rfl (by kernel_rfl) (fun K hK => ?_)
              go_simp
              refine hK _ ?_; clear hK K
              refine reg_quiet 3 rfl (by kernel_rfl) (fun K hK => ?_)
              go_simp
              refine hK _ ?_; clear hK K
              refine reg_quiet 4 rfl (by kernel_rfl) (fun K hK => ?_)
              go_simp
              refine hK _ ?_; clear hK K
              refine reg_quiet 5 rfl (by kernel_rfl) (fun K hK => ?_)
              go_simp
              refine hK _ ?_; clear hK K
              refine reg_quiet 6 rfl (by kernel_rfl) (fun K hK => ?_)
              go_simp
              refine hK _ ?_; clear hK K
              refine reg_quiet 7 rfl (by kernel_rfl) (fun K hK => ?_)
              go_simp
              refine hK _ ?_; clear hK K
              refine reg_quiet 8 rfl (by kernel_rfl) (fun K hK => ?_)
              go_simp
              refine hK _ ?_; clear hK K
              refine reg_quiet 9 rfl (by kernel_rfl) (fun K hK => ?_)
              go_simp
              refine hK _ ?_; clear hK K
              refine reg_quiet 10 rfl (by kernel_rfl) (fun K hK => ?_)
              go_simp
              refine hK _ ?_; clear hK K
              refine reg_quiet 11 rfl (by kernel_rfl) (fun K hK => ?_)
              go_simp
              refine hK _ ?_; clear hK K
              refine reg_quiet 12 rfl (by kernel_rfl) (fun K hK => ?_)
              go_simp
              refine hK _ ?_; clear hK K
              refine reg_quiet 13 rfl (by kernel_rfl) (fun K hK => ?_)
              go_simp
              refine hK _ ?_; clear hK K
              refine reg_quiet 14 rfl (by kernel_rfl) (fun K hK => ?_)
              go_simp
              refine hK _ ?_; clear hK K
              refine reg_done (by kernel_rfl) ?_
              go_wp2_with fail
              refine wp_region_reg (by kernel_rfl) (by kernel_rfl) ?_
              refine reg_quiet 0 rfl (by kernel_rfl) (fun K hK => ?_)
              go_simp
              refine hK _ ?_; clear hK K
              refine reg_quiet 1 rfl (by kernel_rfl) (fun K hK => ?_)
              go_simp
              refine hK _ ?_; clear hK K
              refine reg_quiet 2 rfl (by kernel_rfl) (fun K hK => ?_)
              go_simp
              refine hK _ ?_; clear hK K
              refine reg_quiet 3 rfl (by kernel_rfl) (fun K hK => ?_)
              go_simp
              refine hK _ ?_; clear hK K
              refine reg_quiet 4 rfl (by kernel_rfl) (fun K hK => ?_)
              go_simp
              refine hK _ ?_; clear hK K
              refine reg_quiet 5 rfl (by kernel_rfl) (fun K hK => ?_)
              go_simp
              refine hK _ ?_; clear hK K
              refine reg_quiet 6 rfl (by kernel_rfl) (fun K hK => ?_)
              go_simp
              refine hK _ ?_; clear hK K
              refine reg_quiet 7 rfl (by kernel_rfl) (fun K hK => ?_)
              go_simp
              refine hK _ ?_; clear hK K
              refine reg_quiet 8 rfl (by kernel_rfl) (fun K hK => ?_)
              go_simp
              refine hK _ ?_; clear hK K
              refine reg_turn 9 [5, 4, 3] rfl (by kernel_rfl) (by kernel_rfl) (fun K hK => ?_)
              go_simp
              refine hK _ _ (StayOk.cons rfl (by go_simp) (StayOk.cons rfl (by go_simp) (StayOk.cons rfl (by go_simp) (StayOk.nil)))) ?_; clear hK K
              refine reg_quiet 10 rfl (by kernel_rfl) (fun K hK => ?_)
              go_simp
              refine hK _ ?_; clear hK K
              refine reg_turn 11 [] rfl (by kernel_rfl) (by kernel_rfl) (fun K hK => ?_)
              go_simp
              refine hK _ _ (StayOk.nil) ?_; clear hK K
              refine reg_done (by kernel_rfl) ?_
              go_wp2_with fail
              go_roundw
              case rel =>
                refine ⟨m + 1, by omega, by go_num, ?_, ?_⟩
                · exact Tab.put (Htab11.out.keep rfl rfl) (by simp) (by omega) ht3 fb Hx.out.2.2.2
                · exact (((Hkw9.out.trans ((Keeps.of_below Hb11.out).mono (T := fun b => b = w1.heap.size ∨ b = w1.heap.size + 1) (fun _ _ h => h.elim)) (fun _ _ h => h)).drew.drew).setCell (p := ⟨w1.heap.size + 1, tn, none⟩) (fun _ => Or.inr rfl) _).setCell (p := ⟨w1.heap.size, tn, none⟩) (fun _ => Or.inl rfl) _
              case measure => simp [intOf]; omega
            · obtain rfl : os = ⟨fb.toArray⟩ := by rw [← Hx.out.2.2.2]; exact (Ho3.out rfl).1
              refine wp_region_reg (by kernel_rfl) (by kernel_rfl) ?_
              refine reg_quiet 0 rfl (by kernel_rfl) (fun K hK => ?_)
              go_simp
              refine hK _ ?_; clear hK K
              refine reg_quiet 1 rfl (by kernel_rfl) (fun K hK => ?_)
              go_simp
              refine hK _ ?_; clear hK K
              refine reg_quiet 2 rfl (by kernel_rfl) (fun K hK => ?_)
              go_simp
              refine hK _ ?_; clear hK K
              refine reg_quiet 3 rfl (by kernel_rfl) (fun K hK => ?_)
              go_simp
              refine hK _ ?_; clear hK K
              refine reg_quiet 4 rfl (by kernel_rfl) (fun K hK => ?_)
              go_simp
              refine hK _ ?_; clear hK K
              refine reg_quiet 5 rfl (by kernel_rfl) (fun K hK => ?_)
              go_simp
              refine hK _ ?_; clear hK K
              refine reg_quiet 6 rfl (by kernel_rfl) (fun K hK => ?_)
              go_simp
              refine hK _ ?_; clear hK K
              refine reg_quiet 7 rfl (by kernel_rfl) (fun K hK => ?_)
              go_simp
              refine hK _ ?_; clear hK K
              refine reg_quiet 8 rfl (by kernel_rfl) (fun K hK => ?_)
              go_simp
              refine hK _ ?_; clear hK K
              refine reg_quiet 9 rfl (by kernel_rfl) (fun K hK => ?_)
              go_simp
              refine hK _ ?_; clear hK K
              refine reg_quiet 10 rfl (by kernel_rfl) (fun K hK => ?_)
              go_simp
              refine hK _ ?_; clear hK K
              refine reg_quiet 11 rfl (by kernel_rfl) (fun K hK => ?_)
              go_simp
              refine hK _ ?_; clear hK K
              refine reg_quiet 12 rfl (by kernel_rfl) (fun K hK => ?_)
              go_simp
              refine hK _ ?_; clear hK K
              refine reg_quiet 13 rfl (by kernel_rfl) (fun K hK => ?_)
              go_simp
              refine hK _ ?_; clear hK K
              refine reg_quiet 14 rfl (by kernel_rfl) (fun K hK => ?_)
              go_simp
              refine hK _ ?_; clear hK K
              refine reg_done (by kernel_rfl) ?_
              go_wp2_with fail
              refine wp_region_reg (by kernel_rfl) (by kernel_rfl) ?_
              refine reg_quiet 0 rfl (by kernel_rfl) (fun K hK => ?_)
              go_simp
              refine hK _ ?_; clear hK K
              refine reg_quiet 1 rfl (by kernel_rfl) (fun K hK => ?_)
              go_simp
              refine hK _ ?_; clear hK K
              refine reg_quiet 2 rfl (by kernel_rfl) (fun K hK => ?_)
              go_simp
              refine hK _ ?_; clear hK K
              refine reg_quiet 3 rfl (by kernel_rfl) (fun K hK => ?_)
              go_simp
              refine hK _ ?_; clear hK K
              refine reg_quiet 4 rfl (by kernel_rfl) (fun K hK => ?_)
              go_simp
              refine hK _ ?_; clear hK K
              refine reg_quiet 5 rfl (by kernel_rfl) (fun K hK => ?_)
              go_simp
              refine hK _ ?_; clear hK K
              refine reg_quiet 6 rfl (by kernel_rfl) (fun K hK => ?_)
              go_simp
              refine hK _ ?_; clear hK K
              refine reg_quiet 7 rfl (by kernel_rfl) (fun K hK => ?_)
              go_simp
              refine hK _ ?_; clear hK K
              refine reg_quiet 8 rfl (by kernel_rfl) (fun K hK => ?_)
              go_simp
              refine hK _ ?_; clear hK K
              refine reg_turn 9 [5, 4, 3] rfl (by kernel_rfl) (by kernel_rfl) (fun K hK => ?_)
              go_simp
              refine hK _ _ (StayOk.cons rfl (by go_simp) (StayOk.cons rfl (by go_simp) (StayOk.cons rfl (by go_simp) (StayOk.nil)))) ?_; clear hK K
              refine reg_quiet 10 rfl (by kernel_rfl) (fun K hK => ?_)
              go_simp
              refine hK _ ?_; clear hK K
              refine reg_turn 11 [] rfl (by kernel_rfl) (by kernel_rfl) (fun K hK => ?_)
              go_simp
              refine hK _ _ (StayOk.nil) ?_; clear hK K
              refine reg_done (by kernel_rfl) ?_
              go_wp2_with fail
              go_roundw
              case rel =>
                refine ⟨m + 1, by omega, by go_num, ?_, ?_⟩
                · exact Tab.put (Htab11.out.keep rfl rfl) (by simp) (by omega) ht3 fb Hx.out.2.2.2
                · exact (((Hkw9.out.trans ((Keeps.of_below Hb11.out).mono (T := fun b => b = w1.heap.size ∨ b = w1.heap.size + 1) (fun _ _ h => h.elim)) (fun _ _ h => h)).drew.drew).setCell (p := ⟨w1.heap.size + 1, tn, none⟩) (fun _ => Or.inr rfl) _).setCell (p := ⟨w1.heap.size, tn, none⟩) (fun _ => Or.inl rfl) _
              case measure => simp [intOf]; omega
          · obtain rfl : m = M := by omega
            go_wp2_with fail
            go_roundw
            case rel => exact ⟨j + 1, D6, H6, by omega, by go_num, R6.out.ti, R6.out.na, Htab.out, Hhas8.out.more (by omega), Hbel8.out⟩
            case measure => simp [intOf]; omega
      · have g7 : ((ch : Int) == 7) = false := by simp; omega
        have g8 : ((ch : Int) == 8) = false := by simp; omega
        go_wp2_with fail
        refine (lawdeed_at (N := fun n => n.length ≤ 120) R.out.has (by omega) ch h6 Xok.out.n hnn hnt xs1 xs2 Xbin.out xs3 (fun q _ hne hq => Or.inl (Hxb.out hne q hq)) x.what).mono ?_
        rintro e w6 ⟨r, D6, rfl, ht6, hh6, hk6⟩
        obtain ⟨H6, hr6⟩ := R.out.step ht6 hh6 hk6 (Nat.le_refl _)
        have R6 := Lib.hid hr6
        clear hr6 hh6 hk6 ht6 c0 c1 c2 c3 c4 c5
        go_wp2_with fail
        refine (has_names R6.out.has (by omega)).mono ?_
        rintro e w7 ⟨nv, rfl, hnl, hb7, hnb⟩
        obtain ⟨na, ncap, rfl⟩ : ∃ a cp, nv = .slice a D6.shown.length cp := by
          obtain ⟨a, cp, rfl, _⟩ := hnl
          exact ⟨a, cp, by rw [List.length_map]⟩
        obtain ⟨M, hM⟩ : ∃ M, D6.shown.length = M := ⟨_, rfl⟩
        have hMb : M ≤ 1000 := by
          have h1 := R6.out.has.bud.nf
          have h2 : D6.shown.length ≤ D6.files.length := by unfold PD.shown; split <;> simp
          omega
        rw [hM] at hnl hnb ⊢
        have htab7 : Tab w7 w1.heap.size (w1.heap.size + 1) H6 D6.clock := R6.out.tab.keep (hb7.block _ R6.out.tab.lt.1) (hb7.block _ R6.out.tab.lt.2)
        have hhas7 := (R6.out.has.below hb7).less (G := fun q => q < w.heap.size ∨ q = w1.heap.size ∨ q = w1.heap.size + 1) (fun q hq => Or.inl hq)
        have hbel7 : Below w.heap.size w w7 := R6.out.bel.trans (hb7.mono R6.out.bel.size)
        have hlt6 := R6.out.tab.lt
        have Hnl := Lib.hid hnl
        have Hnb := Lib.hid hnb
        have HM := Lib.hid hM
        have Htab7 := Lib.hid htab7
        have Hhas7 := Lib.hid hhas7
        have Hbel7 := Lib.hid hbel7
        clear hnl hnb hM htab7 hhas7 hbel7 hb7
        go_wp2_with fail
        go_loopw [10] (fun i wr2 => ∃ m : Nat, m ≤ M ∧ i = .int .i64 m ∧ Tab wr2 w1.heap.size (w1.heap.size + 1) H6 D6.clock ∧ Keeps (fun b => b = w1.heap.size ∨ b = w1.heap.size + 1) w7 wr2) (fun i _ => M - (intOf i).toNat)
        case atStart => exact ⟨0, Nat.zero_le _, rfl, Htab7.out, Keeps.refl _ _⟩
        case round =>
          obtain ⟨m, hmM, rfl, htab, hkw⟩ := hrel
          have hhas8 := Hhas7.out.keeps (hkw.mono fun q _ hq => Or.inr hq)
          have hbel8 : Below w.heap.size w _ := Hbel7.out.trans (hkw.below Hbel7.out.size fun q hq h => by have := Hsz.out; omega)
          have Htab := Lib.hid htab
          have Hkw := Lib.hid hkw
          have Hhas8 := Lib.hid hhas8
          have Hbel8 := Lib.hid hbel8
          clear htab hkw hhas8 hbel8
          by_cases hltm : m < M
          · have hms : m < D6.shown.length := by rw [HM.out]; exact hltm
            obtain ⟨_, _, hse, _, _, hnc⟩ := Hnl.out
            obtain ⟨nb, no, hna, hncell⟩ := hnc m (by rw [List.length_map]; exact hms)
            injection hse with e1 e2 e3
            subst e1 e3
            clear e2
            subst hna
            rw [List.getElem_map] at hncell
            obtain ⟨x, hxe⟩ : ∃ x, D6.shown[m] = x := ⟨_, rfl⟩
            have hxm : x ∈ D6.shown := hxe ▸ List.getElem_mem hms
            rw [hxe] at hncell
            have hnm := Hnb.out nb rfl
            have hncell2 := Hkw.out.cell hncell (fun hq => by omega)
            clear hxe hncell hnc
            have hdn : D6.down = false := by
              cases hd : D6.down with
              | false => rfl
              | true => unfold PD.shown at hxm; rw [hd] at hxm; cases hxm
            have hxf : x ∈ D6.files := by unfold PD.shown at hxm; rw [hdn] at hxm; exact hxm
            have hfind := find_of_mem R6.out.has.apart hxf
            obtain ⟨ht1, ht2, ht3⟩ := R6.out.ti.at_ x.2 (Or.inl ⟨x, hxf, rfl⟩)
            have hxl : x.1.length ≤ 120 := R6.out.na.f x hxf
            obtain ⟨⟨fb, fsu, ft⟩, hfe⟩ : ∃ f, D6.fs x.2 = f := ⟨_, rfl⟩
            rw [hfe] at ht1 ht2 ht3
            dsimp only at ht1 ht2 ht3
            have Hx := Lib.hid (And.intro hdn (And.intro hfind (And.intro hfe ht1)))
            clear hdn hxf hfind hfe ht1 hxm
            simp only [nameV, encStr] at hncell2
            go_wp2_with fail
            refine (has_read Hhas8.out ⟨x.1.toArray⟩ (by simp [ByteArray.size]; omega)).mono ?_
            rintro e w9 hr9
            rw [show bs ⟨x.1.toArray⟩ = x.1 by simp [bs]] at hr9
            have htab8 := Htab.out
            obtain ⟨rb, rc, rfl, hbo, hro, hb9⟩ := hr9.yes Hx.out.1 Hx.out.2.1 (b := fb) (by rw [Hx.out.2.2.1])
            have hhas9 := (Hhas8.out.below hb9).less (G := fun q => q < w.heap.size ∨ q = w1.heap.size ∨ q = w1.heap.size + 1) (fun q hq => Or.inl hq)
            have hbo9 : Bin w9 (.slice rb fb.length rc) fb := hbo.bin
            have htab9 := Htab.out.keep (hb9.block _ Htab.out.lt.1) (hb9.block _ Htab.out.lt.2)
            have hcell9 := (hb9.cell (p := ⟨nb, no + m, none⟩) (World.block_lt_of_cell? _ _ hncell2)).trans hncell2
            have hkw9 : Keeps (fun b => b = w1.heap.size ∨ b = w1.heap.size + 1) w7 w9 := Hkw.out.trans ((Keeps.of_below hb9).mono (T := fun b => b = w1.heap.size ∨ b = w1.heap.size + 1) (fun _ _ h => h.elim)) (fun _ _ h => h)
            have hbel9 : Below w.heap.size w w9 := Hbel8.out.trans (hb9.mono Hbel8.out.size)
            have Htab8 := Lib.hid htab8
            clear htab8
            have Hhas9 := Lib.hid hhas9
            have Hbo9 := Lib.hid hbo9
            have Htab9 := Lib.hid htab9
            have Hkw9 := Lib.hid hkw9
            have Hbel9 := Lib.hid hbel9
            clear hr9 hbo hb9 hhas9 hbo9 htab9 hkw9 hbel9 hncell2
            go_wp2_with fail
            refine (has_stat Hhas9.out ⟨x.1.toArray⟩ (by simp [ByteArray.size]; omega)).mono ?_
            rintro e w10 hs10
            rw [show bs ⟨x.1.toArray⟩ = x.1 by simp [bs]] at hs10
            obtain ⟨rfl, hb10⟩ := hs10.yes Hx.out.1 Hx.out.2.1 Hx.out.2.2.1
            dsimp only
            obtain ⟨w11, hw11⟩ : ∃ w11 : World, w10.alloc (.cells #[.int .i64 fb.length, .int .i64 ft] 36) = w11 := ⟨_, rfl⟩
            have hb11 : Below w9.heap.size w9 w11 := by rw [← hw11]; exact hb10.alloc hb10.size _
            have hx11 : w11.heap[w10.heap.size]? = some (.cells #[.int .i64 fb.length, .int .i64 ft] 36 (0, 0)) := by rw [← hw11]; exact heap_alloc_new w10 _
            have q1 : w11.cell? ⟨w10.heap.size, 1, none⟩ = some (.int .i64 ft) := by rw [cell_at hx11]; rfl
            have hs10z := hb10.size
            have hbel11 : Below w.heap.size w w11 := Hbel9.out.trans (hb11.mono Hbel9.out.size)
            have Hbel11 := Lib.hid hbel11
            have Hb11 := Lib.hid hb11
            have Hs10 := Lib.hid hs10z
            clear hs10 hb10 hb11 hx11 hbel11 hs10z hcell9
            have gt1 : decide (ft < 1) = false := by simp; omega
            by_cases hbig : 2000 ≤ ft
            · have gt2 : decide ((2000 : Int) ≤ ft) = true := by simp; omega
              go_wp2_with fail
              go_ret
              exact ⟨rfl, Hbel11.out⟩
            have gt2 : decide ((2000 : Int) ≤ ft) = false := by simp; omega
            obtain ⟨tn, rfl⟩ : ∃ tn : Nat, ft = tn := ⟨ft.toNat, by omega⟩
            have htab11 := Htab9.out.keep (Hb11.out.block _ Htab9.out.lt.1) (Hb11.out.block _ Htab9.out.lt.2)
            have Htab11 := Lib.hid htab11
            obtain ⟨C, B, tc, tb, tcs, tbs, tall⟩ := htab11
            obtain ⟨os, ob, o1, o2, o3⟩ := tall tn (by omega)
            have Ho3 := Lib.hid o3
            have q2 : w11.drew.cell? ⟨w1.heap.size, tn, none⟩ = some (.string os) := (cell_at tc).trans o1
            have q3 : w11.drew.cell? ⟨w1.heap.size + 1, tn, none⟩ = some (.bool ob) := (cell_at tb).trans o2
            have q4 : w11.drew.drew.frozen? ⟨w1.heap.size, tn, none⟩ = false := frozen_at tc
            have q5 : w11.drew.drew.frozen? ⟨w1.heap.size + 1, tn, none⟩ = false := frozen_at tb
            have q7 : (w11.drew.drew.setCell ⟨w1.heap.size + 1, tn, none⟩ (.bool true)).frozen? ⟨w1.heap.size, tn, none⟩ = false := frozen_at (heap_setCell_of tc (by simp) _)
            have q8 : ∃ u, w11.drew.drew.cell? ⟨w1.heap.size + 1, tn, none⟩ = some u := ⟨_, (cell_at tb).trans o2⟩
            have q9 : (w11.drew.drew.setCell ⟨w1.heap.size + 1, tn, none⟩ (.bool true)).cell? ⟨w1.heap.size, tn, none⟩ = some (.string os) := (cell_at (heap_setCell_of tc (by simp) _)).trans o1
            have q6 : w11.drew.drew.cell? ⟨w10.heap.size, 1, none⟩ = some (.int .i64 tn) := q1
            have qb : w11.drew.drew.cell? ⟨w1.heap.size + 1, tn, none⟩ = some (.bool ob) := q3
            have r1 : (w11.setCell ⟨w1.heap.size + 1, tn, none⟩ (.bool true)).cell? ⟨w10.heap.size, 1, none⟩ = some (.int .i64 tn) := (World.cell?_of_block (w := w11) (Below.heap_setCell _ _ _ _ (by have := Hs10.out; have := Htab9.out.lt.2; simp; omega))).trans q1
            have r2 : (w11.setCell ⟨w1.heap.size + 1, tn, none⟩ (.bool true)).frozen? ⟨w1.heap.size, tn, none⟩ = false := q7
            have r3 : (w11.setCell ⟨w1.heap.size + 1, tn, none⟩ (.bool true)).cell? ⟨w1.heap.size, tn, none⟩ = some (.string os) := q9
            clear tall o1 o2 o3 tc tb tcs tbs q8
            go_wp2_with fail
            have qa : w11.drew.cell? ⟨w10.heap.size, 1, none⟩ = some (.int .i64 tn) := q1
            clear q1
            have hbo11 : Bin w11 (.slice rb fb.length rc) fb := Hbo9.out.keep fun q _ hq => Hb11.out.block q hq
            have hcv1 := (hbo11.keep (w' := w11.drew) fun _ _ _ => rfl).str
            have hcv2 := (hbo11.keep (w' := w11.drew.drew) fun _ _ _ => rfl).str
            have hcv3 := (hbo11.keep (w' := (w11.setCell ⟨w1.heap.size + 1, tn, none⟩ (.bool true)).drew.drew) fun q hq _ => Below.heap_setCell _ _ _ _ (by
              have hrq := hro q hq
              have := Htab8.out.lt.2
              simp; omega)).str
            clear hbo11
            cases ob
            · skip
              refine wp_region_reg (by kernel_rfl) (by kernel_rfl) ?_
              refine reg_quiet 0 rfl (by kernel_rfl) (fun K hK => ?_)
              go_simp
              refine hK _ ?_; clear hK K
              refine reg_quiet 1 rfl (by kernel_rfl) (fun K hK => ?_)
              go_simp
              refine hK _ ?_; clear hK K
              refine reg_quiet 2 rfl (by kernel_rfl) (fun K hK => ?_)
              go_simp
              refine hK _ ?_; clear hK K
              refine reg_quiet 3 rfl (by kernel_rfl) (fun K hK => ?_)
              go_simp
              refine hK _ ?_; clear hK K
              refine reg_quiet 4 rfl (by kernel_rfl) (fun K hK => ?_)
              go_simp
              refine hK _ ?_; clear hK K
              refine reg_quiet 5 rfl (by kernel_rfl) (fun K hK => ?_)
              go_simp
              refine hK _ ?_; clear hK K
              refine reg_quiet 6 rfl (by kernel_rfl) (fun K hK => ?_)
              go_simp
              refine hK _ ?_; clear hK K
              refine reg_quiet 7 rfl (by kernel_rfl) (fun K hK => ?_)
              go_simp
              refine hK _ ?_; clear hK K
              refine reg_quiet 8 rfl (by kernel_rfl) (fun K hK => ?_)
              go_simp
              refine hK _ ?_; clear hK K
              refine reg_quiet 9 rfl (by kernel_rfl) (fun K hK => ?_)
              go_simp
              refine hK _ ?_; clear hK K
              refine reg_quiet 10 rfl (by kernel_rfl) (fun K hK => ?_)
              go_simp
              refine hK _ ?_; clear hK K
              refine reg_quiet 11 rfl (by kernel_rfl) (fun K hK => ?_)
              go_simp
              refine hK _ ?_; clear hK K
              refine reg_quiet 12 rfl (by kernel_rfl) (fun K hK => ?_)
              go_simp
              refine hK _ ?_; clear hK K
              refine reg_quiet 13 rfl (by kernel_rfl) (fun K hK => ?_)
              go_simp
              refine hK _ ?_; clear hK K
              refine reg_quiet 14 rfl (by kernel_rfl) (fun K hK => ?_)
              go_simp
              refine hK _ ?_; clear hK K
              refine reg_done (by kernel_rfl) ?_
              go_wp2_with fail
              refine wp_region_reg (by kernel_rfl) (by kernel_rfl) ?_
              refine reg_quiet 0 rfl (by kernel_rfl) (fun K hK => ?_)
              go_simp
              refine hK _ ?_; clear hK K
              refine reg_quiet 1 rfl (by kernel_rfl) (fun K hK => ?_)
              go_simp
              refine hK _ ?_; clear hK K
              refine reg_quiet 2 rfl (by kernel_rfl) (fun K hK => ?_)
              go_simp
              refine hK _ ?_; clear hK K
              refine reg_quiet 3 rfl (by kernel_rfl) (fun K hK => ?_)
              go_simp
              refine hK _ ?_; clear hK K
              refine reg_quiet 4 rfl (by kernel_rfl) (fun K hK => ?_)
              go_simp
              refine hK _ ?_; clear hK K
              refine reg_quiet 5 rfl (by kernel_rfl) (fun K hK => ?_)
              go_simp
              refine hK _ ?_; clear hK K
              refine reg_quiet 6 rfl (by kernel_rfl) (fun K hK => ?_)
              go_simp
              refine hK _ ?_; clear hK K
              refine reg_quiet 7 rfl (by kernel_rfl) (fun K hK => ?_)
              go_simp
              refine hK _ ?_; clear hK K
              refine reg_quiet 8 rfl (by kernel_rfl) (fun K hK => ?_)
              go_simp
              refine hK _ ?_; clear hK K
              refine reg_turn 9 [5, 4, 3] rfl (by kernel_rfl) (by kernel_rfl) (fun K hK => ?_)
              go_simp
              refine hK _ _ (StayOk.cons rfl (by go_simp) (StayOk.cons rfl (by go_simp) (StayOk.cons rfl (by go_simp) (StayOk.nil)))) ?_; clear hK K
              refine reg_quiet 10 rfl (by kernel_rfl) (fun K hK => ?_)
              go_simp
              refine hK _ ?_; clear hK K
              refine reg_turn 11 [] rfl (by kernel_rfl) (by kernel_rfl) (fun K hK => ?_)
              go_simp
              refine hK _ _ (StayOk.nil) ?_; clear hK K
              refine reg_done (by kernel_rfl) ?_
              go_wp2_with fail
              go_roundw
              case rel =>
                refine ⟨m + 1, by omega, by go_num, ?_, ?_⟩
                · exact Tab.put (Htab11.out.keep rfl rfl) (by simp) (by omega) ht3 fb Hx.out.2.2.2
                · exact (((Hkw9.out.trans ((Keeps.of_below Hb11.out).mono (T := fun b => b = w1.heap.size ∨ b = w1.heap.size + 1) (fun _ _ h => h.elim)) (fun _ _ h => h)).drew.drew).setCell (p := ⟨w1.heap.size + 1, tn, none⟩) (fun _ => Or.inr rfl) _).setCell (p := ⟨w1.heap.size, tn, none⟩) (fun _ => Or.inl rfl) _
              case measure => simp [intOf]; omega
            · obtain rfl : os = ⟨fb.toArray⟩ := by rw [← Hx.out.2.2.2]; exact (Ho3.out rfl).1
              refine wp_region_reg (by kernel_rfl) (by kernel_rfl) ?_
              refine reg_quiet 0 rfl (by kernel_rfl) (fun K hK => ?_)
              go_simp
              refine hK _ ?_; clear hK K
              refine reg_quiet 1 rfl (by kernel_rfl) (fun K hK => ?_)
              go_simp
              refine hK _ ?_; clear hK K
              refine reg_quiet 2 rfl (by kernel_rfl) (fun K hK => ?_)
              go_simp
              refine hK _ ?_; clear hK K
              refine reg_quiet 3 rfl (by kernel_rfl) (fun K hK => ?_)
              go_simp
              refine hK _ ?_; clear hK K
              refine reg_quiet 4 rfl (by kernel_rfl) (fun K hK => ?_)
              go_simp
              refine hK _ ?_; clear hK K
              refine reg_quiet 5 rfl (by kernel_rfl) (fun K hK => ?_)
              go_simp
              refine hK _ ?_; clear hK K
              refine reg_quiet 6 rfl (by kernel_rfl) (fun K hK => ?_)
              go_simp
              refine hK _ ?_; clear hK K
              refine reg_quiet 7 rfl (by kernel_rfl) (fun K hK => ?_)
              go_simp
              refine hK _ ?_; clear hK K
              refine reg_quiet 8 rfl (by kernel_rfl) (fun K hK => ?_)
              go_simp
              refine hK _ ?_; clear hK K
              refine reg_quiet 9 rfl (by kernel_rfl) (fun K hK => ?_)
              go_simp
              refine hK _ ?_; clear hK K
              refine reg_quiet 10 rfl (by kernel_rfl) (fun K hK => ?_)
              go_simp
              refine hK _ ?_; clear hK K
              refine reg_quiet 11 rfl (by kernel_rfl) (fun K hK => ?_)
              go_simp
              refine hK _ ?_; clear hK K
              refine reg_quiet 12 rfl (by kernel_rfl) (fun K hK => ?_)
              go_simp
              refine hK _ ?_; clear hK K
              refine reg_quiet 13 rfl (by kernel_rfl) (fun K hK => ?_)
              go_simp
              refine hK _ ?_; clear hK K
              refine reg_quiet 14 rfl (by kernel_rfl) (fun K hK => ?_)
              go_simp
              refine hK _ ?_; clear hK K
              refine reg_done (by kernel_rfl) ?_
              go_wp2_with fail
              refine wp_region_reg (by kernel_rfl) (by kernel_rfl) ?_
              refine reg_quiet 0 rfl (by kernel_rfl) (fun K hK => ?_)
              go_simp
              refine hK _ ?_; clear hK K
              refine reg_quiet 1 rfl (by kernel_rfl) (fun K hK => ?_)
              go_simp
              refine hK _ ?_; clear hK K
              refine reg_quiet 2 rfl (by kernel_rfl) (fun K hK => ?_)
              go_simp
              refine hK _ ?_; clear hK K
              refine reg_quiet 3 rfl (by kernel_rfl) (fun K hK => ?_)
              go_simp
              refine hK _ ?_; clear hK K
              refine reg_quiet 4 rfl (by kernel_rfl) (fun K hK => ?_)
              go_simp
              refine hK _ ?_; clear hK K
              refine reg_quiet 5 rfl (by kernel_rfl) (fun K hK => ?_)
              go_simp
              refine hK _ ?_; clear hK K
              refine reg_quiet 6 rfl (by kernel_rfl) (fun K hK => ?_)
              go_simp
              refine hK _ ?_; clear hK K
              refine reg_quiet 7 rfl (by kernel_rfl) (fun K hK => ?_)
              go_simp
              refine hK _ ?_; clear hK K
              refine reg_quiet 8 rfl (by kernel_rfl) (fun K hK => ?_)
              go_simp
              refine hK _ ?_; clear hK K
              refine reg_turn 9 [5, 4, 3] rfl (by kernel_rfl) (by kernel_rfl) (fun K hK => ?_)
              go_simp
              refine hK _ _ (StayOk.cons rfl (by go_simp) (StayOk.cons rfl (by go_simp) (StayOk.cons rfl (by go_simp) (StayOk.nil)))) ?_; clear hK K
              refine reg_quiet 10 rfl (by kernel_rfl) (fun K hK => ?_)
              go_simp
              refine hK _ ?_; clear hK K
              refine reg_turn 11 [] rfl (by kernel_rfl) (by kernel_rfl) (fun K hK => ?_)
              go_simp
              refine hK _ _ (StayOk.nil) ?_; clear hK K
              refine reg_done (by kernel_rfl) ?_
              go_wp2_with fail
              go_roundw
              case rel =>
                refine ⟨m + 1, by omega, by go_num, ?_, ?_⟩
                · exact Tab.put (Htab11.out.keep rfl rfl) (by simp) (by omega) ht3 fb Hx.out.2.2.2
                · exact (((Hkw9.out.trans ((Keeps.of_below Hb11.out).mono (T := fun b => b = w1.heap.size ∨ b = w1.heap.size + 1) (fun _ _ h => h.elim)) (fun _ _ h => h)).drew.drew).setCell (p := ⟨w1.heap.size + 1, tn, none⟩) (fun _ => Or.inr rfl) _).setCell (p := ⟨w1.heap.size, tn, none⟩) (fun _ => Or.inl rfl) _
              case measure => simp [intOf]; omega
          · obtain rfl : m = M := by omega
            go_wp2_with fail
            go_roundw
            case rel => exact ⟨j + 1, D6, H6, by omega, by go_num, R6.out.ti, R6.out.na, Htab.out, Hhas8.out.more (by omega), Hbel8.out⟩
            case measure => simp [intOf]; omega
    · go_wp2_with fail
      refine (awake4_at wr).mono ?_
      rintro e w6 ⟨rfl, hb6⟩
      go_wp2_with fail
      go_ret
      exact ⟨rfl, R.out.bel.trans (hb6.mono R.out.bel.size)⟩
end Go.Proofs.YtbckbkcpfejllaaGreatDoor
