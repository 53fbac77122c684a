/- ReclogSpare: a spare file that a crash left is gone behind the next opening; the log is as it was: the walk. -/
import Derived.Test.YtbckbkcpfejllaaGreatDoorRb
namespace Go.Proofs.YtbckbkcpfejllaaGreatDoor
open Go.RowKit Go.Maps Go.WideMaps

/-- The file of a log is p, with the records of A, of which s are sure; whatever else there is. -/
structure LogY (n : Bs) (k : UInt8) (files su : Dir) (pe : List Chg) (fs : Nat → PF) (A : List Bs) (s p : Nat) : Prop where
  cons : files = dirs su pe pe.length
  at_ : Dir.find files n = some p
  b : (fs p).b = fileP k A
  may : ∀ t, Dir.find (dirs su pe t) n = some p ∨ (Dir.find (dirs su pe t) n = none ∧ s = 0)
  sure : s = 0 ∨ (fileP k (A.take s)).length ≤ (fs p).sure
  le : s ≤ A.length
abbrev LogZ (n : Bs) (k : UInt8) (D : PD) (A : List Bs) (s : Nat) : Prop := ∃ p, LogY n k D.files D.sure D.pend D.fs A s p
section
variable {k : UInt8} {D : PD} {A : List Bs} {s : Nat} {name spare : ByteArray}
theorem LogS.z {n n' : Bs} (h : LogS n n' k D A s) : LogZ n k D A s := by
  obtain ⟨p, h⟩ := h
  exact ⟨p, h.cons, h.at_, h.b, h.may, h.sure, h.le⟩
theorem LogZ.weak {n : Bs} (h : LogZ n k D A s) (O : List Bs) : LogM n k D A s O := by
  obtain ⟨p, h⟩ := h
  refine ⟨h.le, fun t => ?_⟩
  rcases h.may t with e | ⟨e, h0⟩
  · rw [e]; exact Or.inl ⟨h.b, h.sure⟩
  · rw [e]; exact h0
/-- Another name is turned. -/
theorem LogZ.turns {n : Bs} (h : LogZ n k D A s) (c : Chg) (hc : ∀ l, Dir.find (c.does l) n = Dir.find l n) : LogZ n k (D.turns c) A s := by
  obtain ⟨p, h⟩ := h
  refine ⟨p, ?_, (hc D.files).trans h.at_, h.b, fun t => ?_, h.sure, h.le⟩
  · show Chg.does _ D.files = dirs D.sure (D.pend ++ [_]) (D.pend ++ [_]).length
    rw [dirs_snoc, if_neg (by rw [List.length_append, List.length_singleton]; omega), ← h.cons]
  · show Dir.find (dirs D.sure (D.pend ++ [_]) t) _ = some p ∨ (Dir.find (dirs D.sure (D.pend ++ [_]) t) _ = none ∧ s = 0)
    rw [dirs_snoc]
    split
    · exact h.may t
    · rw [hc]; exact h.may _
theorem LogZ.setNew {n : Bs} (h : LogZ n k D A s) {q : Nat} (hq : ¬ D.has q) (f : PF) : LogZ n k ((D.tick).setF q f) A s := by
  obtain ⟨p, h⟩ := h
  have hp : p ≠ q := fun e => hq (e ▸ has_find h.at_)
  exact ⟨p, h.cons, h.at_, by show (upd D.fs q _ p).b = _; rw [upd_other _ hp]; exact h.b, h.may, by show _ ∨ _ ≤ (upd D.fs q _ p).sure; rw [upd_other _ hp]; exact h.sure, h.le⟩
theorem LogZ.syncDir {n : Bs} (h : LogZ n k D A s) : LogZ n k (D.syncDir).2 A s := by
  obtain ⟨p, h⟩ := h
  exact ⟨p, by show D.files = dirs D.files [] _; rw [dirs_nil], h.at_, h.b, fun t => Or.inl (by show Dir.find (dirs D.files [] t) _ = _; rw [dirs_nil]; exact h.at_), h.sure, h.le⟩
theorem LogZ.fresh (h : LogZ (bs name) k D A s) (hs : isE spare = false) (hne : bs name ≠ bs spare) {q : Nat} (hq : ¬ D.has q) (b : Bs) : LogZ (bs name) k (D.fresh spare b q).2 A s := by
  unfold PD.fresh
  split
  · exact LogZ.turns (D := (D.tick).setF q ⟨b, 0, D.clock⟩) (h.setNew hq _) _ fun l => by rw [find_new hs, if_neg hne]
  · exact h
/-- Opened anew, whatever comes of it. -/
theorem LogZ.open (h : LogZ (bs name) k D A s) (hs : isE spare = false) (hne : bs name ≠ bs spare) (rs : rightP spare = true) (hA : ∀ x ∈ A, x.length ≤ 4096) (q : Nat) : LogZ (bs name) k (logOpenP D name spare k q).2 A s := by
  unfold logOpenP
  split
  · exact h
  · have fix : ∀ D1 : PD, LogZ (bs name) k D1 A s → LogZ (bs name) k (fixP D1 name k q).2 A s := by
      rintro D1 ⟨p, h1⟩
      have er : readP D1 (bs name) = fileP k A := by unfold readP; rw [h1.at_]; exact h1.b
      unfold fixP
      rw [er, scanP_file k A hA]
      dsimp only
      rw [if_neg (by decide), if_neg (by rw [len_fileP]; omega), if_neg (Nat.lt_irrefl _)]
      exact ⟨p, h1⟩
    have sp : LogZ (bs name) k (spareP D spare).2 A s := by
      unfold spareP
      split
      · rw [rs]
        rcases deed_cases D (fun D' => D'.remove spare) with e | e
        · rw [e]
          unfold PD.remove
          split
          · exact h
          · exact LogZ.turns (D := D.counted) h _ fun l => by rw [find_gone hs, if_neg hne]
        · rw [e]; exact h
      · exact h
    unfold andThen
    split
    · exact fix _ sp
    · exact sp
end
theorem sp_reopen {F : Nat → Prop} {d m : Nat} {w : World} {k : UInt8} {D : PD} {A : List Bs} (h : LogZ (bs nL) k D A A.length) (hf : Few nLN D) {dir : Int} {tails : List Int} (hh : Has F d w (D.restart dir tails) m) (hm : m ≤ 100000) (hA : ∀ x ∈ A, x.length ≤ 4096) (q : Nat) :
    ∃ D', logOpenP (D.restart dir tails) nL nN k q = (0, D') ∧ openGot (D.restart dir tails) nL nN k = A ∧ Up D' ∧ OpenS (bs nL) (bs nN) k D' A := by
  have hr := (LogZ.weak h A).restart dir tails
  obtain ⟨D', e, h1, h2, h3⟩ := Rst.open (N := nLN) (spare := nN) isE_nL isE_nN ne_nL right_nL right_nN (by decide) hr hA hA (few_restart hf dir tails) (hh.short hm) q
  have hg : openGot (D.restart dir tails) nL nN k = A := by
    rcases h3 with ⟨j, j1, j2, e⟩ | e
    · rw [e]; exact List.take_of_length_le j1
    · exact e
  rw [hg] at h1
  exact ⟨D', e, hg, h2, h1⟩
/-- A log on a disk, its records all sure. -/
def SpI (D : PD) (l : List Bs) : Prop := LogZ (bs nL) 3 D l l.length ∧ Few nLN D
theorem sp_write {F : Nat → Prop} {d m : Nat} {w : World} {D : PD} {l : List Bs} {s : Nat} (h : LU 3 D l l.length) (_hs : s = l.length) (hh : Has F d w D m) (hm : m ≤ 100000) (b : Bs) (hb : b.length ≤ 500) (q : Nat) (hq : ¬ D.has q) :
    (D.deed (rightP nN) fun D' => D'.fresh nN b q).1 = 0 ∧ SpI (D.deed (rightP nN) fun D' => D'.fresh nN b q).2 l ∧ Up (D.deed (rightP nN) fun D' => D'.fresh nN b q).2 := by
  have hu := h.up.did (r := rightP nN) fun D => fl_fresh D nN b q
  have hw : Few nLN (D.deed (rightP nN) fun D' => D'.fresh nN b q).2 := h.few.did fun h => few_fresh h ms_nN _ _
  have hf : D.counted.fits (bs nN) b.length = 0 := h.few.counted.fits (by decide) (hh.short hm) _ (by omega)
  rw [right_nN, h.up.deed] at hu hw ⊢
  refine ⟨by rw [PD.fresh, if_pos hf], ⟨LogZ.fresh (D := D.counted) h.st.z isE_nN ne_nL hq b, hw⟩, hu⟩
theorem sp_syncDir {D : PD} {l : List Bs} (h : SpI D l) (hu : Up D) : (D.deed true fun D' => D'.syncDir).1 = 0 ∧ SpI (D.deed true fun D' => D'.syncDir).2 l := by
  have hw : Few nLN (D.deed true fun D' => D'.syncDir).2 := h.2.did fun h => few_syncDir h
  rw [hu.deed] at hw ⊢
  exact ⟨rfl, LogZ.syncDir (D := D.counted) h.1, hw⟩
set_option maxRecDepth 100000 in
set_option maxHeartbeats 2000000 in
theorem spare_at (w : World) {v1 v2 : Value} {l : List Bs} {b : Bs} (h1 : RecsIn w v1 l) (h2 : Bin w v2 b) (a : Nat) (ha : a < 256) :
    Calls Tryz.prog 6 #[v1, v2, .int .u8 a] w fun e w' => e = .returned (.bool true) ∧ Below w.heap.size w w' := by
  obtain ⟨xa, xc, rfl⟩ : ∃ a c, v1 = .slice a l.length c := by obtain ⟨vs, ⟨a, c, e, _⟩, hv, _⟩ := h1; exact ⟨a, c, by rw [e, hv]⟩
  obtain ⟨ya, yc, rfl⟩ : ∃ a c, v2 = .slice a b.length c := by obtain ⟨a, c, e, _⟩ := h2; exact ⟨a, c, e⟩
  have H1 := Lib.hid h1
  have H2 := Lib.hid h2
  clear h1 h2
  go_enter Tryz.func6, Tryz.ntmps6
  go_wp2_with fail
  refine (light5_at H1.out).mono ?_
  rintro e0 w1 ⟨hl | rfl, rfl⟩
  case inr =>
    go_wp2_with fail
    go_ret
    exact ⟨rfl, Below.refl _ w⟩
  obtain ⟨rfl, hl⟩ := hl
  have HL := Lib.hid hl
  have hln : l.length ≤ 30 := hl.1
  have hlx : ∀ x ∈ l, x.length ≤ 4096 := fun x hx => by have := hl.2 x hx; omega
  clear hl
  by_cases hb5 : 500 < b.length
  · go_wp2_with fail
    go_ret
    exact ⟨rfl, Below.refl _ w⟩
  go_wp2_with fail
  refine (has_new 1048576 (by omega) (by omega) w).mono ?_
  rintro e0 w3 ⟨rfl, h3, hb3⟩
  obtain ⟨d, hd⟩ : ∃ d, w.heap.size + 2 = d := ⟨_, rfl⟩
  rw [hd] at h3 ⊢
  have H3 := Lib.hid h3
  have Hb3 := Lib.hid hb3
  clear h3 hb3 hd
  go_wp2_with fail
  refine (log_open H3.out (by omega) nL (by decide) 3).mono ?_
  rintro e0 w4 ⟨c, q, pv, v', G, rfl, hq, hc, h4, hG, hk4, _, hok⟩
  rw [spare_nL] at hq hc h4 hok
  obtain ⟨D4, e4, hu4, _⟩ := logU_new (N := nLN) (k := 3) (spare := nN) isE_nL ne_nL right_nL ms_nL 1048576 (by decide) q
  rw [e4] at hc h4
  obtain rfl : c = 0 := hc
  obtain ⟨p, rfl, _, hp4, hGp, _, _⟩ := hok rfl
  have H4 := Lib.hid (show Lgd w d p nL 3 G w4 D4 4 from ⟨h4, hG, hGp, hp4, below_kept Hb3.out (Nat.le_refl _) hk4 fun b hb => hb⟩)
  have HU := Lib.hid (show LU 3 D4 [] 0 from hu4)
  clear hq h4 hG hk4 hok hp4 hGp e4 hu4
  go_wp2_with fail
  refine (log_rewrite H4.out.has (by omega) H4.out.log H4.out.gp (by decide) (H1.out.below H4.out.below) (by omega) hlx).mono ?_
  rintro e0 w9 ⟨c, D9, rfl, ⟨q9, hq9, hc9⟩, h9, hk9⟩
  rw [spare_nL] at hc9
  obtain ⟨D9', e9, hu9⟩ := lu_rewrite HU.out H4.out.has (by omega) l (by have := light_frames HL.out l.length; rw [List.take_length] at this; omega) q9 hq9
  rw [e9] at hc9
  obtain ⟨rfl, rfl⟩ := Prod.mk.inj hc9
  have H9 := Lib.hid (And.intro (H4.out.did h9 hk9) hu9)
  clear h9 hk9 hq9 hc9 e9 hu9
  go_wp2_with fail
  refine (told_write (R := fun c D' => c = 0 ∧ SpI D' l ∧ Up D') H9.out.1.has (by omega) nN (by decide) (H2.out.keep fun q _ hq => H9.out.1.below.block q hq) (by omega) (fun hne q hq => H9.out.1.low q (H2.out.lt hne q hq)) (fun q hq => sp_write H9.out.2 rfl H9.out.1.has (by omega) b (by omega) q hq)).mono ?_
  rintro e0 w10 ⟨c, D10, rfl, ⟨rfl, hs10, hu10⟩, h10, hk10⟩
  have H10 := Lib.hid (And.intro (H9.out.1.did h10 hk10) (And.intro hs10 hu10))
  clear h10 hk10 hs10 hu10
  go_wp2_with fail
  refine (told_syncDir (R := fun c D' => c = 0 ∧ SpI D' l) H10.out.1.has (by omega) (sp_syncDir H10.out.2.1 H10.out.2.2)).mono ?_
  rintro e0 w11 ⟨c, D11, rfl, ⟨rfl, hs11⟩, h11, hk11⟩
  have H11 := Lib.hid (And.intro (H10.out.1.did h11 hk11) hs11)
  clear h11 hk11 hs11
  go_wp2_with fail
  refine (done_arm H11.out.1.has (by omega) _ (by omega)).mono ?_
  rintro e0 w12 ⟨rfl, h12, hk12⟩
  have H12 := Lib.hid (And.intro (H11.out.1.did h12 hk12) (show SpI { D11 with armed := max ((a : Int) % 3) (-1) } l from ⟨H11.out.2.1, few_arm H11.out.2.2 _⟩))
  clear h12 hk12
  go_wp2_with fail
  refine (log_open H12.out.1.has (by omega) nL (by decide) 3).mono ?_
  rintro e0 w13 ⟨c13, q13, pv13, v13, G13, rfl, _, _, h13, hG13, hk13, _, _⟩
  rw [spare_nL] at h13
  have H13 := Lib.hid (And.intro (H12.out.1.did (h13.less hG13) hk13) (show SpI _ l from ⟨LogZ.open H12.out.2.1 isE_nN ne_nL right_nN hlx q13, few_opens H12.out.2.2 ms_nL nN 3 q13⟩))
  clear h13 hG13 hk13
  go_wp2_with fail
  refine (done_restart (tails := []) H13.out.1.has (by omega) (by omega) (by omega) (Lst.nil _) (by simp) (by simp) (fun h => absurd rfl h)).mono ?_
  rintro e0 w14 ⟨rfl, h14, hk14⟩
  have H14 := Lib.hid (H13.out.1.did h14 hk14)
  clear h14 hk14
  go_wp2_with fail
  refine (log_open H14.out.has (by omega) nL (by decide) 3).mono ?_
  rintro e0 w15 ⟨c, q15, pv, v15, G15, rfl, _, hc, h15, hG15, hk15, _, hok⟩
  rw [spare_nL] at hc h15 hok
  obtain ⟨D15, e15, hg15, hu15, ho15⟩ := sp_reopen H13.out.2.1 H13.out.2.2 H14.out.has (by omega) hlx q15
  rw [e15] at hc h15
  obtain rfl : c = 0 := hc
  obtain ⟨p15, rfl, _, _, _, hrg, _⟩ := hok rfl
  rw [hg15] at hrg
  have hb15 : Below w.heap.size w w15 := below_kept H14.out.below (Nat.le_refl _) hk15 H14.out.low
  have hsp : Dir.find D15.files (bs nN) = none := by obtain ⟨_, h⟩ := ho15; exact h.spare
  have H15 := Lib.hid (And.intro hrg.recsIn (And.intro hb15 (And.intro h15 (And.intro hu15.1 hsp))))
  clear h15 hG15 hk15 hok hrg hb15 e15 hg15 hu15 ho15 hsp
  go_wp2_with fail
  refine (has_stat H15.out.2.2.1 nN (by decide)).mono ?_
  rintro e0 w16 hst
  obtain ⟨rfl, hb16⟩ := hst.no H15.out.2.2.2.1 H15.out.2.2.2.2
  have hba : Below w15.heap.size w15 (w16.alloc (.cells #[.int .i64 0, .int .i64 0] 36)) := hb16.alloc hb16.size _
  have hbw : Below w.heap.size w (w16.alloc (.cells #[.int .i64 0, .int .i64 0] 36)) := H15.out.2.1.trans (hba.mono H15.out.2.1.size)
  have H16 := Lib.hid (And.intro (H15.out.1.below hba) (And.intro (H1.out.below hbw) hbw))
  clear hst hb16 hba hbw
  go_wp2_with fail
  refine (same5_at H16.out.1 H16.out.2.1 (by omega)).mono ?_
  rintro e0 w17 ⟨rfl, hb17⟩
  rw [decide_eq_true (rfl : l = l)]
  have H17 := Lib.hid (H16.out.2.2.trans (hb17.mono H16.out.2.2.size))
  clear hb17
  go_wp2_with fail
  refine (awake5_at w17).mono ?_
  rintro e0 w18 ⟨rfl, hb18⟩
  have H18 := Lib.hid (H17.out.trans (hb18.mono H17.out.size))
  clear hb18
  go_wp2_with fail
  go_ret
  exact ⟨rfl, H18.out⟩
end Go.Proofs.YtbckbkcpfejllaaGreatDoor
