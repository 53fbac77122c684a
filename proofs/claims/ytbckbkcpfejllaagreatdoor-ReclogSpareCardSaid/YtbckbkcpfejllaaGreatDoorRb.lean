/- ReclogRewrites: what is rewritten is there, and sure: the walk. -/
import Derived.Test.YtbckbkcpfejllaaGreatDoorLt
namespace Go.Proofs.YtbckbkcpfejllaaGreatDoor
open Go.RowKit Go.Maps Go.WideMaps

abbrev nLN : List Bs := [bs nL, bs nN]
theorem ms_nL : bs nL ∈ nLN := by simp
theorem ms_nN : bs nN ∈ nLN := by simp
abbrev LU (k : UInt8) (D : PD) (A : List Bs) (s : Nat) : Prop := LogU nLN nL nN k D A s
theorem lu_append {F : Nat → Prop} {d m : Nat} {w : World} {k : UInt8} {D : PD} {A : List Bs} {s : Nat} (h : LU k D A s) (hh : Has F d w D m) (hm : m ≤ 100000) (r : Bs) (hl : (framesL A).length + r.length ≤ 60000) (q : Nat) :
    (D.deed (rightP nL) fun D' => D'.append nL (frameP r) q).1 = 0 ∧ LU k (D.deed (rightP nL) fun D' => D'.append nL (frameP r) q).2 (A ++ [r]) s := by
  obtain ⟨D', e, h'⟩ := LogU.append (by decide) right_nL ms_nL h (hh.short hm) r (by rw [len_fileP, len_frameP]; omega) q
  rw [e]
  exact ⟨rfl, h'⟩
theorem lu_rewrite {F : Nat → Prop} {d m : Nat} {w : World} {k : UInt8} {D : PD} {A : List Bs} {s : Nat} (h : LU k D A s) (hh : Has F d w D m) (hm : m ≤ 100000) (O : List Bs) (hl : (framesL O).length ≤ 60000) (q : Nat) (hq : ¬ D.has q) :
    ∃ D', logRewriteP D nL nN (fileP k O) q = (0, D') ∧ LU k D' O O.length :=
  LogU.rewrite (by decide) isE_nL isE_nN ne_nL right_nL right_nN ms_nL ms_nN h (hh.short hm) O (by rw [len_fileP]; omega) q hq
/-- Behind a restart it has all that were sure. -/
theorem lu_reopen {F : Nat → Prop} {d m : Nat} {w : World} {k : UInt8} {D : PD} {A : List Bs} (h : LU k D A A.length) {dir : Int} {tails : List Int} (hh : Has F d w (D.restart dir tails) m) (hm : m ≤ 100000) (hA : ∀ x ∈ A, x.length ≤ 4096) (q : Nat) :
    ∃ D', logOpenP (D.restart dir tails) nL nN k q = (0, D') ∧ openGot (D.restart dir tails) nL nN k = A ∧ Up D' ∧ OpenS (bs nL) (bs nN) k D' A := by
  have hr := (LogS.weak h.st A).restart dir tails
  obtain ⟨D', e, h1, h2, h3⟩ := Rst.open (N := nLN) (spare := nN) isE_nL isE_nN ne_nL right_nL right_nN (by decide) hr hA hA (few_restart h.few dir tails) (hh.short hm) q
  have hg : openGot (D.restart dir tails) nL nN k = A := by
    rcases h3 with ⟨j, j1, j2, e⟩ | e
    · rw [e]; exact List.take_of_length_le j1
    · exact e
  rw [hg] at h1
  exact ⟨D', e, hg, h2, h1⟩
def bigB : Bs := List.replicate 4097 0
def bigO : Obj := .cells (madeCells #[.int .u8 0] 4097) 5 (0, 0)
theorem len_bigB : bigB.length = 4097 := List.length_replicate ..
theorem info_byte : (Tryz.prog.info? 5).map (fun i => (i.zero, i.size, i.bytes)) = some (some (.int .u8 0), 1, 1) := by kernel_rfl
theorem big_run (w : World) : (Instr.makeSlice 23 (.int .i64 4097) (.int .i64 4097)).run Tryz.prog w = .ok (.slice (some ⟨w.heap.size, 0, none⟩) 4097 4097) (w.alloc bigO) := by
  obtain ⟨i, hi, h0, h1, h2⟩ := info_parts info_byte
  have h := run_make (P := Tryz.prog) w 23 5 i (.int .u8 0) Tryz.underlying23 hi h0 .i64 .i64 4097 4097 (by decide) (by decide) (by rw [h2]; decide) (by decide)
  rw [h1, show ((4097 : Int).toNat * 1) = 4097 from rfl, show (Value.int .u8 0).cells = #[.int .u8 0] from rfl] at h
  exact h
theorem RecsIn.one {l : List Bs} {vs : List Value} {w : World} (h2 : vs.length = l.length) (h3 : ∀ j (h1 : j < vs.length) (h2 : j < l.length), Bin w vs[j] l[j]) : ∀ u ∈ vs, u.oneCell' = true := by
  intro u hu
  obtain ⟨j, hj, rfl⟩ := List.getElem_of_mem hu
  obtain ⟨a, c, e, _⟩ := h3 j hj (by omega)
  rw [e]; rfl
theorem made_bytes (n : Nat) : madeCells #[.int .u8 0] n = ((List.replicate n (0 : UInt8)).map byteV).toArray := by
  rw [List.map_replicate, show byteV 0 = (Value.int .u8 0 : Value) from rfl, ← toList_madeCells_one, Array.toArray_toList]
theorem made_bin {n : Nat} {w : World} {g : Nat} (h : w.heap[g]? = some (.cells (madeCells #[.int .u8 0] n) 5 (0, 0))) : Bin w (.slice (some ⟨g, 0, none⟩) n n) (List.replicate n 0) := by
  rw [made_bytes] at h
  have := bin_new h
  rwa [List.length_replicate] at this
theorem big_bin {w : World} {g : Nat} (h : w.heap[g]? = some bigO) : Bin w (.slice (some ⟨g, 0, none⟩) 4097 4097) bigB := made_bin (n := 4097) h
set_option maxRecDepth 100000 in
set_option maxHeartbeats 2000000 in
theorem rewrites_at (w : World) {v1 v2 tv : Value} {l m : List Bs} {dir : Int} {tails : List Int} (h1 : RecsIn w v1 l) (h2 : RecsIn w v2 m) (hd0 : -9223372036854775808 ≤ dir) (hd1 : dir ≤ 9223372036854775807) (ht : Lst w tv (tails.map intV)) (htb : ∀ t ∈ tails, -9223372036854775808 ≤ t ∧ t ≤ 9223372036854775807) :
    Calls Tryz.prog 7 #[v1, v2, .agg #[.int .i64 dir, tv]] w fun e w' => e = .returned (.bool true) ∧ Below w.heap.size w w' := by
  obtain ⟨ta, tc, rfl⟩ : ∃ a c, tv = .slice a tails.length c := by obtain ⟨a, c, e, _⟩ := ht; exact ⟨a, c, by rw [e, List.length_map]⟩
  obtain ⟨xa, xc, rfl⟩ : ∃ a c, v1 = .slice a l.length c := by obtain ⟨vs, ⟨a, c, e, _⟩, hv, _⟩ := h1; exact ⟨a, c, by rw [e, hv]⟩
  obtain ⟨ya, yc, rfl⟩ : ∃ a c, v2 = .slice a m.length c := by obtain ⟨vs, ⟨a, c, e, _⟩, hv, _⟩ := h2; exact ⟨a, c, by rw [e, hv]⟩
  obtain ⟨wa, hwa⟩ : ∃ wa : World, w.alloc (.cells #[.int .i64 dir, .slice ta tails.length tc] 26) = wa := ⟨_, rfl⟩
  have hba : Below w.heap.size w wa := by rw [← hwa]; exact (Below.refl _ w).alloc (Nat.le_refl _) _
  have hxa : wa.heap[w.heap.size]? = some (.cells #[.int .i64 dir, .slice ta tails.length tc] 26 (0, 0)) := by rw [← hwa]; exact heap_alloc_new w _
  have z0 : wa.cell? ⟨w.heap.size, 0, none⟩ = some (.int .i64 dir) := (cell_at hxa).trans rfl
  have z1 : wa.cell? ⟨w.heap.size, 1, none⟩ = some (.slice ta tails.length tc) := (cell_at hxa).trans rfl
  have HA := Lib.hid (And.intro hba hxa)
  have H1 := Lib.hid h1
  have H2 := Lib.hid h2
  have HT := Lib.hid (And.intro ht htb)
  clear hba hxa h1 h2 ht htb
  go_enter Tryz.func7, Tryz.ntmps7
  go_wp2_with fail
  refine (light5_at (H1.out.below HA.out.1)).mono ?_
  rintro e0 w1 ⟨hl | rfl, rfl⟩
  case inr =>
    go_wp2_with fail
    go_ret
    exact ⟨rfl, HA.out.1⟩
  obtain ⟨rfl, hl⟩ := hl
  have HL := Lib.hid hl
  clear hl
  go_wp2_with fail
  refine (light5_at (H2.out.below HA.out.1)).mono ?_
  rintro e0 w1 ⟨hl | rfl, rfl⟩
  case inr =>
    go_wp2_with fail
    go_ret
    exact ⟨rfl, HA.out.1⟩
  obtain ⟨rfl, hl⟩ := hl
  have HM := Lib.hid hl
  clear hl
  by_cases h20 : 20 < tails.length
  · go_wp2_with fail
    go_ret
    exact ⟨rfl, HA.out.1⟩
  go_wp2_with fail
  refine (has_new 16777216 (by omega) (by omega) wa).mono ?_
  rintro e0 w3 ⟨rfl, h3, hb3⟩
  obtain ⟨d, hd⟩ : ∃ d, wa.heap.size + 2 = d := ⟨_, rfl⟩
  rw [hd] at h3 ⊢
  have H3 := Lib.hid h3
  have Hb3 := Lib.hid hb3
  clear h3 hb3 hd hwa z0 z1
  go_wp2_with fail
  refine (log_open H3.out (by omega) nL (by decide) 1).mono ?_
  rintro e0 w4 ⟨c, q, pv, v', G, rfl, hq, hc, h4, hG, hk4, _, hok⟩
  rw [spare_nL] at hq hc h4 hok
  obtain ⟨D4, e4, hu4, _⟩ := logU_new (N := nLN) (k := 1) (spare := nN) isE_nL ne_nL right_nL ms_nL 16777216 (by decide) q
  rw [e4] at hc h4
  obtain rfl : c = 0 := hc
  obtain ⟨p, rfl, _, hp4, hGp, _, _⟩ := hok rfl
  have hlow : ∀ b, b < wa.heap.size → G b := hG
  have H4 := Lib.hid (show Lgd wa d p nL 1 G w4 D4 4 from ⟨h4, hG, hGp, hp4, below_kept Hb3.out (Nat.le_refl _) hk4 fun b hb => hb⟩)
  have HU := Lib.hid (show LU 1 D4 [] 0 from hu4)
  clear hq h4 hG hk4 hok hp4 hGp e4 hu4 hlow
  have hln : l.length ≤ 30 := HL.out.1
  have hmn : m.length ≤ 30 := HM.out.1
  go_wp2_with fail
  go_loopw [12] (fun i wr => ∃ (j : Nat) (D : PD) (su : Nat), j ≤ l.length ∧ i = .int .i64 j ∧ Lgd wa d p nL 1 G wr D (4 + 2 * j) ∧ LU 1 D (l.take j) su) (fun i _ => l.length - (intOf i).toNat)
  case atStart => exact ⟨0, D4, 0, Nat.zero_le _, rfl, H4.out, HU.out⟩
  case round =>
    clear H4 HU
    obtain ⟨j, D, su, hj, rfl, hh, hu⟩ := hrel
    have HH := Lib.hid hh
    have HU := Lib.hid hu
    clear hh hu
    by_cases hlt : j < l.length
    · obtain ⟨vs, ⟨a0, _, e0, _, _, hc⟩, hv, he⟩ := H1.out
      rw [hv] at e0
      injection e0 with e1 e2 e3
      subst e1 e3
      clear e2
      obtain ⟨ab, ao, rfl, hca⟩ := hc j (by omega)
      have ea := he j (by omega) hlt
      obtain ⟨x, hx⟩ : ∃ x, l[j] = x := ⟨_, rfl⟩
      obtain ⟨u, hu⟩ : ∃ u, vs[j]'(by omega) = u := ⟨_, rfl⟩
      rw [hu, hx] at ea
      rw [hu] at hca
      have hbw := HA.out.1.trans (HH.out.below.mono HA.out.1.size)
      have ca : wr.cell? ⟨ab, ao + j, none⟩ = some u := (hbw.cell (p := ⟨ab, ao + j, none⟩) (World.block_lt_of_cell? w _ hca)).trans hca
      have hxl : x.length ≤ 500 := hx ▸ HL.out.2 _ (List.getElem_mem hlt)
      have hbx : Bin wr u x := ea.keep fun q _ hq => hbw.block q hq
      have hfr : (framesL (l.take j)).length ≤ 15240 := light_frames HL.out j
      have hux : ∀ q, u.ownBlock = some q → x ≠ [] → G q := fun q hq hne => HH.out.low q (Nat.lt_of_lt_of_le (ea.lt hne q hq) HA.out.1.size)
      have HX := Lib.hid (And.intro hbx (And.intro hux (show l.take (j + 1) = l.take j ++ [x] by rw [List.take_succ_eq_append_getElem hlt, hx])))
      clear hca ea hx hu hc he hv hbw hbx hux
      go_wp2_with fail
      refine (log_append (R := fun c D' => c = 0 ∧ LU 1 D' (l.take (j + 1)) su) HH.out.has (by omega) HH.out.log (by decide) HX.out.1 (by omega) (fun q _ => by rw [HX.out.2.2]; exact lu_append HU.out HH.out.has (by omega) x (by omega) q)).mono ?_
      rintro e0 w6 ⟨c, D6, rfl, ⟨rfl, hu6⟩, h6, hk6⟩
      have H6 := Lib.hid (And.intro (HH.out.did h6 hk6) hu6)
      clear h6 hk6 hu6
      go_wp2_with fail
      go_roundw
      case rel => exact ⟨j + 1, D6, su, by omega, by go_num, H6.out.1, H6.out.2⟩
      case measure => simp [intOf]; omega
    · obtain rfl : j = l.length := by omega
      have kb := big_run
      obtain ⟨i1, hi, hz0, hz1, hz2⟩ := info_parts info_sl
      have HI := Lib.hid (And.intro hi (And.intro hz0 (And.intro hz1 hz2)))
      clear hi hz0 hz1 hz2
      obtain ⟨w5, hw5⟩ : ∃ w5 : World, (wr.alloc bigO).alloc (.cells #[.slice (some ⟨wr.heap.size, 0, none⟩) 4097 4097] 23) = w5 := ⟨_, rfl⟩
      have hb5 : Below wr.heap.size wr w5 := by rw [← hw5]; exact ((Below.refl _ wr).alloc (Nat.le_refl _) _).alloc (by simp) _
      have hz5 : w5.heap.size = wr.heap.size + 2 := by rw [← hw5]; simp
      have hbig5 : w5.heap[wr.heap.size]? = some bigO := by rw [← hw5]; exact heap_alloc_of (heap_alloc_new wr _) _
      have hrow5 : w5.heap[wr.heap.size + 1]? = some (.cells #[.slice (some ⟨wr.heap.size, 0, none⟩) 4097 4097] 23 (0, 0)) := by rw [← hw5]; exact heap_alloc_at (by simp) _
      have hw5b := HA.out.1.trans ((HH.out.below.trans (hb5.mono HH.out.below.size)).mono HA.out.1.size)
      obtain ⟨us, hlst, hul, hub⟩ := H2.out
      have husrc : Src Tryz.prog 1 53 (.slice ya m.length yc) m.length us w5 := hul ▸ (hlst.below hw5b).src (RecsIn.one hul hub) Tryz.underlying53
      have hR5 : Row w5 23 1 (.slice (some ⟨wr.heap.size + 1, 0, none⟩) 1 1) 1 [.slice (some ⟨wr.heap.size, 0, none⟩) 4097 4097] := ⟨rfl, Or.inr ⟨_, 1, _, rfl, hrow5, Nat.le_refl _, by simp, by decide, rfl⟩⟩
      have H5 := Lib.hid (And.intro hb5 (And.intro hz5 (And.intro hbig5 (And.intro husrc (And.intro hR5 (And.intro hul (And.intro hub hw5b)))))))
      clear hb5 hz5 hbig5 hrow5 hw5b husrc hR5 hul hub hlst
      go_wp2_with (first
        | (at_builtin; refine wpList_append_row _ rfl _ _ 53 53 rfl rfl _ rfl H5.out.2.2.2.2.1 (by decide) i1 (.slice none 0 0) 24 Tryz.underlying53 HI.out.1 HI.out.2.1 HI.out.2.2.1 HI.out.2.2.2 rfl m.length us H5.out.2.2.2.1 (by unfold maxLen; omega) (by omega) ?_; intro b' c' w6 hr6 hk6 hw6 hn6 hz6; have H6 := Lib.hid (And.intro hr6 hk6); clear hr6 hk6 hw6 hn6 hz6)
        | fail)
      obtain ⟨hb5, hz5, hbig5, _, _, hul, hub, hw5b⟩ := H5.out
      obtain ⟨hr6, hk6⟩ := H6.out
      have hk6' : Keeps (fun q => wr.heap.size + 1 = q) w5 w6 := hk6.mono fun q _ h => Option.some.inj h
      have hb6 : Below wr.heap.size wr w6 := hb5.trans (hk6'.below hb5.size fun b hb h => by omega)
      have hsz6 : w.heap.size ≤ wr.heap.size := Nat.le_trans HA.out.1.size HH.out.below.size
      have hm6 : ∀ b, b < w.heap.size → w6.heap[b]? = w.heap[b]? := fun b hb => (hk6'.block b (by omega) (by omega)).trans (hw5b.block b hb)
      have hrec6 : RecsIn w6 (.slice b' (1 + m.length) c') (bigB :: m) := by
        refine ⟨.slice (some ⟨wr.heap.size, 0, none⟩) 4097 4097 :: us, row_lst hr6 (by simp [hul]; omega), by simp [hul], fun j h1 h2 => ?_⟩
        cases j with
        | zero => exact big_bin ((hk6'.block _ (by omega) (by omega)).trans hbig5)
        | succ j => exact (hub j (by simpa using h1) (by simpa using h2)).keep fun q _ hq => hm6 q hq
      have HG6 := Lib.hid (HH.out.on hb6)
      have Hrec6 := Lib.hid (And.intro hrec6 (H2.out.below (HA.out.1.trans ((HH.out.below.trans (hb6.mono HH.out.below.size)).mono HA.out.1.size))))
      clear hb5 hz5 hbig5 hul hub hw5b hr6 hk6 hk6' hb6 hm6 hrec6 hw5 H5 H6
      refine (log_rewrite_long HG6.out.log Hrec6.out.1 (by omega) (by rw [len_bigB]; decide)).mono ?_
      rintro e0 w7 ⟨rfl, hb7⟩
      have H7 := Lib.hid (HG6.out.on hb7)
      have Hm7 := Lib.hid (Hrec6.out.2.below hb7)
      clear hb7
      go_wp2_with fail
      refine (log_append_long (p := p) (big_bin (heap_alloc_new w7 bigO)) (by rw [len_bigB]; decide)).mono ?_
      rintro e0 w8 ⟨rfl, rfl⟩
      obtain ⟨w8, hw8⟩ : ∃ w8, w7.alloc bigO = w8 := ⟨_, rfl⟩
      have hb8 : Below w7.heap.size w7 w8 := by rw [← hw8]; exact (Below.refl _ w7).alloc (Nat.le_refl _) bigO
      rw [hw8]
      have H8 := Lib.hid (H7.out.on hb8)
      have Hm8 := Lib.hid (Hm7.out.below hb8)
      clear hw8 hb8
      go_wp2_with fail
      refine (log_rewrite H8.out.has (by omega) H8.out.log H8.out.gp (by decide) Hm8.out (by omega) (fun x hx => by have := HM.out.2 x hx; omega)).mono ?_
      rintro e0 w9 ⟨c, D9, rfl, ⟨q9, hq9, hc9⟩, h9, hk9⟩
      rw [spare_nL] at hc9
      obtain ⟨D9', e9, hu9⟩ := lu_rewrite HU.out H8.out.has (by omega) m (by have := light_frames HM.out m.length; rw [List.take_length] at this; omega) q9 hq9
      rw [e9] at hc9
      obtain ⟨rfl, rfl⟩ := Prod.mk.inj hc9
      have H9 := Lib.hid (And.intro (H8.out.did h9 hk9) hu9)
      have hb9 : Below w.heap.size w w9 := HA.out.1.trans (H9.out.1.below.mono HA.out.1.size)
      have hx9 : w9.heap[w.heap.size]? = some (.cells #[.int .i64 dir, .slice ta tails.length tc] 26 (0, 0)) := (H9.out.1.below.block _ (lt_of_heap HA.out.2)).trans HA.out.2
      have z0 : w9.cell? ⟨w.heap.size, 0, none⟩ = some (.int .i64 dir) := (cell_at hx9).trans rfl
      have z1 : w9.cell? ⟨w.heap.size, 1, none⟩ = some (.slice ta tails.length tc) := (cell_at hx9).trans rfl
      have Hb9 := Lib.hid hb9
      clear hb9 hx9 h9 hk9 hq9 hc9 e9 hu9
      go_wp2_with fail
      refine (done_restart H9.out.1.has (by omega) hd0 hd1 (HT.out.1.below Hb9.out) (by omega) HT.out.2 (fun hne b hb => H9.out.1.low b (Nat.lt_of_lt_of_le (HT.out.1.lt (by simpa using hne) b hb) HA.out.1.size))).mono ?_
      rintro e0 w10 ⟨rfl, h10, hk10⟩
      have H10 := Lib.hid (H9.out.1.did h10 hk10)
      clear h10 hk10 z0 z1
      go_wp2_with fail
      refine (log_open H10.out.has (by omega) nL (by decide) 1).mono ?_
      rintro e0 w11 ⟨c, q11, pv, v11, G11, rfl, _, hc, h11, hG11, hk11, _, hok⟩
      rw [spare_nL] at hc h11 hok
      obtain ⟨D11, e11, hg11, _, _⟩ := lu_reopen H9.out.2 H10.out.has (by omega) (fun x hx => by have := HM.out.2 x hx; omega) q11
      rw [e11] at hc
      obtain rfl : c = 0 := hc
      obtain ⟨p11, rfl, _, _, _, hrg, _⟩ := hok rfl
      rw [hg11] at hrg
      have hb11 : Below w.heap.size w w11 := HA.out.1.trans ((below_kept H10.out.below (Nat.le_refl _) hk11 H10.out.low).mono HA.out.1.size)
      have H11 := Lib.hid (And.intro hrg.recsIn (And.intro (H2.out.below hb11) hb11))
      clear h11 hG11 hk11 hok hrg hb11 e11 hg11
      go_wp2_with fail
      refine (same5_at H11.out.1 H11.out.2.1 (by omega)).mono ?_
      rintro e0 w12 ⟨rfl, hb12⟩
      rw [decide_eq_true (rfl : m = m)]
      have H12 := Lib.hid (H11.out.2.2.trans (hb12.mono H11.out.2.2.size))
      clear hb12
      go_wp2_with fail
      refine (awake5_at w12).mono ?_
      rintro e0 w13 ⟨rfl, hb13⟩
      have H13 := Lib.hid (H12.out.trans (hb13.mono H12.out.size))
      clear hb13
      go_wp2_with fail
      go_ret
      exact ⟨rfl, H13.out⟩
end Go.Proofs.YtbckbkcpfejllaaGreatDoor
