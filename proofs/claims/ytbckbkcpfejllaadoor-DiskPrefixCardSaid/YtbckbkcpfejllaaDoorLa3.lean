/- DiskPrefix: a file that was appended to, and not synced, is there with a beginning of its bytes: plainly, and the walk. -/
import Derived.Test.YtbckbkcpfejllaaDoorLa1
namespace Go.Proofs.YtbckbkcpfejllaaDoor
open Go.RowKit Go.Maps Go.WideMaps

/-- The one file holds xs, su of them sure; behind deed K its name is sure. -/
def PfA (K i : Nat) (xs : Bs) (su : Nat) (D : PD) : Prop :=
  D.quota = 16777216 ∧ su ≤ xs.length ∧ ∃ p t c sd pe, OneI D nF p ⟨xs, su, t⟩ sd pe (-1) D.deeds c ∧ t < c ∧ (K < i → sd = [(bs nF, p)] ∧ pe = [])
def PfS (K i : Nat) (xs : Bs) (su : Nat) (D : PD) : Prop :=
  (i = 0 ∧ xs = [] ∧ su = 0 ∧ D.quota = 16777216 ∧ D.files = [] ∧ D.sure = [] ∧ D.pend = [] ∧ D.armed = -1 ∧ D.down = false) ∨ (0 < i ∧ PfA K i xs su D)
theorem pf_start (K : Nat) : PfS K 0 [] 0 (PD.new 16777216) := Or.inl ⟨rfl, rfl, rfl, rfl, rfl, rfl, rfl, rfl, rfl⟩
theorem pf_append {K i : Nat} {xs : Bs} {su : Nat} {D : PD} (h : PfS K i xs su D) (b : Bs) (hl : xs.length + b.length ≤ 65536) (p' : Nat) :
    (D.deed (rightP nF) fun D' => D'.append nF b p').1 = 0 ∧ PfA K i (xs ++ b) su (D.deed (rightP nF) fun D' => D'.append nF b p').2 := by
  rcases h with ⟨rfl, rfl, rfl, hq, hf, hs, hp, ha, hdn⟩ | ⟨_, hq, hsu, p, t, c, sd, pe, h, htc, hsp⟩
  · rw [right_nF, deed_up hdn (by rw [ha]; decide)]
    obtain ⟨D', e, h', hq'⟩ := one_append_new (D := D.counted) (n := nF) (p := p') (b := b) hf hs hp (a := -1) (by show (if 0 < D.armed then D.armed - 1 else D.armed) = _; rw [ha]; rfl) rfl rfl hdn isE_nF (by simpa using hl) (by show _ ≤ D.quota; rw [hq]; simp at hl; omega)
    rw [e]
    exact ⟨rfl, hq'.trans hq, Nat.zero_le _, p', D.clock, D.clock + 1, _, _, h'.deeds.symm ▸ h', by omega, fun h => by omega⟩
  · rw [right_nF, deed_up h.down (by rw [h.armed]; decide)]
    obtain ⟨D', e, h', hq'⟩ := h.counted.append b p' hl (by show _ ≤ D.quota; rw [hq]; simp only; omega)
    rw [e]
    exact ⟨rfl, hq'.trans hq, by rw [List.length_append]; omega, p, c, c + 1, sd, pe, h'.deeds.symm ▸ h', by omega, hsp⟩
theorem pf_next {K i : Nat} {xs : Bs} {su : Nat} {D : PD} (h : PfA K i xs su D) (hi : i ≠ K) : PfS K (i + 1) xs su D := by
  obtain ⟨hq, hsu, p, t, c, sd, pe, h, htc, hsp⟩ := h
  exact Or.inr ⟨by omega, hq, hsu, p, t, c, sd, pe, h, htc, fun h => hsp (by omega)⟩
theorem pf_sync {K i : Nat} {xs : Bs} {su : Nat} {D : PD} (h : PfA K i xs su D) : (D.deed (rightP nF) fun D' => D'.sync nF).1 = 0 ∧ PfA K i xs xs.length (D.deed (rightP nF) fun D' => D'.sync nF).2 := by
  obtain ⟨hq, hsu, p, t, c, sd, pe, h, htc, hsp⟩ := h
  rw [right_nF, deed_up h.down (by rw [h.armed]; decide)]
  obtain ⟨D', e, h', hq'⟩ := h.counted.sync
  rw [e]
  exact ⟨rfl, hq'.trans hq, Nat.le_refl _, p, t, c, sd, pe, h'.deeds.symm ▸ h', htc, hsp⟩
theorem pf_syncDir {K i : Nat} {xs : Bs} {su : Nat} {D : PD} (h : PfA K i xs su D) : (D.deed true fun D' => D'.syncDir).1 = 0 ∧ PfS K (i + 1) xs su (D.deed true fun D' => D'.syncDir).2 := by
  obtain ⟨hq, hsu, p, t, c, sd, pe, h, htc, hsp⟩ := h
  rw [deed_up h.down (by rw [h.armed]; decide)]
  obtain ⟨D', e, h', hq'⟩ := h.counted.syncDir
  rw [e]
  exact ⟨rfl, Or.inr ⟨by omega, hq'.trans hq, hsu, p, t, c, _, _, h'.deeds.symm ▸ h', htc, fun _ => ⟨rfl, rfl⟩⟩⟩
/-- Behind the restart: m bytes of it; another time, if that is not all. -/
theorem pf_back {K n : Nat} {xs : Bs} {su : Nat} {D : PD} (h : PfS K n xs su D) (hK : K < n) (tail : Int) (m : Nat) (hm : su + min (max tail 0).toNat (xs.length - su) = m) :
    m ≤ xs.length ∧ D.down = false ∧ ∃ p t, Dir.find D.files (bs nF) = some p ∧ D.fs p = ⟨xs, su, t⟩ ∧ ∃ s' t', Dir.find (D.restart 0 [tail]).files (bs nF) = some p ∧ (D.restart 0 [tail]).fs p = ⟨xs.take m, s', t'⟩ ∧ (t' = t ↔ m = xs.length) ∧ t ≤ t' := by
  rcases h with ⟨h0, _⟩ | ⟨_, hq, hsu, p, t, c, sd, pe, h, htc, hsp⟩
  · omega
  · obtain ⟨rfl, rfl⟩ := hsp hK
    have hb : D.back 0 = [(bs nF, p)] := by rw [back_zero, h.sure]
    obtain ⟨h1, h2⟩ := restart_one hb [tail]
    have ht : PD.tailOf [tail] 0 = tail := rfl
    rw [h.fs, ht, h.clock] at h2
    unfold PF.kept at h2
    simp only [hm] at h2
    refine ⟨by omega, h.down, p, t, by rw [h.files]; exact find_one _ _, h.fs, ?_⟩
    by_cases hlt : m < xs.length
    · rw [if_pos hlt] at h2
      exact ⟨_, _, by rw [h1]; exact find_one _ _, h2, ⟨fun e => by omega, fun e => by omega⟩, by omega⟩
    · rw [if_neg hlt] at h2
      have e : m = xs.length := by omega
      exact ⟨_, _, by rw [h1]; exact find_one _ _, by rw [h2, e, List.take_length], ⟨fun _ => e, fun _ => rfl⟩, Int.le_refl _⟩
theorem Bin.take {w : World} {a : Option Addr} {n cap : Nat} {xs : Bs} (h : Bin w (.slice a n cap) xs) {m : Nat} (hm : m ≤ xs.length) : Bin w (.slice a m cap) (xs.take m) := by
  obtain ⟨a', cap', e, h1, h3, h4⟩ := h
  obtain ⟨rfl, rfl, rfl⟩ := Value.slice.inj e
  have hl : (xs.take m).length = m := by rw [List.length_take]; omega
  refine ⟨a, cap, by rw [hl], by omega, h3, fun j hj => ?_⟩
  obtain ⟨b, off, e, hc⟩ := h4 j (by omega)
  exact ⟨b, off, e, by rw [hc, List.getElem_take]⟩
theorem Bin.lt {w : World} {v : Value} {xs : Bs} (h : Bin w v xs) (hne : xs ≠ []) : ∀ q, v.ownBlock = some q → q < w.heap.size := by
  obtain ⟨a, cap, rfl, _, _, h4⟩ := h
  obtain ⟨b, off, rfl, hc⟩ := h4 0 (List.length_pos_iff.2 hne)
  intro q hq
  have : b = q := Option.some.inj hq
  subst this
  exact World.block_lt_of_cell? w _ hc

set_option maxRecDepth 100000 in
set_option maxHeartbeats 1000000 in
theorem prefix_at (w : World) {v : Value} {vs : List Value} {ls : List Bs} (hv : Lst w v vs) (hn : vs.length = ls.length) (hb : ∀ j (h1 : j < vs.length) (h2 : j < ls.length), Bin w vs[j] ls[j]) (s : Nat) (hs : s ≤ 255) (tail : Int) (ht0 : -9223372036854775808 ≤ tail) (ht1 : tail ≤ 9223372036854775807) :
    Calls Tryd.prog 5 #[v, .int .u8 s, .int .i64 tail] w fun e w' => e = .returned (.bool true) ∧ Below w.heap.size w w' := by
  obtain ⟨a, cap, rfl, hcap, _, hcell⟩ := hv
  have Hcell := Lib.hid hcell
  have Hb := Lib.hid hb
  clear hcell hb
  obtain ⟨n, hnn⟩ : ∃ n, vs.length = n := ⟨_, rfl⟩
  rw [hnn]
  rw [hnn] at hcap hn
  have Hn := Lib.hid (And.intro hnn hn)
  clear hnn hn
  by_cases hbig : 20 < n
  · go_enter Tryd.func5, Tryd.ntmps5
    go_wp2_with fail
    go_ret
    exact ⟨rfl, Below.refl _ _⟩
  by_cases h0 : n = 0
  · subst h0
    go_enter Tryd.func5, Tryd.ntmps5
    go_wp2_with fail
    go_ret
    exact ⟨rfl, Below.refl _ _⟩
  obtain ⟨K, hK⟩ : ∃ K : Nat, (s : Int) % (n : Int) = K := ⟨s % n, by omega⟩
  have hKn : K < n := by
    have := Int.emod_lt_of_pos (s : Int) (b := (n : Int)) (by omega)
    omega
  obtain ⟨ab, ao, rfl⟩ : ∃ ab ao, a = some ⟨ab, ao, none⟩ := by
    obtain ⟨ab, ao, e, _⟩ := Hcell.out 0 (by rw [Hn.out.1]; omega)
    exact ⟨ab, ao, e⟩
  have hc1 : decide ((20 : Int) < (n : Int)) = false := by simp; omega
  have hc2 : ((n : Int) == 0) = false := by simpa using h0
  go_enter Tryd.func5, Tryd.ntmps5
  go_wp2_with fail
  refine (fresh4_at w).mono ?_
  rintro e w1 ⟨rfl, h1, hb1⟩
  have H1 := Lib.hid h1
  have Hb1 := Lib.hid hb1
  clear h1 hb1
  go_wp2_with fail
  obtain ⟨i0, hi, hz0, hz1, hz2⟩ := info_parts info_u8
  have HI := Lib.hid (And.intro hi (And.intro hz0 (And.intro hz1 hz2)))
  have HK := Lib.hid hK
  clear hi hz0 hz1 hz2 hK
  go_loopw [10, 11, 12] (fun va sv iv wr => ∃ (j : Nat) (xs : Bs) (su : Nat) (D : PD), j ≤ n ∧ iv = .int .i64 j ∧ sv = .int .i64 su ∧ Row wr 5 1 va xs.length (xs.map byteV) ∧ (∀ b, va.ownBlock = some b → w.heap.size ≤ b) ∧ xs.length ≤ 300 * j ∧ su ≤ xs.length ∧ PfS K j xs su D ∧ Has (fun b => b < w.heap.size ∨ va.ownBlock = some b) (w.heap.size + 2) wr D (6 * j) ∧ Below w.heap.size w wr) (fun _ _ i _ => n - (intOf i).toNat)
  case atStart => exact ⟨0, [], 0, _, Nat.zero_le _, rfl, rfl, Row.nil _ _ _, (fun b hb => by cases hb), by simp, Nat.zero_le _, pf_start K, H1.out.less (fun b hb => hb.elim id (fun h => by cases h)), Hb1.out⟩
  case round =>
    clear H1 Hb1
    obtain ⟨j, xs, su, D, hj, rfl, rfl, hrow, hown, hxl, hsu, hI, hH, hbw⟩ := hrel
    obtain ⟨va, vcap, rfl⟩ := hrow.slv
    have Hrow := Lib.hid hrow
    have Hown := Lib.hid hown
    have HIv := Lib.hid hI
    have HH := Lib.hid hH
    have Hbw := Lib.hid hbw
    clear hrow hown hI hH hbw
    by_cases hlt : j < n
    · have hjv : j < vs.length := by rw [Hn.out.1]; exact hlt
      have hjl : j < ls.length := by rw [← Hn.out.2]; exact hlt
      obtain ⟨_, _, hse, hcj⟩ := Hcell.out j hjv
      obtain ⟨rfl, rfl, _⟩ := Addr.mk.inj (Option.some.inj hse)
      clear hse
      have hbj := Hb.out j hjv hjl
      obtain ⟨b, hbb⟩ : ∃ b, ls[j] = b := ⟨_, rfl⟩
      rw [hbb] at hbj
      obtain ⟨pa, pcap, hpv, _⟩ := hbj
      rw [hpv] at hcj
      have hbj : Bin w (.slice pa b.length pcap) b := by have := Hb.out j hjv hjl; rwa [hpv, hbb] at this
      have Hbj := Lib.hid hbj
      have Hcj := Lib.hid hcj
      clear hbb hpv hbj hcj
      have hcw := (Hbw.out.cell (p := ⟨ab, ao + j, none⟩) (World.block_lt_of_cell? w _ Hcj.out)).trans Hcj.out
      by_cases hl3 : 300 < b.length
      · have hl4 : decide ((300 : Int) < (b.length : Int)) = true := by simp; omega
        go_wp2_with fail
        go_ret
        exact ⟨rfl, Hbw.out⟩
      · have hl4 : decide ((300 : Int) < (b.length : Int)) = false := by simp; omega
        go_wp2_with fail
        refine (told_append HH.out (by omega) nF (by decide) (Hbj.out.keep fun q _ hq => Hbw.out.block q hq) (by omega) (fun hne q hq => Or.inl (Hbj.out.lt hne q hq)) (R := fun c D' => c = 0 ∧ PfA K j (xs ++ b) su D') (fun p _ => pf_append HIv.out b (by omega) p)).mono ?_
        rintro e w2 ⟨c, D2, rfl, ⟨rfl, hr2⟩, h2, hk2⟩
        have hb2 : Below w.heap.size w w2 := below_kept Hbw.out (Nat.le_refl _) hk2 (fun b hb => Or.inl hb)
        have hrow2 : Row w2 5 1 (.slice va xs.length vcap) xs.length (xs.map byteV) := Hrow.out.keep fun q hq => hk2.block q (Hrow.out.lt q hq) (fun hn => hn (Or.inr hq))
        have hcw2 := (hb2.cell (p := ⟨ab, ao + j, none⟩) (World.block_lt_of_cell? w _ Hcj.out)).trans Hcj.out
        have Hr2 := Lib.hid hr2
        have H2 := Lib.hid h2
        have Hb2 := Lib.hid hb2
        have Hrow2 := Lib.hid hrow2
        have hbj2 : Bin w2 (.slice pa b.length pcap) b := Hbj.out.keep fun q _ hq => hb2.block q hq
        have Hbj2 := Lib.hid hbj2
        clear hr2 h2 hb2 hrow2 hk2 hbj2
        by_cases hjK : j = K
        · have hq : ((j : Int) == (s : Int) % (n : Int)) = true := by rw [HK.out, hjK]; simp
          clear hjK
          go_wp2_with (first
            | (at_builtin; refine wpList_append_row _ rfl _ _ 22 22 rfl rfl _ rfl Hrow2.out (by decide) i0 (.int .u8 0) 1 Tryd.underlying22 HI.out.1 HI.out.2.1 HI.out.2.2.1 HI.out.2.2.2 rfl b.length _ (Hbj2.out.src Tryd.underlying22) (by unfold maxLen; omega) (by omega) ?_; intro b' c' w3 hr3 hk3 hw3 hn3 hz3; replace hk3 : Keeps (fun q => (Value.slice va xs.length vcap).ownBlock = some q) w2 w3 := hk3; replace hw3 : ∀ q, (Value.slice b' (xs.length + b.length) c').ownBlock = some q → (Value.slice va xs.length vcap).ownBlock = some q ∨ w2.heap.size ≤ q := hw3; clear hn3; have Hr3 := Lib.hid hr3; have Hk3 := Lib.hid hk3; have Hw3 := Lib.hid hw3; clear hr3 hk3 hw3 hz3)
            | fail)
          have hx3 : (xs ++ b).length = xs.length + b.length := List.length_append
          have hrow3 : Row w3 5 1 (.slice b' (xs.length + b.length) c') (xs ++ b).length ((xs ++ b).map byteV) := by rw [hx3, List.map_append]; exact Hr3.out
          have hown3 : ∀ q, (Value.slice b' (xs.length + b.length) c').ownBlock = some q → w.heap.size ≤ q := fun q hq => (Hw3.out q hq).elim (Hown.out q) (fun h => Nat.le_trans Hb2.out.size h)
          have h3 : Has (fun q => q < w.heap.size ∨ (Value.slice b' (xs.length + b.length) c').ownBlock = some q) (w.heap.size + 2) w3 D2 (6 * j + 2) := by
            refine (H2.out.grow (Hk3.out.mono fun q _ hq => Or.inr hq)).less fun q hq => ?_
            rcases hq with hq | hq
            · exact Or.inl (Or.inl hq)
            · rcases Hw3.out q hq with h | h
              · exact Or.inl (Or.inr h)
              · exact Or.inr ⟨h, Hr3.out.lt q hq⟩
          have hb3 : Below w.heap.size w w3 := Hb2.out.trans (Hk3.out.below Hb2.out.size fun q hq h => by have := Hown.out q h; omega)
          have Hrow3 := Lib.hid hrow3
          have Hown3 := Lib.hid hown3
          have H3 := Lib.hid h3
          have Hb3 := Lib.hid hb3
          have Hx3 := Lib.hid hx3
          clear hrow3 hown3 h3 hb3 hx3
          refine (told_sync H3.out (by omega) nF (by decide) (R := fun c D' => c = 0 ∧ PfA K j (xs ++ b) (xs ++ b).length D') (pf_sync Hr2.out)).mono ?_
          rintro e w4 ⟨c, D4, rfl, ⟨rfl, hr4⟩, h4, hk4⟩
          have hb4 : Below w.heap.size w w4 := below_kept Hb3.out (Nat.le_refl _) hk4 (fun b hb => Or.inl hb)
          have hrow4 : Row w4 5 1 (.slice b' (xs.length + b.length) c') (xs ++ b).length ((xs ++ b).map byteV) := Hrow3.out.keep fun q hq => hk4.block q (Hrow3.out.lt q hq) (fun hn => hn (Or.inr hq))
          have Hr4 := Lib.hid hr4
          have H4 := Lib.hid h4
          have Hb4 := Lib.hid hb4
          have Hrow4 := Lib.hid hrow4
          clear hr4 h4 hb4 hrow4 hk4
          go_wp2_with fail
          refine (told_syncDir H4.out (by omega) (R := fun c D' => c = 0 ∧ PfS K (j + 1) (xs ++ b) (xs ++ b).length D') (pf_syncDir Hr4.out)).mono ?_
          rintro e w5 ⟨c, D5, rfl, ⟨rfl, hr5⟩, h5, hk5⟩
          have hb5 : Below w.heap.size w w5 := below_kept Hb4.out (Nat.le_refl _) hk5 (fun b hb => Or.inl hb)
          have hrow5 : Row w5 5 1 (.slice b' (xs.length + b.length) c') (xs ++ b).length ((xs ++ b).map byteV) := Hrow4.out.keep fun q hq => hk5.block q (Hrow4.out.lt q hq) (fun hn => hn (Or.inr hq))
          have Hr5 := Lib.hid hr5
          have H5 := Lib.hid h5
          have Hb5 := Lib.hid hb5
          have Hrow5 := Lib.hid hrow5
          clear hr5 h5 hb5 hrow5 hk5
          go_wp2_with fail
          go_roundw
          case rel => exact ⟨j + 1, xs ++ b, (xs ++ b).length, D5, by omega, by go_num, by rw [Hx3.out]; go_num, Hrow5.out, Hown3.out, by rw [Hx3.out]; omega, Nat.le_refl _, Hr5.out, H5.out.more (by omega), Hb5.out⟩
          case measure => simp [intOf]; omega
        · have hq : ((j : Int) == (s : Int) % (n : Int)) = false := by rw [HK.out]; simp; omega
          go_wp2_with (first
            | (at_builtin; refine wpList_append_row _ rfl _ _ 22 22 rfl rfl _ rfl Hrow2.out (by decide) i0 (.int .u8 0) 1 Tryd.underlying22 HI.out.1 HI.out.2.1 HI.out.2.2.1 HI.out.2.2.2 rfl b.length _ (Hbj2.out.src Tryd.underlying22) (by unfold maxLen; omega) (by omega) ?_; intro b' c' w3 hr3 hk3 hw3 hn3 hz3; replace hk3 : Keeps (fun q => (Value.slice va xs.length vcap).ownBlock = some q) w2 w3 := hk3; replace hw3 : ∀ q, (Value.slice b' (xs.length + b.length) c').ownBlock = some q → (Value.slice va xs.length vcap).ownBlock = some q ∨ w2.heap.size ≤ q := hw3; clear hn3; have Hr3 := Lib.hid hr3; have Hk3 := Lib.hid hk3; have Hw3 := Lib.hid hw3; clear hr3 hk3 hw3 hz3)
            | fail)
          have hx3 : (xs ++ b).length = xs.length + b.length := List.length_append
          have hrow3 : Row w3 5 1 (.slice b' (xs.length + b.length) c') (xs ++ b).length ((xs ++ b).map byteV) := by rw [hx3, List.map_append]; exact Hr3.out
          have hown3 : ∀ q, (Value.slice b' (xs.length + b.length) c').ownBlock = some q → w.heap.size ≤ q := fun q hq => (Hw3.out q hq).elim (Hown.out q) (fun h => Nat.le_trans Hb2.out.size h)
          have h3 : Has (fun q => q < w.heap.size ∨ (Value.slice b' (xs.length + b.length) c').ownBlock = some q) (w.heap.size + 2) w3 D2 (6 * j + 2) := by
            refine (H2.out.grow (Hk3.out.mono fun q _ hq => Or.inr hq)).less fun q hq => ?_
            rcases hq with hq | hq
            · exact Or.inl (Or.inl hq)
            · rcases Hw3.out q hq with h | h
              · exact Or.inl (Or.inr h)
              · exact Or.inr ⟨h, Hr3.out.lt q hq⟩
          have hb3 : Below w.heap.size w w3 := Hb2.out.trans (Hk3.out.below Hb2.out.size fun q hq h => by have := Hown.out q h; omega)
          have Hrow3 := Lib.hid hrow3
          have Hown3 := Lib.hid hown3
          have H3 := Lib.hid h3
          have Hb3 := Lib.hid hb3
          have Hx3 := Lib.hid hx3
          clear hrow3 hown3 h3 hb3 hx3
          go_roundw
          case rel => exact ⟨j + 1, xs ++ b, su, D2, by omega, by go_num, rfl, Hrow3.out, Hown3.out, by rw [Hx3.out]; omega, by rw [Hx3.out]; omega, pf_next Hr2.out hjK, H3.out.more (by omega), Hb3.out⟩
          case measure => simp [intOf]; omega
    · obtain rfl : j = n := by omega
      obtain ⟨m, hm⟩ : ∃ m, su + min (max tail 0).toNat (xs.length - su) = m := ⟨_, rfl⟩
      obtain ⟨hml, hdn, p, t, hf0, hfs0, s', t', hf1, hfs1, htt, htl⟩ := pf_back HIv.out hKn tail m hm
      have Hdn := Lib.hid hdn
      have Hf0 := Lib.hid (And.intro hf0 hfs0)
      have Hf1 := Lib.hid (And.intro hf1 hfs1)
      have Htt := Lib.hid htt
      have Hm := Lib.hid hm
      clear hdn hf0 hfs0 hf1 hfs1 htt hm
      have hdn1 := (restart_flags D 0 [tail]).1
      have Hdn1 := Lib.hid hdn1
      clear hdn1
      go_wp2_with fail
      refine (has_stat HH.out nF (by decide)).mono ?_
      rintro e w2 hs2
      obtain ⟨rfl, hb2⟩ := hs2.yes Hdn.out Hf0.out.1 Hf0.out.2
      have hb2w : Below w.heap.size w w2 := Hbw.out.trans (hb2.mono Hbw.out.size)
      have h2 := (HH.out.below hb2).less (G := fun q => q < w.heap.size ∨ (Value.slice va xs.length vcap).ownBlock = some q) (fun q hq => Or.inl hq)
      have hrow2 : Row w2 5 1 (.slice va xs.length vcap) xs.length (xs.map byteV) := Hrow.out.keep fun q hq => hb2.block q (Hrow.out.lt q hq)
      have Hrow2 := Lib.hid hrow2
      have H2 := Lib.hid h2
      have Hb2w := Lib.hid hb2w
      clear hs2 hb2 hb2w h2 hrow2
      go_wp2_with fail
      have hbz : w.heap.size ≤ w2.heap.size := Hb2w.out.size
      refine (done_restart ((H2.out.alloc _).alloc _) (by omega) (tails := [tail]) (by omega) (by omega) (Lst.new (vs := [.int .i64 tail]) (heap_alloc_at (by simp) _)) (by simp) (fun t ht => by rw [List.mem_singleton.1 ht]; exact ⟨ht0, ht1⟩) (fun _ b hb => Or.inr (by have : w2.heap.size + 1 = b := Option.some.inj hb; simp; omega))).mono ?_
      rintro e w3 ⟨rfl, h3, hk3⟩
      have hb3 : Below w.heap.size w w3 := below_kept ((Hb2w.out.alloc (by omega) _).alloc (by simp; omega) _) (Nat.le_refl _) hk3 (fun b hb => Or.inl (Or.inl (Or.inl hb)))
      have hst3 : w3.cell? ⟨w2.heap.size, 1, none⟩ = some (.int .i64 t) := hk3.cell (cell_at (heap_alloc_of (heap_alloc_new w2 _) _)) (fun hn => hn (Or.inl (Or.inr rfl)))
      have hrow3 : Row w3 5 1 (.slice va xs.length vcap) xs.length (xs.map byteV) := (Hrow2.out.keep (w' := (w2.alloc _).alloc _) fun q hq => by rw [Below.heap_alloc _ _ _ (by have := Hrow2.out.lt q hq; simp; omega), Below.heap_alloc _ _ _ (Hrow2.out.lt q hq)]).keep fun q hq => hk3.block q (by have := Hrow2.out.lt q hq; simp; omega) (fun hn => hn (Or.inl (Or.inl (Or.inr hq))))
      have Hst3 := Lib.hid hst3
      have Hrow3 := Lib.hid hrow3
      have H3 := Lib.hid h3
      have Hb3 := Lib.hid hb3
      clear hst3 hrow3 h3 hb3 hk3
      go_wp2_with fail
      have hlm : (xs.take m).length = m := by rw [List.length_take]; omega
      refine (has_read H3.out nF (by decide)).mono ?_
      rintro e w4 hr4
      obtain ⟨rb, rc, rfl, hbo, hro, hb4⟩ := hr4.yes Hdn1.out Hf1.out.1 (b := xs.take m) (by rw [Hf1.out.2])
      rw [hlm] at hbo hro ⊢
      have hb4w : Below w.heap.size w w4 := Hb3.out.trans (hb4.mono Hb3.out.size)
      have h4 := (H3.out.below hb4).less (G := fun q => ((q < w.heap.size ∨ (Value.slice va xs.length vcap).ownBlock = some q) ∨ q = w2.heap.size)) (fun q hq => Or.inl (Or.inl hq))
      have hst4 := (hb4.cell (p := ⟨w2.heap.size, 1, none⟩) (World.block_lt_of_cell? w3 _ Hst3.out)).trans Hst3.out
      have hrow4 : Row w4 5 1 (.slice va xs.length vcap) xs.length (xs.map byteV) := Hrow3.out.keep fun q hq => hb4.block q (Hrow3.out.lt q hq)
      have hbo4 : Bin w4 (.slice rb m rc) (xs.take m) := hbo.bin
      have Hbo4 := Lib.hid hbo4
      have Hst4 := Lib.hid hst4
      have Hrow4 := Lib.hid hrow4
      have H4 := Lib.hid h4
      have Hb4 := Lib.hid hb4w
      clear hr4 hbo hro hb4 hb4w h4 hst4 hrow4 hbo4
      go_wp2_with fail
      refine (has_stat H4.out nF (by decide)).mono ?_
      rintro e w5 hs5
      obtain ⟨rfl, hb5⟩ := hs5.yes Hdn1.out Hf1.out.1 Hf1.out.2
      dsimp only
      rw [hlm]
      have hb5w : Below w.heap.size w w5 := Hb4.out.trans (hb5.mono Hb4.out.size)
      have hst5 := (hb5.cell (p := ⟨w2.heap.size, 1, none⟩) (World.block_lt_of_cell? w4 _ Hst4.out)).trans Hst4.out
      have hrow5 : Row w5 5 1 (.slice va xs.length vcap) xs.length (xs.map byteV) := Hrow4.out.keep fun q hq => hb5.block q (Hrow4.out.lt q hq)
      have hbo5 : Bin w5 (.slice rb m rc) (xs.take m) := Hbo4.out.keep fun q _ hq => hb5.block q hq
      have Hst5 := Lib.hid hst5
      have Hrow5 := Lib.hid hrow5
      have Hbo5 := Lib.hid hbo5
      have Hb5 := Lib.hid hb5w
      have Hlm := Lib.hid hlm
      clear hs5 hb5 hb5w hst5 hrow5 hbo5 hlm
      go_wp2_with fail
      have hmI : (su : Int) + min (max tail 0) ((xs.length : Int) - (su : Int)) = (m : Int) := by have := Hm.out; omega
      rw [hmI]
      obtain ⟨w6, hw6⟩ : ∃ w6 : World, w5.alloc (.cells #[.int .i64 m, .int .i64 t'] 37) = w6 := ⟨_, rfl⟩
      rw [hw6]
      have hb6 : Below w5.heap.size w5 w6 := by rw [← hw6]; exact (Below.refl _ w5).alloc (Nat.le_refl _) _
      have z1 : w6.cell? ⟨w5.heap.size, 1, none⟩ = some (.int .i64 t') := by rw [← hw6]; exact cell_at (heap_alloc_new w5 _)
      have z0 : w6.cell? ⟨w2.heap.size, 1, none⟩ = some (.int .i64 t) := (hb6.cell (p := ⟨w2.heap.size, 1, none⟩) (World.block_lt_of_cell? w5 _ Hst5.out)).trans Hst5.out
      have hb6w : Below w.heap.size w w6 := Hb5.out.trans (hb6.mono Hb5.out.size)
      have hrow6 : Row w6 5 1 (.slice va xs.length vcap) xs.length (xs.map byteV) := Hrow5.out.keep fun q hq => hb6.block q (Hrow5.out.lt q hq)
      have hbo6 : Bin w6 (.slice rb m rc) (xs.take m) := Hbo5.out.keep fun q _ hq => hb6.block q hq
      have Hrow6 := Lib.hid hrow6
      have Hbo6 := Lib.hid hbo6
      have Hb6 := Lib.hid hb6w
      clear hmI hw6 hb6 hb6w hrow6 hbo6
      have hcv1 := ((Hbo6.out.keep (w' := w6.drew) fun _ _ _ => rfl).str)
      have hbx : Bin w6.drew (.slice va xs.length vcap) xs := Bown.bin (Hrow6.out.keep (w' := w6.drew) fun _ _ => rfl)
      have hcv2 := (hbx.take hml).str
      have hmc : m ≤ vcap := by
        obtain ⟨_, _, e, h1, _⟩ := hbx
        obtain ⟨_, _, rfl⟩ := Value.slice.inj e
        omega
      clear hbx
      replace z0 : w6.drew.cell? ⟨w2.heap.size, 1, none⟩ = some (.int .i64 t) := z0
      replace z1 : w6.drew.cell? ⟨w5.heap.size, 1, none⟩ = some (.int .i64 t') := z1
      have hq1 : (t' == t) = ((m : Int) == (xs.length : Int)) := by
        rw [Bool.eq_iff_iff, beq_iff_eq, beq_iff_eq, Htt.out]
        omega
      have Hq1 := Lib.hid hq1
      clear hq1
      refine wp_region_reg (by kernel_rfl) (by kernel_rfl) ?_
      refine reg_quiet 0 rfl (by kernel_rfl) (fun K hK => ?_)
      go_simp
      refine hK _ ?_; clear hK K
      refine reg_quiet 1 rfl (by kernel_rfl) (fun K hK => ?_)
      go_simp
      refine hK _ ?_; clear hK K
      refine reg_quiet 2 rfl (by kernel_rfl) (fun K hK => ?_)
      go_simp
      refine hK _ ?_; clear hK K
      refine reg_quiet 3 rfl (by kernel_rfl) (fun K hK => ?_)
      go_simp
      refine hK _ ?_; clear hK K
      refine reg_quiet 4 rfl (by kernel_rfl) (fun K hK => ?_)
      go_simp
      refine hK _ ?_; clear hK K
      refine reg_quiet 5 rfl (by kernel_rfl) (fun K hK => ?_)
      go_simp
      refine hK _ ?_; clear hK K
      refine reg_quiet 6 rfl (by kernel_rfl) (fun K hK => ?_)
      go_simp
      refine hK _ ?_; clear hK K
      refine reg_quiet 7 rfl (by kernel_rfl) (fun K hK => ?_)
      go_simp
      refine hK _ ?_; clear hK K
      refine reg_quiet 8 rfl (by kernel_rfl) (fun K hK => ?_)
      go_simp
      refine hK _ ?_; clear hK K
      refine reg_quiet 9 rfl (by kernel_rfl) (fun K hK => ?_)
      go_simp
      refine hK _ ?_; clear hK K
      refine reg_quiet 10 rfl (by kernel_rfl) (fun K hK => ?_)
      go_simp
      refine hK _ ?_; clear hK K
      refine reg_quiet 11 rfl (by kernel_rfl) (fun K hK => ?_)
      go_simp
      refine hK _ ?_; clear hK K
      refine reg_quiet 12 rfl (by kernel_rfl) (fun K hK => ?_)
      go_simp
      refine hK _ ?_; clear hK K
      refine reg_quiet 13 rfl (by kernel_rfl) (fun K hK => ?_)
      go_simp
      refine hK _ ?_; clear hK K
      refine reg_quiet 14 rfl (by kernel_rfl) (fun K hK => ?_)
      go_simp
      refine hK _ ?_; clear hK K
      refine reg_quiet 15 rfl (by kernel_rfl) (fun K hK => ?_)
      go_simp
      refine hK _ ?_; clear hK K
      refine reg_quiet 16 rfl (by kernel_rfl) (fun K hK => ?_)
      go_simp
      refine hK _ ?_; clear hK K
      refine reg_quiet 17 rfl (by kernel_rfl) (fun K hK => ?_)
      go_simp
      refine hK _ ?_; clear hK K
      refine reg_quiet 18 rfl (by kernel_rfl) (fun K hK => ?_)
      go_simp
      refine hK _ ?_; clear hK K
      refine reg_quiet 19 rfl (by kernel_rfl) (fun K hK => ?_)
      go_simp
      refine hK _ ?_; clear hK K
      refine reg_quiet 20 rfl (by kernel_rfl) (fun K hK => ?_)
      go_simp
      refine hK _ ?_; clear hK K
      refine reg_quiet 21 rfl (by kernel_rfl) (fun K hK => ?_)
      go_simp
      refine hK _ ?_; clear hK K
      refine reg_quiet 22 rfl (by kernel_rfl) (fun K hK => ?_)
      go_simp
      refine hK _ ?_; clear hK K
      refine reg_quiet 23 rfl (by kernel_rfl) (fun K hK => ?_)
      go_simp
      refine hK _ ?_; clear hK K
      refine reg_quiet 24 rfl (by kernel_rfl) (fun K hK => ?_)
      go_simp
      refine hK _ ?_; clear hK K
      refine reg_quiet 25 rfl (by kernel_rfl) (fun K hK => ?_)
      go_simp
      simp only [Hq1.out, beq_self_eq_true]
      refine hK _ ?_; clear hK K
      refine reg_quiet 26 rfl (by kernel_rfl) (fun K hK => ?_)
      go_simp
      refine hK _ ?_; clear hK K
      refine reg_quiet 27 rfl (by kernel_rfl) (fun K hK => ?_)
      go_simp
      refine hK _ ?_; clear hK K
      refine reg_quiet 28 rfl (by kernel_rfl) (fun K hK => ?_)
      go_simp
      refine hK _ ?_; clear hK K
      refine reg_quiet 29 rfl (by kernel_rfl) (fun K hK => ?_)
      go_simp
      refine hK _ ?_; clear hK K
      refine reg_quiet 30 rfl (by kernel_rfl) (fun K hK => ?_)
      go_simp
      refine hK _ ?_; clear hK K
      refine reg_quiet 31 rfl (by kernel_rfl) (fun K hK => ?_)
      go_simp
      refine hK _ ?_; clear hK K
      refine reg_quiet 32 rfl (by kernel_rfl) (fun K hK => ?_)
      go_simp
      refine hK _ ?_; clear hK K
      refine reg_quiet 33 rfl (by kernel_rfl) (fun K hK => ?_)
      go_simp
      refine hK _ ?_; clear hK K
      refine reg_quiet 34 rfl (by kernel_rfl) (fun K hK => ?_)
      go_simp
      refine hK _ ?_; clear hK K
      refine reg_turn 35 [] rfl (by kernel_rfl) (by kernel_rfl) (fun K hK => ?_)
      go_simp
      refine (awake4_at w6.drew).mono ?_
      rintro e w7 ⟨rfl, hb7⟩
      refine hK _ _ (StayOk.nil) ?_; clear hK K
      refine reg_quiet 36 rfl (by kernel_rfl) (fun K hK => ?_)
      go_simp
      refine hK _ ?_; clear hK K
      refine reg_quiet 37 rfl (by kernel_rfl) (fun K hK => ?_)
      go_simp
      refine hK _ ?_; clear hK K
      refine reg_done (by kernel_rfl) ?_
      go_wp2_with fail
      go_ret
      exact ⟨rfl, (Hb6.out.drew).trans (hb7.mono Hb6.out.size)⟩
end Go.Proofs.YtbckbkcpfejllaaDoor
