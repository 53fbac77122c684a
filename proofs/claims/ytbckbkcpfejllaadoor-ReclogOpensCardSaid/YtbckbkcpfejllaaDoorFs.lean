/- reclog: the frames of records, one behind the other: the walk. -/
import Derived.Test.YtbckbkcpfejllaaDoorSc
namespace Go.Proofs.YtbckbkcpfejllaaDoor
open Go.RowKit Go.Maps Go.WideMaps

def framesP (h : Bs) (l : List Bs) : Bs := h ++ (l.map frameP).flatten
theorem framesP_snoc (h : Bs) (l : List Bs) (r : Bs) : framesP h (l ++ [r]) = framesP h l ++ frameP r := by simp [framesP]
/-- Records that can be read: a slice of slices. -/
def RecsIn (w : World) (v : Value) (l : List Bs) : Prop := ∃ vs, Lst w v vs ∧ vs.length = l.length ∧ ∀ j (h1 : j < vs.length) (h2 : j < l.length), Bin w vs[j] l[j]
set_option maxRecDepth 100000 in
set_option maxHeartbeats 1000000 in
theorem frames_at {w : World} {a : Option Addr} {c : Nat} {h : Bs} {v : Value} {l : List Bs} (hh : Bown w 5 (.slice a h.length c) h) (hr : RecsIn w v l) (hl : l.length ≤ 100) (hs : ∀ x ∈ l, x.length ≤ 4096) (hhl : h.length ≤ 1000) (N : Nat) (hN : N ≤ w.heap.size) (hown : ∀ q, (Value.slice a h.length c).ownBlock = some q → N ≤ q)
    (hsep : ∀ w', Below N w w' → RecsIn w' v l) :
    Calls Tryd.prog 45 #[.slice a h.length c, v] w fun e w' => ∃ a' c', e = .returned (.tuple #[.slice a' (framesP h l).length c', .int .i64 0]) ∧ Bown w' 5 (.slice a' (framesP h l).length c') (framesP h l) ∧ Below N w w' ∧ ∀ q, (Value.slice a' (framesP h l).length c').ownBlock = some q → N ≤ q := by
  obtain ⟨va, vc, rfl⟩ : ∃ x y, v = .slice x l.length y := by obtain ⟨vs, ⟨x, y, e, _⟩, h2, _⟩ := hr; exact ⟨x, y, by rw [e, h2]⟩
  have Hsep := Lib.hid hsep
  have Hs := Lib.hid hs
  have Hh := Lib.hid hh
  obtain ⟨n, hn⟩ : ∃ n, l.length = n := ⟨_, rfl⟩
  have Hn := Lib.hid hn
  rw [hn] at hl Hsep ⊢
  have Hown := Lib.hid hown
  obtain ⟨i0, hi, hz0, hz1, hz2⟩ := info_parts info_u8
  have HI := Lib.hid (And.intro hi (And.intro hz0 (And.intro hz1 hz2)))
  clear hi hz0 hz1 hz2 hsep hs hh hn hr hown
  go_enter Tryd.func45, Tryd.ntmps45
  go_wp2_with fail
  go_loopw [0, 12] (fun bv iv wr => ∃ (j : Nat) (xs : Bs) (a : Option Addr) (c : Nat), j ≤ n ∧ iv = .int .i64 j ∧ bv = .slice a xs.length c ∧ Bown wr 5 (.slice a xs.length c) xs ∧ xs = framesP h (l.take j) ∧ xs.length ≤ 1000 + 5000 * j ∧ Below N w wr ∧ ∀ q, (Value.slice a xs.length c).ownBlock = some q → N ≤ q) (fun _ iv _ => n - (intOf iv).toNat)
  case atStart => exact ⟨0, h, a, c, Nat.zero_le _, rfl, rfl, Hh.out, by simp [framesP], by omega, ⟨rfl, rfl, rfl, Nat.le_refl _, fun _ _ => rfl⟩, Hown.out⟩
  case round =>
    obtain ⟨j, xs, ra, rc, hj, rfl, rfl, hb, hx, hxl, hbw, hfw⟩ := hrel
    have Hb := Lib.hid hb
    have Hx := Lib.hid hx
    have Hbw := Lib.hid hbw
    have Hfw := Lib.hid hfw
    clear hb hx hbw hfw
    by_cases hlt : j < n
    · have hjl : j < l.length := by rw [Hn.out]; exact hlt
      obtain ⟨vs, ⟨a0, _, e0, _, _, hc⟩, h2, hbin⟩ := Hsep.out wr Hbw.out
      have hjv : j < vs.length := by omega
      injection e0 with e1 e2 e3
      subst e1 e3
      clear e2
      obtain ⟨ab, ao, rfl, hcell⟩ := hc j hjv
      have hbj := hbin j hjv hjl
      obtain ⟨u, hu⟩ : ∃ u, vs[j] = u := ⟨_, rfl⟩
      obtain ⟨r, hre⟩ : ∃ r, l[j] = r := ⟨_, rfl⟩
      rw [hu] at hcell hbj
      rw [hre] at hbj
      have hrl : r.length ≤ 4096 := hre ▸ Hs.out _ (List.getElem_mem hjl)
      have hnext : framesP h (l.take (j + 1)) = framesP h (l.take j) ++ frameP r := by rw [List.take_succ_eq_append_getElem hjl, framesP_snoc, hre]
      have Hnext := Lib.hid hnext
      obtain ⟨ua, uc, rfl⟩ : ∃ x y, u = .slice x r.length y := by obtain ⟨x, y, e, _⟩ := hbj; exact ⟨x, y, e⟩
      have Hbj := Lib.hid hbj
      clear hu hre hnext hbj h2 hbin hc
      go_wp2_with fail
      refine (frame_good Hbj.out hrl).mono ?_
      rintro e0 w2 ⟨fa, fc, rfl, hown, hb2, hf2⟩
      have hrow2 : Row w2 5 1 (.slice ra xs.length rc) xs.length (xs.map byteV) := Hb.out.keep fun q hq => hb2.block q (Hb.out.lt q hq)
      have hfb : Bin w2 (.slice fa (8 + r.length) fc) (frameP r) := by
        have := Bown.bin (xs := frameP r) (v := .slice fa (8 + r.length) fc) hown
        exact this
      have hsrc := hfb.src (tx := 22) Tryd.underlying22
      rw [len_frameP] at hsrc
      have Hrow2 := Lib.hid hrow2
      have Hsrc := Lib.hid hsrc
      have Hb2 := Lib.hid (Hbw.out.trans (hb2.mono (Nat.le_trans hN Hbw.out.size)))
      have Hz2 := Lib.hid hb2.size
      clear hrow2 hfb hsrc hown hb2 hf2
      go_wp2_with (first
        | (at_builtin; refine wpList_append_row _ rfl _ _ 22 22 rfl rfl _ rfl Hrow2.out (by decide) i0 (.int .u8 0) 1 Tryd.underlying22 HI.out.1 HI.out.2.1 HI.out.2.2.1 HI.out.2.2.2 rfl (8 + r.length) _ Hsrc.out (by unfold maxLen; omega) (by omega) ?_; intro b' c' w3 hr3 hk3 hw3 hn3 hz3; replace hk3 : Keeps (fun q => (Value.slice ra xs.length rc).ownBlock = some q) w2 w3 := hk3; replace hw3 : ∀ q, (Value.slice b' (xs.length + (8 + r.length)) c').ownBlock = some q → (Value.slice ra xs.length rc).ownBlock = some q ∨ w2.heap.size ≤ q := hw3; clear hn3; have Hr3 := Lib.hid hr3; have Hk3 := Lib.hid hk3; have Hw3 := Lib.hid hw3; clear hr3 hk3 hw3 hz3)
        | fail)
      go_roundw
      case rel =>
        have hlen : (xs ++ frameP r).length = xs.length + (8 + r.length) := by rw [List.length_append, len_frameP]
        refine ⟨j + 1, xs ++ frameP r, b', c', by omega, by go_num, by rw [hlen], ?_, by rw [Hnext.out, ← Hx.out], by rw [hlen]; omega, Hb2.out.trans (Hk3.out.below (Nat.le_trans hN Hb2.out.size) fun q hq h => by have := Hfw.out q h; omega), fun q hq => ?_⟩
        · unfold Bown
          rw [hlen, List.map_append]
          exact Hr3.out
        · rw [hlen] at hq
          exact (Hw3.out q hq).elim (Hfw.out q) (fun h => Nat.le_trans (Nat.le_trans hN Hb2.out.size) h)
      case measure => simp [intOf]; omega
    · obtain rfl : j = n := by omega
      have hx2 : xs = framesP h l := by rw [Hx.out, List.take_of_length_le (by rw [Hn.out]; exact Nat.le_refl _)]
      have Hx2 := Lib.hid hx2
      clear hx2
      go_wp2_with fail
      go_ret2
      rw [← Hx2.out]
      exact ⟨ra, rc, rfl, Hb.out, Hbw.out, Hfw.out⟩
end Go.Proofs.YtbckbkcpfejllaaDoor
