/- pack: four bytes of a number put behind others; a reader that takes them: the walks. -/
import Derived.Test.YtbckbkcpfejllaaDoorLa0
import Derived.Test.YtbckbkcpfejllaaDoorLg
namespace Go.Proofs.YtbckbkcpfejllaaDoor
open Go.RowKit Go.Maps Go.WideMaps Go.Shelf

theorem size_zeroCells (z : Value) (n : Nat) : (Builtin.zeroCells #[z] n).size = n := by simp [Builtin.zeroCells]
theorem grow_at {w : World} {a : Option Addr} {c : Nat} {xs : Bs} (h : Bown w 5 (.slice a xs.length c) xs) (k : Nat) (hk : k ≤ 1000) (hl : xs.length ≤ 1000000000) :
    Calls Tryd.prog 98 #[.slice a xs.length c, .int .i64 k] w fun e w' => ∃ a' c', e = .returned (.slice a' xs.length c') ∧ Bown w' 5 (.slice a' xs.length c') xs ∧ Below w.heap.size w w' ∧ (∀ b, (Value.slice a' xs.length c').ownBlock = some b → (Value.slice a xs.length c).ownBlock = some b ∨ w.heap.size ≤ b) := by
  obtain ⟨i0, hi, hz0, hz1, hz2⟩ := info_parts info_u8
  have hcs : ∃ cs : List Value, cs.length = c ∧ xs.length ≤ c ∧ (a = none → c = 0) ∧ (∀ ad, a = some ad → ∀ (j : Nat) v, cs[j]? = some v → w.cell? (ad.add j) = some v) ∧ cs.take xs.length = xs.map byteV ∧ c ≤ maxLen := by
    rcases h.2 with ⟨e, h0⟩ | ⟨g, cap, cur, e, hg, h1, h2, h3, h4⟩
    · obtain ⟨rfl, _, rfl⟩ := Value.slice.inj e
      have : xs = [] := List.length_eq_zero_iff.1 h0
      subst this
      exact ⟨[], rfl, Nat.le_refl _, fun _ => rfl, (fun ad h => by cases h), rfl, Nat.zero_le _⟩
    · obtain ⟨rfl, _, rfl⟩ := Value.slice.inj e
      refine ⟨cur.toList.take c, by simp; omega, h1, (fun h => by cases h), fun ad hd j v hj => ?_, by rw [List.take_take, Nat.min_eq_left h1]; simpa using h4, h3⟩
      cases hd
      have hadd : (⟨g, 0, none⟩ : Addr).add j = ⟨g, j, none⟩ := by unfold Addr.add; split <;> simp_all
      rw [hadd, cell_at hg]
      rw [List.getElem?_take] at hj
      split at hj
      · simpa using hj
      · cases hj
  obtain ⟨cs, c1, c2, c3, c4, c5, c6⟩ := hcs
  by_cases hroom : xs.length + k ≤ c
  · refine (Any8.slices_Grow_room Tryd.grow98 a xs.length c k w c2 c6 (by omega) hroom).mono ?_
    rintro e w' ⟨rfl, rfl⟩
    exact ⟨a, c, rfl, h, Below.refl _ _, fun b hb => Or.inl hb⟩
  · refine (Any8.slices_Grow_grow Tryd.grow98 i0 (.int .u8 0) hi hz0 (by rw [hz1]; omega) a xs.length c k cs w c2 (by omega) (by rw [hz2]; omega) (by omega) (by rw [hz1, c1]; omega) c3 c4).mono ?_
    rintro e w' ⟨rfl, rfl⟩
    have ht : Tryd.grow98_ren.t 25 = 5 := rfl
    rw [ht]
    clear ht
    have hge := grownCap_ge w (xs.length + k) c 5
    refine ⟨_, _, rfl, ⟨by simp, Or.inr ⟨_, _, _, rfl, heap_alloc_new _ _, by omega, ?_, grownCap_le_maxLen w _ c 5 (by unfold maxLen; omega), ?_⟩⟩, ((Below.refl _ w).drew).alloc (Nat.le_refl _) _, fun b hb => Or.inr ?_⟩
    · have e1 : (Value.int IntKind.u8 0).cells = #[.int .u8 0] := rfl
      rw [e1]
      simp only [Array.size_append, size_zeroCells, List.size_toArray, c1]
      omega
    · rw [Nat.mul_one]
      simp only [Array.toList_append, List.append_assoc]
      rw [List.take_append_of_le_length (by rw [c1]; exact c2)]
      exact c5
    · have : w.heap.size = b := Option.some.inj hb
      omega
theorem byteV_ofNat (m : Nat) : byteV (UInt8.ofNat m) = .int .u8 ((m % 256 : Nat) : Int) := by simp [byteV]
/-- A number's four bytes, the lowest first. -/
def le32 (n : Nat) : Bs := [UInt8.ofNat n, UInt8.ofNat (n / 256), UInt8.ofNat (n / 65536), UInt8.ofNat (n / 16777216)]
set_option maxRecDepth 100000 in
theorem put32_at {w : World} {v : Value} {b : Bs} (hb : Bin w v b) (hl : b.length ≤ 1000000) (n : Nat) (hn : n < 4294967296) :
    Calls Tryd.prog 85 #[v, .int .u32 n, .int .i64 4] w fun e w' => ∃ a c, e = .returned (.slice a (b.length + 4) c) ∧ Bown w' 5 (.slice a (b.length + 4) c) (b ++ le32 n) ∧ Below w.heap.size w w' ∧ (∀ q, (Value.slice a (b.length + 4) c).ownBlock = some q → w.heap.size ≤ q) := by
  have hcl := clone_at hb (by omega)
  obtain ⟨va, vc, rfl⟩ : ∃ a c, v = .slice a b.length c := by obtain ⟨a, c, e, _⟩ := hb; exact ⟨a, c, e⟩
  have Hcl := Lib.hid hcl
  clear hcl hb
  obtain ⟨i0, hi, hz0, hz1, hz2⟩ := info_parts info_u8
  have HI := Lib.hid (And.intro hi (And.intro hz0 (And.intro hz1 hz2)))
  clear hi hz0 hz1 hz2
  go_enter Tryd.func85, Tryd.ntmps85
  go_wp2_with fail
  refine Hcl.out.mono ?_
  rintro e w1 ⟨a1, c1, rfl, hown1, hb1, hf1, _⟩
  have Hown1 := Lib.hid hown1
  have H1 := Lib.hid (And.intro hb1 hf1)
  clear hown1 hb1 hf1
  go_wp2_with fail
  refine (grow_at Hown1.out 4 (by omega) (by omega)).mono ?_
  rintro e w2 ⟨a2, c2, rfl, hown2, hb2, hf2⟩
  have hb2w : Below w.heap.size w w2 := H1.out.1.trans (hb2.mono H1.out.1.size)
  have hf2w : ∀ q, (Value.slice a2 b.length c2).ownBlock = some q → w.heap.size ≤ q := fun q hq => (hf2 q hq).elim (H1.out.2 q) (fun h => Nat.le_trans H1.out.1.size h)
  have H2 := Lib.hid (And.intro hown2 (And.intro hb2w hf2w))
  clear hown2 hb2 hf2 hb2w hf2w
  go_wp2_with fail
  go_loopw [7, 14] (fun vv iv wr => ∃ (k : Nat) (a : Option Addr) (c : Nat), k ≤ 4 ∧ iv = .int .i64 k ∧ vv = .slice a (b.length + k) c ∧ Row wr 5 1 (.slice a (b.length + k) c) (b.length + k) ((b ++ (le32 n).take k).map byteV) ∧ Below w.heap.size w wr ∧ ∀ q, (Value.slice a (b.length + k) c).ownBlock = some q → w.heap.size ≤ q) (fun _ i _ => 4 - (intOf i).toNat)
  case atStart => exact ⟨0, a2, c2, by omega, rfl, rfl, by simpa using H2.out.1, H2.out.2.1, H2.out.2.2⟩
  case round =>
    obtain ⟨k, ra, rc, hk, rfl, rfl, hrow, hbw, hfw⟩ := hrel
    have Hrow := Lib.hid hrow
    have Hbw := Lib.hid (And.intro hbw hfw)
    clear hrow hbw hfw
    by_cases hlt : k < 4
    · obtain rfl | rfl | rfl | rfl : k = 0 ∨ k = 1 ∨ k = 2 ∨ k = 3 := by omega
      · have hrow' : Row (wr.alloc (.cells #[.int .u8 ((n : Int) % 256)] 5)) 5 1 (.slice ra b.length rc) b.length ((b ++ (le32 n).take 0).map byteV) := Hrow.out.keep fun q hq => Below.heap_alloc _ _ _ (Hrow.out.lt q hq)
        have Hrow' := Lib.hid hrow'
        clear hrow'
        go_wp2_with (first
          | (at_builtin; refine wpList_append_row _ rfl _ _ 22 22 rfl rfl _ rfl Hrow'.out (by decide) i0 (.int .u8 0) 1 Tryd.underlying22 HI.out.1 HI.out.2.1 HI.out.2.2.1 HI.out.2.2.2 rfl 1 [_] (src_at (by exact heap_alloc_new wr _) Tryd.underlying22 1 1 rfl (by simp [Value.oneCell'])) (by unfold maxLen; omega) (by omega) ?_; intro b' c' w3 hr3 hk3 hw3 hn3 hz3; replace hk3 : Keeps (fun q => (Value.slice ra b.length rc).ownBlock = some q) (wr.alloc (.cells #[.int .u8 ((n : Int) % 256)] 5)) w3 := hk3; replace hw3 : ∀ q, (Value.slice b' (b.length + 1) c').ownBlock = some q → (Value.slice ra b.length rc).ownBlock = some q ∨ (wr.alloc (.cells #[.int .u8 ((n : Int) % 256)] 5)).heap.size ≤ q := hw3; clear hn3; have Hr3 := Lib.hid hr3; have Hk3 := Lib.hid hk3; have Hw3 := Lib.hid hw3; clear hr3 hk3 hw3 hz3)
          | fail)
        go_roundw
        case rel =>
          have hz := Hbw.out.1.size
          refine ⟨1, b', c', by omega, by go_num, rfl, ?_, (Hbw.out.1.alloc hz _).trans (Hk3.out.below (by simp; omega) fun q hq h => by have := Hbw.out.2 q h; omega), fun q hq => (Hw3.out q hq).elim (Hbw.out.2 q) (fun h => by simp at h; omega)⟩
          have he : (b ++ (le32 n).take 0).map byteV ++ [.int .u8 ((n : Int) % 256)] = (b ++ (le32 n).take 1).map byteV := by
            have e : (le32 n).take 1 = (le32 n).take 0 ++ [UInt8.ofNat (n)] := rfl
            rw [e, ← List.append_assoc, List.map_append (l₂ := [_]), List.map_singleton, byteV_ofNat]
            congr 3
            all_goals omega
          rw [← he]
          exact Hr3.out
        case measure => simp [intOf]
      · have hrow' : Row (wr.alloc (.cells #[.int .u8 ((n : Int) / 256 % 256)] 5)) 5 1 (.slice ra (b.length + 1) rc) (b.length + 1) ((b ++ (le32 n).take 1).map byteV) := Hrow.out.keep fun q hq => Below.heap_alloc _ _ _ (Hrow.out.lt q hq)
        have Hrow' := Lib.hid hrow'
        clear hrow'
        go_wp2_with (first
          | (at_builtin; refine wpList_append_row _ rfl _ _ 22 22 rfl rfl _ rfl Hrow'.out (by decide) i0 (.int .u8 0) 1 Tryd.underlying22 HI.out.1 HI.out.2.1 HI.out.2.2.1 HI.out.2.2.2 rfl 1 [_] (src_at (by exact heap_alloc_new wr _) Tryd.underlying22 1 1 rfl (by simp [Value.oneCell'])) (by unfold maxLen; omega) (by omega) ?_; intro b' c' w3 hr3 hk3 hw3 hn3 hz3; replace hk3 : Keeps (fun q => (Value.slice ra (b.length + 1) rc).ownBlock = some q) (wr.alloc (.cells #[.int .u8 ((n : Int) / 256 % 256)] 5)) w3 := hk3; replace hw3 : ∀ q, (Value.slice b' (b.length + 1 + 1) c').ownBlock = some q → (Value.slice ra (b.length + 1) rc).ownBlock = some q ∨ (wr.alloc (.cells #[.int .u8 ((n : Int) / 256 % 256)] 5)).heap.size ≤ q := hw3; clear hn3; have Hr3 := Lib.hid hr3; have Hk3 := Lib.hid hk3; have Hw3 := Lib.hid hw3; clear hr3 hk3 hw3 hz3)
          | fail)
        go_roundw
        case rel =>
          have hz := Hbw.out.1.size
          refine ⟨2, b', c', by omega, by go_num, rfl, ?_, (Hbw.out.1.alloc hz _).trans (Hk3.out.below (by simp; omega) fun q hq h => by have := Hbw.out.2 q h; omega), fun q hq => (Hw3.out q hq).elim (Hbw.out.2 q) (fun h => by simp at h; omega)⟩
          have he : (b ++ (le32 n).take 1).map byteV ++ [.int .u8 ((n : Int) / 256 % 256)] = (b ++ (le32 n).take 2).map byteV := by
            have e : (le32 n).take 2 = (le32 n).take 1 ++ [UInt8.ofNat (n / 256)] := rfl
            rw [e, ← List.append_assoc, List.map_append (l₂ := [_]), List.map_singleton, byteV_ofNat]
            congr 3
            all_goals omega
          rw [← he]
          exact Hr3.out
        case measure => simp [intOf]
      · have hrow' : Row (wr.alloc (.cells #[.int .u8 ((n : Int) / 65536 % 256)] 5)) 5 1 (.slice ra (b.length + 2) rc) (b.length + 2) ((b ++ (le32 n).take 2).map byteV) := Hrow.out.keep fun q hq => Below.heap_alloc _ _ _ (Hrow.out.lt q hq)
        have Hrow' := Lib.hid hrow'
        clear hrow'
        go_wp2_with (first
          | (at_builtin; refine wpList_append_row _ rfl _ _ 22 22 rfl rfl _ rfl Hrow'.out (by decide) i0 (.int .u8 0) 1 Tryd.underlying22 HI.out.1 HI.out.2.1 HI.out.2.2.1 HI.out.2.2.2 rfl 1 [_] (src_at (by exact heap_alloc_new wr _) Tryd.underlying22 1 1 rfl (by simp [Value.oneCell'])) (by unfold maxLen; omega) (by omega) ?_; intro b' c' w3 hr3 hk3 hw3 hn3 hz3; replace hk3 : Keeps (fun q => (Value.slice ra (b.length + 2) rc).ownBlock = some q) (wr.alloc (.cells #[.int .u8 ((n : Int) / 65536 % 256)] 5)) w3 := hk3; replace hw3 : ∀ q, (Value.slice b' (b.length + 2 + 1) c').ownBlock = some q → (Value.slice ra (b.length + 2) rc).ownBlock = some q ∨ (wr.alloc (.cells #[.int .u8 ((n : Int) / 65536 % 256)] 5)).heap.size ≤ q := hw3; clear hn3; have Hr3 := Lib.hid hr3; have Hk3 := Lib.hid hk3; have Hw3 := Lib.hid hw3; clear hr3 hk3 hw3 hz3)
          | fail)
        go_roundw
        case rel =>
          have hz := Hbw.out.1.size
          refine ⟨3, b', c', by omega, by go_num, rfl, ?_, (Hbw.out.1.alloc hz _).trans (Hk3.out.below (by simp; omega) fun q hq h => by have := Hbw.out.2 q h; omega), fun q hq => (Hw3.out q hq).elim (Hbw.out.2 q) (fun h => by simp at h; omega)⟩
          have he : (b ++ (le32 n).take 2).map byteV ++ [.int .u8 ((n : Int) / 65536 % 256)] = (b ++ (le32 n).take 3).map byteV := by
            have e : (le32 n).take 3 = (le32 n).take 2 ++ [UInt8.ofNat (n / 65536)] := rfl
            rw [e, ← List.append_assoc, List.map_append (l₂ := [_]), List.map_singleton, byteV_ofNat]
            congr 3
            all_goals omega
          rw [← he]
          exact Hr3.out
        case measure => simp [intOf]
      · have hrow' : Row (wr.alloc (.cells #[.int .u8 ((n : Int) / 16777216)] 5)) 5 1 (.slice ra (b.length + 3) rc) (b.length + 3) ((b ++ (le32 n).take 3).map byteV) := Hrow.out.keep fun q hq => Below.heap_alloc _ _ _ (Hrow.out.lt q hq)
        have Hrow' := Lib.hid hrow'
        clear hrow'
        go_wp2_with (first
          | (at_builtin; refine wpList_append_row _ rfl _ _ 22 22 rfl rfl _ rfl Hrow'.out (by decide) i0 (.int .u8 0) 1 Tryd.underlying22 HI.out.1 HI.out.2.1 HI.out.2.2.1 HI.out.2.2.2 rfl 1 [_] (src_at (by exact heap_alloc_new wr _) Tryd.underlying22 1 1 rfl (by simp [Value.oneCell'])) (by unfold maxLen; omega) (by omega) ?_; intro b' c' w3 hr3 hk3 hw3 hn3 hz3; replace hk3 : Keeps (fun q => (Value.slice ra (b.length + 3) rc).ownBlock = some q) (wr.alloc (.cells #[.int .u8 ((n : Int) / 16777216)] 5)) w3 := hk3; replace hw3 : ∀ q, (Value.slice b' (b.length + 3 + 1) c').ownBlock = some q → (Value.slice ra (b.length + 3) rc).ownBlock = some q ∨ (wr.alloc (.cells #[.int .u8 ((n : Int) / 16777216)] 5)).heap.size ≤ q := hw3; clear hn3; have Hr3 := Lib.hid hr3; have Hk3 := Lib.hid hk3; have Hw3 := Lib.hid hw3; clear hr3 hk3 hw3 hz3)
          | fail)
        go_roundw
        case rel =>
          have hz := Hbw.out.1.size
          refine ⟨4, b', c', by omega, by go_num, rfl, ?_, (Hbw.out.1.alloc hz _).trans (Hk3.out.below (by simp; omega) fun q hq h => by have := Hbw.out.2 q h; omega), fun q hq => (Hw3.out q hq).elim (Hbw.out.2 q) (fun h => by simp at h; omega)⟩
          have he : (b ++ (le32 n).take 3).map byteV ++ [.int .u8 ((n : Int) / 16777216)] = (b ++ (le32 n).take 4).map byteV := by
            have e : (le32 n).take 4 = (le32 n).take 3 ++ [UInt8.ofNat (n / 16777216)] := rfl
            rw [e, ← List.append_assoc, List.map_append (l₂ := [_]), List.map_singleton, byteV_ofNat]
            congr 3
            all_goals omega
          rw [← he]
          exact Hr3.out
        case measure => simp [intOf]
    · obtain rfl : k = 4 := by omega
      go_wp2_with fail
      go_ret
      refine ⟨ra, rc, rfl, ?_, Hbw.out.1, Hbw.out.2⟩
      have e : (b ++ le32 n).length = b.length + 4 := by rw [List.length_append]; rfl
      unfold Bown
      rw [e]
      exact Hrow.out
theorem u32_at {w : World} {v : Value} {b : Bs} (hb : Bin w v b) (hl : b.length ≤ 1000000) (n : Nat) (hn : n < 4294967296) :
    Calls Tryd.prog 73 #[v, .int .u32 n] w fun e w' => ∃ a c, e = .returned (.slice a (b.length + 4) c) ∧ Bown w' 5 (.slice a (b.length + 4) c) (b ++ le32 n) ∧ Below w.heap.size w w' ∧ (∀ q, (Value.slice a (b.length + 4) c).ownBlock = some q → w.heap.size ≤ q) := by
  have hp := put32_at hb hl n hn
  obtain ⟨va, vc, rfl⟩ : ∃ a c, v = .slice a b.length c := by obtain ⟨a, c, e, _⟩ := hb; exact ⟨a, c, e⟩
  have Hp := Lib.hid hp
  clear hp hb
  go_enter Tryd.func73, Tryd.ntmps73
  go_wp2_with fail
  refine Hp.out.mono ?_
  rintro e w1 ⟨a1, c1, rfl, h1⟩
  have H1 := Lib.hid h1
  clear h1
  go_wp2_with fail
  go_ret
  exact ⟨a1, c1, rfl, H1.out⟩
end Go.Proofs.YtbckbkcpfejllaaDoor
