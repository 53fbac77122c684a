/- pack's reader: what is taken of bytes: the walks. -/
import Derived.Test.YtbckbkcpfejllaaDoorPk
import Derived.Laws.BitsAllLaws
namespace Go.Proofs.YtbckbkcpfejllaaDoor
open Go.RowKit Go.Maps Go.WideMaps

/-- A reader stands at r: xs are left; bad: there was not enough. -/
def Rd (w : World) (r : Nat) (xs : Bs) (bad : Bool) : Prop := ∃ v, w.heap[r]? = some (.cells #[v, .bool bad] 116 (0, 0)) ∧ Bin w v xs ∧ (xs ≠ [] → ∀ q, v.ownBlock = some q → q ≠ r)
theorem new_reader_at {w : World} {v : Value} {b : Bs} (hb : Bin w v b) (hl : b.length ≤ 1000000) :
    Calls Tryd.prog 67 #[v] w fun e w' => ∃ r, e = .returned (.pointer (some ⟨r, 0, none⟩)) ∧ w.heap.size ≤ r ∧ Rd w' r b false ∧ Below w.heap.size w w' := by
  have hcl := clone_at hb (by omega)
  obtain ⟨va, vc, rfl⟩ : ∃ a c, v = .slice a b.length c := by obtain ⟨a, c, e, _⟩ := hb; exact ⟨a, c, e⟩
  have Hcl := Lib.hid hcl
  clear hcl hb
  go_enter Tryd.func67, Tryd.ntmps67
  go_wp2_with fail
  refine Hcl.out.mono ?_
  rintro e w1 ⟨a1, c1, rfl, hown1, hb1, hf1, _⟩
  have H1 := Lib.hid (And.intro hown1 (And.intro hb1 hf1))
  clear hown1 hb1 hf1
  go_wp2_with fail
  go_ret
  have hz := H1.out.2.1.size
  refine ⟨w1.heap.size, rfl, hz, ⟨_, heap_alloc_new w1 _, (Bown.bin H1.out.1).alloc _, fun hne q hq e => ?_⟩, H1.out.2.1.alloc hz _⟩
  have := H1.out.1.lt q hq
  omega
theorem Bin.dropA {w : World} {a : Option Addr} {n cap : Nat} {xs : Bs} (h : Bin w (.slice a n cap) xs) {m : Nat} (hm : m ≤ xs.length) : Bin w (.slice (Option.map (fun x => x.add m) a) (xs.length - m) (cap - m)) (xs.drop m) := by
  obtain ⟨a', cap', e, h1, h3, h4⟩ := h
  obtain ⟨rfl, rfl, rfl⟩ := Value.slice.inj e
  have hl : (xs.drop m).length = xs.length - m := List.length_drop
  refine ⟨_, _, by rw [hl], by omega, fun hn => ?_, fun j hj => ?_⟩
  · cases a with
    | none => have := h3 rfl; omega
    | some ad => cases hn
  · obtain ⟨b, off, rfl, hc⟩ := h4 (m + j) (by omega)
    have hadd : (⟨b, off, none⟩ : Addr).add m = ⟨b, off + m, none⟩ := by unfold Addr.add; split <;> simp_all
    exact ⟨b, off + m, by simp [hadd], by rw [Nat.add_assoc, hc]; simp⟩
theorem Bin.setr {w : World} {v : Value} {xs : Bs} (h : Bin w v xs) {r : Nat} (hne : xs ≠ [] → ∀ q, v.ownBlock = some q → q ≠ r) (u : Value) (o : Nat) : Bin (w.setCell ⟨r, o, none⟩ u) v xs :=
  h.keepN fun hx q hq _ => Below.heap_setCell _ _ _ _ (hne hx q hq)
set_option maxRecDepth 100000 in
theorem take_good {w : World} {r : Nat} {xs : Bs} (h : Rd w r xs false) (m : Nat) (hm : m ≤ xs.length) (_hl : xs.length ≤ 1000000) :
    Calls Tryd.prog 95 #[.pointer (some ⟨r, 0, none⟩), .int .i64 m] w fun e w' => ∃ a c, e = .returned (.slice a m c) ∧ Bin w' (.slice a m c) (xs.take m) ∧ Rd w' r (xs.drop m) false ∧ Keeps (fun b => b = r) w w' := by
  obtain ⟨v, hr, hb, hne⟩ := h
  obtain ⟨va, vc, rfl⟩ : ∃ a c, v = .slice a xs.length c := by obtain ⟨a, c, e, _⟩ := hb; exact ⟨a, c, e⟩
  have hvc : xs.length ≤ vc := by
    obtain ⟨_, _, e, h1, _⟩ := hb
    obtain ⟨_, _, rfl⟩ := Value.slice.inj e
    exact h1
  have k0 : w.cell? ⟨r, 0, none⟩ = some (.slice va xs.length vc) := by rw [cell_at hr]; rfl
  have k1 : w.cell? ⟨r, 1, none⟩ = some (.bool false) := by rw [cell_at hr]; rfl
  have g0 : w.frozen? ⟨r, 0, none⟩ = false := frozen_at hr
  have hmv : m ≤ vc := by omega
  have Hr := Lib.hid (And.intro hr (And.intro hb hne))
  clear hr hb hne
  go_enter Tryd.func95, Tryd.ntmps95
  go_wp2_with fail
  · go_ret
    obtain ⟨hr, hb, hne⟩ := Hr.out
    have hd : xs.drop m = [] := List.drop_eq_nil_of_le (by omega)
    have htk : xs.take m = xs := List.take_of_length_le (by omega)
    have hl0 : xs.length - m = 0 := by omega
    have hlm : xs.length = m := by omega
    refine ⟨va, m, rfl, ?_, ⟨_, by rw [heap_setCell_at hr]; rfl, ?_, fun h => absurd hd h⟩, (Keeps.refl (fun b => b = r) w).setCell (p := ⟨r, 0, none⟩) (fun _ => rfl) _⟩
    · rw [htk]
      have hvm : vc = m := by omega
      rw [hlm, hvm] at hb hne
      exact Bin.setr hb hne _ _
    · rw [hd, hl0]
      exact ⟨va, 0, rfl, Nat.le_refl _, fun _ => rfl, fun j hj => by cases hj⟩
  · go_ret
    obtain ⟨hr, hb, hne⟩ := Hr.out
    have hne1 : xs.take m ≠ [] → ∀ q, (Value.slice va m vc).ownBlock = some q → q ≠ r := fun h q hq => hne (fun e => h (by rw [e]; simp)) q (by rw [own_slice va _ vc m vc]; exact hq)
    have hne2 : xs.drop m ≠ [] → ∀ q, (Value.slice (Option.map (fun x => x.add m) va) (xs.length - m) (vc - m)).ownBlock = some q → q ≠ r := fun h q hq => hne (fun e => h (by rw [e]; simp)) q (by
      cases va with
      | none => cases hq
      | some ad =>
        have : (ad.add m).block = q := Option.some.inj hq
        have e : (ad.add m).block = ad.block := by unfold Addr.add; split <;> rfl
        show some ad.block = some q
        rw [← this, e])
    exact ⟨va, vc, rfl, (hb.take hm).setr hne1 _ _, ⟨_, by rw [heap_setCell_at hr]; rfl, (hb.dropA hm).setr hne2 _ _, hne2⟩, (Keeps.refl (fun b => b = r) w).setCell (p := ⟨r, 0, none⟩) (fun _ => rfl) _⟩
set_option maxRecDepth 100000 in
/-- There are not so many bytes, or there were not. -/
theorem take_bad {w : World} {r : Nat} {xs : Bs} {bad : Bool} (h : Rd w r xs bad) (m : Nat) (hm : bad = true ∨ xs.length < m) (_hl : xs.length ≤ 1000000) :
    Calls Tryd.prog 95 #[.pointer (some ⟨r, 0, none⟩), .int .i64 m] w fun e w' => e = .returned (.slice none 0 0) ∧ Rd w' r [] true ∧ Keeps (fun b => b = r) w w' := by
  obtain ⟨v, hr, hb, hne⟩ := h
  obtain ⟨va, vc, rfl⟩ : ∃ a c, v = .slice a xs.length c := by obtain ⟨a, c, e, _⟩ := hb; exact ⟨a, c, e⟩
  have k0 : w.cell? ⟨r, 0, none⟩ = some (.slice va xs.length vc) := by rw [cell_at hr]; rfl
  have k1 : w.cell? ⟨r, 1, none⟩ = some (.bool bad) := by rw [cell_at hr]; rfl
  have g0 : w.frozen? ⟨r, 0, none⟩ = false := frozen_at hr
  have g1 : w.frozen? ⟨r, 1, none⟩ = false := frozen_at hr
  have Hr := Lib.hid hr
  clear hr hb hne
  have hfin : ∃ w' : World, w' = (w.setCell ⟨r, 1, none⟩ (.bool true)).setCell ⟨r, 0, none⟩ (.slice none 0 0) ∧ Rd w' r [] true ∧ Keeps (fun b => b = r) w w' := by
    refine ⟨_, rfl, ⟨.slice none 0 0, by rw [heap_setCell_at (heap_setCell_at Hr.out _)]; rfl, Bin.nil _, fun h => absurd rfl h⟩, ((Keeps.refl (fun b => b = r) w).setCell (p := ⟨r, 1, none⟩) (fun _ => rfl) _).setCell (p := ⟨r, 0, none⟩) (fun _ => rfl) _⟩
  obtain ⟨w', hw', h1, h2⟩ := hfin
  have H := Lib.hid (And.intro hw' (And.intro h1 h2))
  clear hw' h1 h2
  cases bad
  · have hlt : xs.length < m := hm.resolve_left (by simp)
    have gd : decide ((xs.length : Int) < (m : Int)) = true := by simp; omega
    clear hm
    go_enter Tryd.func95, Tryd.ntmps95
    go_wp2_with fail
    go_ret
    rw [← H.out.1]
    exact ⟨rfl, H.out.2⟩
  · clear hm
    go_enter Tryd.func95, Tryd.ntmps95
    go_wp2_with fail
    go_ret
    rw [← H.out.1]
    exact ⟨rfl, H.out.2⟩
theorem right_reader_at {w : World} {r : Nat} {xs : Bs} {bad : Bool} (h : Rd w r xs bad) : Calls Tryd.prog 69 #[.pointer (some ⟨r, 0, none⟩)] w fun e w' => e = .returned (.bool (!bad)) ∧ w = w' := by
  obtain ⟨v, hr, _, _⟩ := h
  have k1 : w.cell? ⟨r, 1, none⟩ = some (.bool bad) := by rw [cell_at hr]; rfl
  clear hr
  go_enter Tryd.func69, Tryd.ntmps69
  go_wp2_with fail
  go_ret
  exact ⟨rfl, rfl⟩
theorem left_at {w : World} {r : Nat} {xs : Bs} {bad : Bool} (h : Rd w r xs bad) : Calls Tryd.prog 70 #[.pointer (some ⟨r, 0, none⟩)] w fun e w' => e = .returned (.int .i64 xs.length) ∧ w = w' := by
  obtain ⟨v, hr, hb, _⟩ := h
  obtain ⟨va, vc, rfl⟩ : ∃ a c, v = .slice a xs.length c := by obtain ⟨a, c, e, _⟩ := hb; exact ⟨a, c, e⟩
  have k0 : w.cell? ⟨r, 0, none⟩ = some (.slice va xs.length vc) := by rw [cell_at hr]; rfl
  clear hr hb
  go_enter Tryd.func70, Tryd.ntmps70
  go_wp2_with fail
  go_ret
  exact ⟨rfl, rfl⟩
theorem or32 {a b : Nat} (i : Nat) (ha : a < 2 ^ i) (hb : b % 2 ^ i = 0) (h1 : a < 4294967296) (h2 : b < 4294967296) : bits .or .u32 (a : Int) (b : Int) = ((a + b : Nat) : Int) := by
  rw [u32_or_nat a b h1 h2, Nat.or_comm, nat_join i b a hb ha, Nat.add_comm]
def part4 (n0 n1 n2 n3 : Nat) : Nat → Nat
  | 0 => 0
  | 1 => n0
  | 2 => n0 + n1 * 256
  | 3 => n0 + n1 * 256 + n2 * 65536
  | _ => n0 + n1 * 256 + n2 * 65536 + n3 * 16777216
/-- The number of bytes, the lowest first, so many of them. -/
def valN : Nat → Bs → Nat
  | 0, _ => 0
  | k + 1, xs => valN k xs + (xs.getD k 0).toNat * 256 ^ k
def val32 (xs : Bs) : Nat := valN 4 xs
set_option maxRecDepth 100000 in
theorem get_good {w : World} {r : Nat} {xs : Bs} (h : Rd w r xs false) (hm : 4 ≤ xs.length) (hl : xs.length ≤ 1000000) :
    Calls Tryd.prog 83 #[.pointer (some ⟨r, 0, none⟩), .int .i64 4] w fun e w' => e = .returned (.int .u32 (val32 xs)) ∧ Rd w' r (xs.drop 4) false ∧ Keeps (fun b => b = r) w w' := by
  have ht := take_good h 4 hm hl
  have Ht := Lib.hid ht
  clear ht h
  obtain ⟨n0, e0⟩ : ∃ n, (xs.getD 0 0).toNat = n := ⟨_, rfl⟩
  obtain ⟨n1, e1⟩ : ∃ n, (xs.getD 1 0).toNat = n := ⟨_, rfl⟩
  obtain ⟨n2, e2⟩ : ∃ n, (xs.getD 2 0).toNat = n := ⟨_, rfl⟩
  obtain ⟨n3, e3⟩ : ∃ n, (xs.getD 3 0).toNat = n := ⟨_, rfl⟩
  have b0 : n0 < 256 := by rw [← e0]; exact UInt8.toNat_lt _
  have b1 : n1 < 256 := by rw [← e1]; exact UInt8.toNat_lt _
  have b2 : n2 < 256 := by rw [← e2]; exact UInt8.toNat_lt _
  have b3 : n3 < 256 := by rw [← e3]; exact UInt8.toNat_lt _
  have hv : val32 xs = n0 + n1 * 256 + n2 * 65536 + n3 * 16777216 := by
    simp only [val32, valN, e0, e1, e2, e3]
    omega
  have hcells : ∀ (w1 : World) (a : Option Addr) (c : Nat), Bin w1 (.slice a 4 c) (xs.take 4) → ∃ b o, a = some ⟨b, o, none⟩ ∧ w1.cell? ⟨b, o, none⟩ = some (.int .u8 n0) ∧ w1.cell? ⟨b, o + 1, none⟩ = some (.int .u8 n1) ∧ w1.cell? ⟨b, o + 2, none⟩ = some (.int .u8 n2) ∧ w1.cell? ⟨b, o + 3, none⟩ = some (.int .u8 n3) := by
    intro w1 a c hb
    obtain ⟨_, _, e, _, _, h4⟩ := hb
    obtain ⟨rfl, _, _⟩ := Value.slice.inj e
    have hl4 : (xs.take 4).length = 4 := by rw [List.length_take]; omega
    obtain ⟨b, o, rfl, _⟩ := h4 0 (by omega)
    have g : ∀ j n, j < 4 → (xs.getD j 0).toNat = n → w1.cell? ⟨b, o + j, none⟩ = some (.int .u8 n) := fun j n hj hn => by
      obtain ⟨b', o', e', hc⟩ := h4 j (by omega)
      obtain ⟨rfl, rfl, _⟩ := Addr.mk.inj (Option.some.inj e')
      rw [hc, ← hn]
      have : (xs.take 4)[j]'(by omega) = xs.getD j 0 := by
        rw [List.getElem_take, List.getD_eq_getElem?_getD, List.getElem?_eq_getElem (show j < xs.length by omega)]; rfl
      rw [this]; rfl
    exact ⟨b, o, rfl, g 0 n0 (by omega) e0, g 1 n1 (by omega) e1, g 2 n2 (by omega) e2, g 3 n3 (by omega) e3⟩
  have Hv := Lib.hid hv
  have Hc := Lib.hid hcells
  clear hv hcells e0 e1 e2 e3
  go_enter Tryd.func83, Tryd.ntmps83
  go_wp2_with fail
  refine Ht.out.mono ?_
  rintro e w1 ⟨a, c, rfl, hb, hrd, hk⟩
  obtain ⟨ab, ao, rfl, c0, c1, c2, c3⟩ := Hc.out _ _ _ hb
  have Hrd := Lib.hid (And.intro hrd hk)
  clear hb hrd hk
  go_wp2_with fail
  go_loopw [5, 13] (fun v i wr => ∃ k : Nat, k ≤ 4 ∧ i = .int .i64 k ∧ v = .int .u32 (part4 n0 n1 n2 n3 k : Nat) ∧ w1 = wr) (fun _ i _ => 4 - (intOf i).toNat)
  case atStart => exact ⟨0, by omega, rfl, rfl, rfl⟩
  case round =>
    obtain ⟨k, hk, rfl, rfl, rfl⟩ := hrel
    by_cases hlt : k < 4
    · obtain rfl | rfl | rfl | rfl : k = 0 ∨ k = 1 ∨ k = 2 ∨ k = 3 := by omega
      · have ho : bits .or .u32 0 (n0 : Int) = ((n0 : Nat) : Int) := by have := or32 (a := 0) (b := n0) 0 (by omega) (by omega) (by omega) (by omega); simpa using this
        simp only [part4]
        go_wp2_with fail
        go_roundw
        case rel => exact ⟨1, by omega, by go_num, rfl, trivial⟩
        case measure => simp [intOf]
      · have ho : bits .or .u32 (n0 : Int) ((n1 : Int) * 256) = ((n0 + n1 * 256 : Nat) : Int) := by have := or32 (a := n0) (b := n1 * 256) 8 (by omega) (by omega) (by omega) (by omega); simpa using this
        simp only [part4]
        go_wp2_with fail
        go_roundw
        case rel => exact ⟨2, by omega, by go_num, by simp [], trivial⟩
        case measure => simp [intOf]
      · have ho : bits .or .u32 ((n0 : Int) + (n1 : Int) * 256) ((n2 : Int) * 65536) = ((n0 + n1 * 256 + n2 * 65536 : Nat) : Int) := by have := or32 (a := n0 + n1 * 256) (b := n2 * 65536) 16 (by omega) (by omega) (by omega) (by omega); simpa using this
        simp only [part4]
        go_wp2_with fail
        go_roundw
        case rel => exact ⟨3, by omega, by go_num, by simp [], trivial⟩
        case measure => simp [intOf]
      · have ho : bits .or .u32 ((n0 : Int) + (n1 : Int) * 256 + (n2 : Int) * 65536) ((n3 : Int) * 16777216) = ((n0 + n1 * 256 + n2 * 65536 + n3 * 16777216 : Nat) : Int) := by have := or32 (a := n0 + n1 * 256 + n2 * 65536) (b := n3 * 16777216) 24 (by omega) (by omega) (by omega) (by omega); simpa using this
        simp only [part4]
        go_wp2_with fail
        go_roundw
        case rel => exact ⟨4, by omega, by go_num, by simp [], trivial⟩
        case measure => simp [intOf]
    · obtain rfl : k = 4 := by omega
      simp only [part4]
      go_wp2_with fail
      go_ret
      exact ⟨by rw [Hv.out]; rfl, Hrd.out⟩
set_option maxRecDepth 100000 in
theorem get_bad {w : World} {r : Nat} {xs : Bs} {bad : Bool} (h : Rd w r xs bad) (hm : bad = true ∨ xs.length < 4) (hl : xs.length ≤ 1000000) :
    Calls Tryd.prog 83 #[.pointer (some ⟨r, 0, none⟩), .int .i64 4] w fun e w' => e = .returned (.int .u32 0) ∧ Rd w' r [] true ∧ Keeps (fun b => b = r) w w' := by
  have ht := take_bad h 4 hm hl
  have Ht := Lib.hid ht
  clear ht h hm
  go_enter Tryd.func83, Tryd.ntmps83
  go_wp2_with fail
  refine Ht.out.mono ?_
  rintro e w1 ⟨rfl, hrd⟩
  have Hrd := Lib.hid hrd
  clear hrd
  go_wp2_with fail
  go_loopw [5, 13] (fun v i wr => i = .int .i64 0 ∧ v = .int .u32 0 ∧ w1 = wr) (fun _ _ _ => 0)
  case atStart => exact ⟨rfl, rfl, rfl⟩
  case round =>
    obtain ⟨rfl, rfl, rfl⟩ := hrel
    go_wp2_with fail
    go_ret
    exact ⟨rfl, Hrd.out⟩
theorem rU32_good {w : World} {r : Nat} {xs : Bs} (h : Rd w r xs false) (hm : 4 ≤ xs.length) (hl : xs.length ≤ 1000000) :
    Calls Tryd.prog 68 #[.pointer (some ⟨r, 0, none⟩)] w fun e w' => e = .returned (.int .u32 (val32 xs)) ∧ Rd w' r (xs.drop 4) false ∧ Keeps (fun b => b = r) w w' := by
  have hg := get_good h hm hl
  have Hg := Lib.hid hg
  clear hg h
  go_enter Tryd.func68, Tryd.ntmps68
  go_wp2_with fail
  refine Hg.out.mono ?_
  rintro e w1 ⟨rfl, hrd⟩
  have Hrd := Lib.hid hrd
  clear hrd
  go_wp2_with fail
  go_ret
  exact ⟨rfl, Hrd.out⟩
theorem rU32_bad {w : World} {r : Nat} {xs : Bs} {bad : Bool} (h : Rd w r xs bad) (hm : bad = true ∨ xs.length < 4) (hl : xs.length ≤ 1000000) :
    Calls Tryd.prog 68 #[.pointer (some ⟨r, 0, none⟩)] w fun e w' => e = .returned (.int .u32 0) ∧ Rd w' r [] true ∧ Keeps (fun b => b = r) w w' := by
  have hg := get_bad h hm hl
  have Hg := Lib.hid hg
  clear hg h hm
  go_enter Tryd.func68, Tryd.ntmps68
  go_wp2_with fail
  refine Hg.out.mono ?_
  rintro e w1 ⟨rfl, hrd⟩
  have Hrd := Lib.hid hrd
  clear hrd
  go_wp2_with fail
  go_ret
  exact ⟨rfl, Hrd.out⟩
end Go.Proofs.YtbckbkcpfejllaaDoor
