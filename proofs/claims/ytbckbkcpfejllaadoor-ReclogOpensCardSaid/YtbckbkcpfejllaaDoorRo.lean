/- The references of layers 1, 2 and 5 (Sum, Value, Head, begins, Scan): the walk; ReclogOpens, plainly. -/
import Derived.Test.YtbckbkcpfejllaaDoorLe
namespace Go.Proofs.YtbckbkcpfejllaaDoor
open Go.RowKit Go.Maps Go.WideMaps

/-- One bit of the division. -/
def bitStep (r bit : Nat) : Nat := if r % 2 = bit then r / 2 else (r / 2) ^^^ 3988292384
def bitOf (b : Bs) (i : Nat) : Nat := (b.getD (i / 8) 0).toNat / 2 ^ (i % 8) % 2
def bitRun (b : Bs) : Nat → Nat
  | 0 => 4294967295
  | i + 1 => bitStep (bitRun b i) (bitOf b i)
theorem bitStep_lt {r : Nat} (h : r < 4294967296) (t : Nat) : bitStep r t < 4294967296 := by
  unfold bitStep
  split
  · omega
  · exact xor_lt32 (by omega) (by omega)
theorem bitRun_lt (b : Bs) : ∀ i, bitRun b i < 4294967296
  | 0 => by unfold bitRun; omega
  | i + 1 => bitStep_lt (bitRun_lt b i) _
theorem xor_half (a b : Nat) : (a ^^^ b) / 2 = a / 2 ^^^ b / 2 := by
  have := Nat.shiftRight_xor_distrib (a := a) (b := b) (i := 1)
  simpa [Nat.shiftRight_eq_div_pow] using this
theorem crcBit_xor (r c : Nat) : crcBit (r ^^^ c) = bitStep r (c % 2) ^^^ c / 2 := by
  have h1 : (r ^^^ c) % 2 = (r + c) % 2 := by
    have h := Nat.xor_mod_two_pow (a := r) (b := c) (n := 1)
    rw [Nat.pow_one] at h
    have e : ∀ a < 2, ∀ b < 2, a ^^^ b = (a + b) % 2 := by decide
    rw [e (r % 2) (by omega) (c % 2) (by omega)] at h
    omega
  unfold crcBit bitStep
  rw [h1, xor_half]
  by_cases h : r % 2 = c % 2
  · rw [if_pos h, if_neg (by omega)]
  · rw [if_neg h, if_pos (by omega), Nat.xor_assoc, Nat.xor_assoc, Nat.xor_comm (c / 2)]
/-- So many bits of a byte. -/
def bits8 (r c : Nat) : Nat → Nat
  | 0 => r
  | i + 1 => bitStep (bits8 r c i) (c / 2 ^ i % 2)
theorem crcBits_xor (r c : Nat) : ∀ i, crcBits i (r ^^^ c) = bits8 r c i ^^^ c / 2 ^ i
  | 0 => by simp [crcBits, bits8]
  | i + 1 => by
    show crcBit (crcBits i (r ^^^ c)) = _
    rw [crcBits_xor r c i, crcBit_xor, Nat.div_div_eq_div_mul, ← Nat.pow_succ]
    rfl
theorem bits8_byte (r : Nat) (c : UInt8) : bits8 r c.toNat 8 = crcByte r c := by
  unfold crcByte
  rw [crcBits_xor, Nat.div_eq_of_lt (show c.toNat < 2 ^ 8 by have := c.toNat_lt; omega), Nat.xor_zero]
theorem bitRun_byte (b : Bs) (k : Nat) : ∀ j, j ≤ 8 → bitRun b (8 * k + j) = bits8 (bitRun b (8 * k)) (b.getD k 0).toNat j
  | 0, _ => rfl
  | j + 1, h => by
    show bitStep (bitRun b (8 * k + j)) (bitOf b (8 * k + j)) = bitStep _ _
    rw [bitRun_byte b k j (by omega)]
    unfold bitOf
    rw [show (8 * k + j) / 8 = k by omega, show (8 * k + j) % 8 = j by omega]
theorem bitRun_run (b : Bs) : ∀ k, k ≤ b.length → bitRun b (8 * k) = crcRun 4294967295 (b.take k)
  | 0, _ => by simp [bitRun, crcRun]
  | k + 1, h => by
    rw [show 8 * (k + 1) = 8 * k + 8 by omega, bitRun_byte b k 8 (Nat.le_refl _), bits8_byte, bitRun_run b k (by omega), List.take_succ_eq_append_getElem (by omega), crcRun_snoc]
    congr 1
    simp [List.getD, List.getElem?_eq_getElem (show k < b.length by omega)]
theorem bitRun_all (b : Bs) : 4294967295 - bitRun b (8 * b.length) = crcP b := by
  rw [bitRun_run b b.length (Nat.le_refl _), List.take_length]
  rfl
set_option maxRecDepth 100000 in
theorem refsum_at (w : World) {v : Value} {b : Bs} (hb : Bin w v b) (hl : b.length ≤ 1000000) : Calls Tryd.prog 39 #[v] w fun e w' => e = .returned (.int .u32 (crcP b)) ∧ w = w' := by
  obtain ⟨va, vc, rfl, hc1, hc2, hcell⟩ := hb
  obtain ⟨n, hn⟩ : ∃ n, b.length = n := ⟨_, rfl⟩
  have hfin := bitRun_all b
  rw [hn] at hl hfin ⊢
  have Hn := Lib.hid hn
  have Hfin := Lib.hid hfin
  have Hc := Lib.hid hcell
  clear hn hfin hcell hc1 hc2
  go_enter Tryd.func39, Tryd.ntmps39
  go_wp2_with fail
  go_loopw [3, 4] (fun v i wr => ∃ k : Nat, k ≤ 8 * n ∧ i = .int .i64 k ∧ v = .int .u32 (bitRun b k : Nat) ∧ w = wr) (fun _ i _ => 8 * n - (intOf i).toNat)
  case atStart => exact ⟨0, by omega, rfl, rfl, rfl⟩
  case round =>
    obtain ⟨k, hk, rfl, rfl, rfl⟩ := hrel
    have hy := bitRun_lt b k
    by_cases hlt : k < 8 * n
    · have hkn : k / 8 < b.length := by rw [Hn.out]; omega
      obtain ⟨ab, ao, rfl, hcj⟩ := Hc.out (k / 8) hkn
      have hbit : bitOf b k = (b[k / 8]).toNat / 2 ^ (k % 8) % 2 := by
        unfold bitOf
        simp [List.getD, List.getElem?_eq_getElem hkn]
      obtain ⟨c, hce⟩ : ∃ c, b[k / 8] = c := ⟨_, rfl⟩
      rw [hce] at hcj hbit
      obtain ⟨y, hye⟩ : ∃ y, bitRun b k = y := ⟨_, rfl⟩
      have hnext : bitRun b (k + 1) = bitStep y (bitOf b k) := by rw [← hye]; rfl
      rw [hye] at hy ⊢
      unfold byteV at hcj
      have Hx := Lib.hid (And.intro hnext hbit)
      clear hye hce hnext hbit
      have hc8 : c.toNat < 256 := by have := c.toNat_lt; omega
      have hsh : c.toNat / 2 ^ (k % 8) ≤ c.toNat := Nat.div_le_self _ _
      have hA : bits .and .u32 (y : Int) 1 = ((y % 2 : Nat) : Int) := by have := u32_and_nat y 1 hy (by omega); rwa [Nat.and_one_is_mod] at this
      have hB : bits .and .u32 ((c.toNat : Int) / 2 ^ (k % 8) % 4294967296) 1 = ((c.toNat / 2 ^ (k % 8) % 2 : Nat) : Int) := by
        rw [show ((c.toNat : Int) / 2 ^ (k % 8)) = ((c.toNat / 2 ^ (k % 8) : Nat) : Int) by simp]
        obtain ⟨z, hz⟩ : ∃ z, c.toNat / 2 ^ (k % 8) = z := ⟨_, rfl⟩
        rw [hz] at hsh ⊢
        rw [Int.emod_eq_of_lt (by omega) (by omega)]
        have := u32_and_nat z 1 (by omega) (by omega)
        rwa [Nat.and_one_is_mod] at this
      have hX : bits .xor .u32 ((y : Int) / 2) 3988292384 = ((y / 2 ^^^ 3988292384 : Nat) : Int) := by have := u32_xor_nat (y / 2) 3988292384 (by omega) (by omega); simpa using this
      have HAB := Lib.hid (And.intro hA (And.intro hB hX))
      clear hA hB hX hc8 hsh
      go_wp2_with fail
      all_goals
        rename_i hcnd
        rw [HAB.out.1, HAB.out.2.1] at hcnd
        go_roundw
        case measure => simp [intOf]; omega
        case rel =>
          refine ⟨k + 1, by omega, by go_num, ?_, trivial⟩
          rw [Hx.out.1, Hx.out.2]
          unfold bitStep
          by_cases he : y % 2 = c.toNat / 2 ^ (k % 8) % 2
          · rw [if_pos he]
            first
              | (simp; done)
              | (exfalso; rw [he] at hcnd; simp at hcnd)
          · rw [if_neg he]
            first
              | rw [HAB.out.2.2]
              | (exfalso; apply he; simp at hcnd; exact_mod_cast hcnd)
    · obtain rfl : k = 8 * n := by omega
      go_wp2_with fail
      go_ret
      refine ⟨?_, rfl⟩
      rw [← Hfin.out]
      exact ret_int (by have := bitRun_lt b (8 * n); omega)
theorem refhead_at (w : World) (k : UInt8) : Calls Tryd.prog 15 #[.int .u8 k.toNat] w fun e w' => e = .returned (.slice (some ⟨w.heap.size, 0, none⟩) 8 8) ∧ Bin w' (.slice (some ⟨w.heap.size, 0, none⟩) 8 8) (headP k) ∧ Below w.heap.size w w' := by
  go_enter Tryd.func15, Tryd.ntmps15
  go_wp2_with fail
  go_ret
  exact ⟨rfl, bin_new (xs := headP k) (heap_alloc_new w _), (Below.refl _ w).alloc (Nat.le_refl _) _⟩
theorem val32_four {xs : Bs} {a b c d : UInt8} (h : xs = [a, b, c, d]) : val32 xs = a.toNat + 256 * (b.toNat + 256 * (c.toNat + 256 * d.toNat)) := by
  subst h
  simp only [val32, valN, List.getD_cons_zero, List.getD_cons_succ]
  omega
/-- What Value has reckoned, so many bytes from the last one on. -/
def valPart (a b c d : Nat) : Nat → Nat
  | 0 => 0
  | 1 => d
  | 2 => c + 256 * d
  | 3 => b + 256 * (c + 256 * d)
  | _ => a + 256 * (b + 256 * (c + 256 * d))
set_option maxRecDepth 100000 in
theorem refvalue_at (w : World) {v : Value} {xs : Bs} (hb : Bin w v xs) (hl : xs.length = 4) : Calls Tryd.prog 38 #[v] w fun e w' => e = .returned (.int .u64 (val32 xs)) ∧ w = w' := by
  obtain ⟨a, b, c, d, rfl⟩ : ∃ a b c d, xs = [a, b, c, d] := by
    match xs, hl with
    | [a, b, c, d], _ => exact ⟨a, b, c, d, rfl⟩
  rw [val32_four rfl]
  obtain ⟨va, vc, rfl, hc1, hc2, hcell⟩ := hb
  obtain ⟨ab, ao, rfl, z0⟩ := hcell 0 (by simp)
  obtain ⟨_, _, e1, z1⟩ := hcell 1 (by simp)
  cases e1
  obtain ⟨_, _, e2, z2⟩ := hcell 2 (by simp)
  cases e2
  obtain ⟨_, _, e3, z3⟩ := hcell 3 (by simp)
  cases e3
  obtain ⟨na, hna⟩ : ∃ n, a.toNat = n := ⟨_, rfl⟩
  obtain ⟨nb, hnb⟩ : ∃ n, b.toNat = n := ⟨_, rfl⟩
  obtain ⟨nc, hnc⟩ : ∃ n, c.toNat = n := ⟨_, rfl⟩
  obtain ⟨nd, hnd⟩ : ∃ n, d.toNat = n := ⟨_, rfl⟩
  have la : na < 256 := by have := a.toNat_lt; omega
  have lb : nb < 256 := by have := b.toNat_lt; omega
  have lc : nc < 256 := by have := c.toNat_lt; omega
  have ld : nd < 256 := by have := d.toNat_lt; omega
  replace z0 : w.cell? ⟨ab, ao, none⟩ = some (.int .u8 na) := by rw [← hna]; exact z0
  replace z1 : w.cell? ⟨ab, ao + 1, none⟩ = some (.int .u8 nb) := by rw [← hnb]; exact z1
  replace z2 : w.cell? ⟨ab, ao + 2, none⟩ = some (.int .u8 nc) := by rw [← hnc]; exact z2
  replace z3 : w.cell? ⟨ab, ao + 3, none⟩ = some (.int .u8 nd) := by rw [← hnd]; exact z3
  rw [hna, hnb, hnc, hnd]
  clear hcell hna hnb hnc hnd hc1 hc2 hl
  rw [show [a, b, c, d].length = 4 from rfl]
  go_enter Tryd.func38, Tryd.ntmps38
  go_wp2_with fail
  go_loopw [3, 4] (fun v i wr => ∃ j : Nat, j ≤ 4 ∧ i = .int .i64 (3 - (j : Int)) ∧ v = .int .u64 (valPart na nb nc nd j : Nat) ∧ w = wr) (fun _ i _ => (intOf i + 1).toNat)
  case atStart => exact ⟨0, by omega, rfl, rfl, rfl⟩
  case round =>
    obtain ⟨j, hj, rfl, rfl, rfl⟩ := hrel
    obtain rfl | rfl | rfl | rfl | rfl : j = 0 ∨ j = 1 ∨ j = 2 ∨ j = 3 ∨ j = 4 := by omega
    · simp only [valPart]
      go_wp2_with fail
      go_roundw
      case rel => exact ⟨1, by omega, by go_num, by go_num, trivial⟩
      case measure => simp [intOf]
    · simp only [valPart]
      go_wp2_with fail
      go_roundw
      case rel => exact ⟨2, by omega, by go_num, by go_num, trivial⟩
      case measure => simp [intOf]
    · simp only [valPart]
      go_wp2_with fail
      go_roundw
      case rel => exact ⟨3, by omega, by go_num, by go_num, trivial⟩
      case measure => simp [intOf]
    · simp only [valPart]
      go_wp2_with fail
      go_roundw
      case rel => exact ⟨4, by omega, by go_num, by go_num, trivial⟩
      case measure => simp [intOf]
    · simp only [valPart]
      go_wp2_with fail
      go_ret
      exact ⟨rfl, rfl⟩
def begP (a b : Bs) : Bool := decide (a.take (min a.length b.length) = b.take (min a.length b.length))
set_option maxRecDepth 100000 in
theorem begins_at (w : World) {v1 v2 : Value} {a b : Bs} (ha : Bin w v1 a) (hb : Bin w v2 b) (hla : a.length ≤ 1000000) : Calls Tryd.prog 37 #[v1, v2] w fun e w' => e = .returned (.bool (begP a b)) ∧ Below w.heap.size w w' := by
  obtain ⟨va, vc, rfl, _, _, hca⟩ := ha
  obtain ⟨ua, uc, rfl, _, _, hcb⟩ := hb
  obtain ⟨r, hr⟩ : ∃ r : Bool, begP a b = r := ⟨_, rfl⟩
  rw [hr]
  have Hr := Lib.hid hr
  have Hca := Lib.hid hca
  have Hcb := Lib.hid hcb
  clear hr hca hcb
  go_enter Tryd.func37, Tryd.ntmps37
  go_wp2_with fail
  go_loopw [5] (fun i wr => ∃ k : Nat, k ≤ a.length ∧ k ≤ b.length ∧ i = .int .i64 k ∧ a.take k = b.take k ∧ Below w.heap.size w wr) (fun i _ => a.length - (intOf i).toNat)
  case atStart => exact ⟨0, Nat.zero_le _, Nat.zero_le _, rfl, by simp, Below.refl _ w⟩
  case round =>
    obtain ⟨k, hk1, hk2, rfl, ht, hbw⟩ := hrel
    have Ht := Lib.hid ht
    have Hbw := Lib.hid hbw
    clear ht hbw
    by_cases h1 : k < a.length
    · by_cases h2 : k < b.length
      · obtain ⟨ab, ao, rfl, z1⟩ := Hca.out k h1
        obtain ⟨bb, bo, rfl, z2⟩ := Hcb.out k h2
        obtain ⟨x, hx⟩ : ∃ x, a[k] = x := ⟨_, rfl⟩
        obtain ⟨y, hy⟩ : ∃ y, b[k] = y := ⟨_, rfl⟩
        rw [hx] at z1
        rw [hy] at z2
        replace z1 : wr.drew.cell? ⟨ab, ao + k, none⟩ = some (.int .u8 x.toNat) := (Hbw.out.cell (p := ⟨ab, ao + k, none⟩) (World.block_lt_of_cell? w _ z1)).trans z1
        replace z2 : wr.drew.cell? ⟨bb, bo + k, none⟩ = some (.int .u8 y.toNat) := (Hbw.out.cell (p := ⟨bb, bo + k, none⟩) (World.block_lt_of_cell? w _ z2)).trans z2
        have Hxy := Lib.hid (And.intro hx hy)
        clear hx hy
        by_cases hq : x = y
        · subst hq
          go_wp2_with fail
          refine wp_region_reg (by kernel_rfl) (by kernel_rfl) ?_
          refine reg_quiet 0 rfl (by kernel_rfl) (fun K hK => ?_)
          go_simp
          refine hK _ ?_; clear hK K
          refine reg_quiet 1 rfl (by kernel_rfl) (fun K hK => ?_)
          go_simp
          refine hK _ ?_; clear hK K
          refine reg_quiet 2 rfl (by kernel_rfl) (fun K hK => ?_)
          go_simp
          refine hK _ ?_; clear hK K
          refine reg_quiet 3 rfl (by kernel_rfl) (fun K hK => ?_)
          go_simp
          refine hK _ ?_; clear hK K
          refine reg_quiet 4 rfl (by kernel_rfl) (fun K hK => ?_)
          go_simp
          refine hK _ ?_; clear hK K
          refine reg_quiet 5 rfl (by kernel_rfl) (fun K hK => ?_)
          go_simp
          refine hK _ ?_; clear hK K
          refine reg_quiet 6 rfl (by kernel_rfl) (fun K hK => ?_)
          go_simp
          refine hK _ ?_; clear hK K
          refine reg_quiet 7 rfl (by kernel_rfl) (fun K hK => ?_)
          go_simp
          refine hK _ ?_; clear hK K
          refine reg_quiet 8 rfl (by kernel_rfl) (fun K hK => ?_)
          go_simp
          refine hK _ ?_; clear hK K
          refine reg_done (by kernel_rfl) ?_
          go_wp2_with fail
          go_roundw
          case rel => exact ⟨k + 1, by omega, by omega, by go_num, by rw [List.take_succ_eq_append_getElem h1, List.take_succ_eq_append_getElem h2, Ht.out, Hxy.out.1, Hxy.out.2], Hbw.out.drew⟩
          case measure => simp [intOf]; omega
        · have hq2 : ((x.toNat : Int) == (y.toNat : Int)) = false := by simpa using fun e => hq (UInt8.toNat_inj.1 (by exact_mod_cast e))
          have Hq := Lib.hid hq
          clear hq
          go_wp2_with fail
          refine wp_region_reg (by kernel_rfl) (by kernel_rfl) ?_
          refine reg_quiet 0 rfl (by kernel_rfl) (fun K hK => ?_)
          go_simp
          refine hK _ ?_; clear hK K
          refine reg_quiet 1 rfl (by kernel_rfl) (fun K hK => ?_)
          go_simp
          refine hK _ ?_; clear hK K
          refine reg_quiet 2 rfl (by kernel_rfl) (fun K hK => ?_)
          go_simp
          refine hK _ ?_; clear hK K
          refine reg_quiet 3 rfl (by kernel_rfl) (fun K hK => ?_)
          go_simp
          refine hK _ ?_; clear hK K
          refine reg_quiet 4 rfl (by kernel_rfl) (fun K hK => ?_)
          go_simp
          refine hK _ ?_; clear hK K
          refine reg_quiet 5 rfl (by kernel_rfl) (fun K hK => ?_)
          go_simp
          refine hK _ ?_; clear hK K
          refine reg_quiet 6 rfl (by kernel_rfl) (fun K hK => ?_)
          go_simp
          refine hK _ ?_; clear hK K
          refine reg_quiet 7 rfl (by kernel_rfl) (fun K hK => ?_)
          go_simp
          refine hK _ ?_; clear hK K
          refine reg_quiet 8 rfl (by kernel_rfl) (fun K hK => ?_)
          go_simp
          refine hK _ ?_; clear hK K
          refine reg_done (by kernel_rfl) ?_
          go_wp2_with fail
          go_ret
          refine ⟨?_, Hbw.out.drew⟩
          rw [← Hr.out]
          have hne : begP a b = false := by
            simp only [begP, decide_eq_false_iff_not]
            intro e
            have h := congrArg (fun l : Bs => l[k]?) e
            simp only [List.getElem?_take_of_lt (show k < min a.length b.length by omega), List.getElem?_eq_getElem h1, List.getElem?_eq_getElem h2, Hxy.out.1, Hxy.out.2] at h
            exact Hq.out (Option.some.inj h)
          rw [hne]
          rfl
      · have he : begP a b = true := by
          obtain rfl : k = b.length := by omega
          have := Ht.out
          simp only [begP, decide_eq_true_eq]
          rw [show min a.length b.length = b.length by omega]
          exact this
        obtain rfl : r = true := by rw [← Hr.out, he]
        clear he
        go_wp2_with fail
        go_ret
        exact ⟨rfl, Hbw.out⟩
    · have he : begP a b = true := by
        obtain rfl : k = a.length := by omega
        have := Ht.out
        simp only [begP, decide_eq_true_eq]
        rw [show min a.length b.length = a.length by omega]
        exact this
      obtain rfl : r = true := by rw [← Hr.out, he]
      clear he
      go_wp2_with fail
      go_ret
      exact ⟨rfl, Hbw.out⟩

theorem bin_zero {w : World} {ad : Addr} {z c : Nat} {xs : Bs} (h : xs.length = z) (h0 : z = 0) : Bin w (.slice (some ad) z c) xs := by
  subst h0
  obtain rfl := List.length_eq_zero_iff.1 h
  exact ⟨some ad, c, rfl, Nat.zero_le _, (fun h => by cases h), fun j hj => absurd hj (by simp)⟩
theorem past_block {w w7 : World} {e' : TypeId} (hk : Keeps (fun b => (Value.slice (some ⟨w.heap.size, 0, none⟩) 0 0).ownBlock = some b) (w.alloc (.cells #[] e')) w7) : w.heap.size + 1 ≤ w7.heap.size ∧ ∀ q, q < w.heap.size → w7.heap[q]? = w.heap[q]? :=
  ⟨by have := hk.size; simpa using this, fun q hq => by rw [hk.block q (by simp; omega) (fun h => by have : w.heap.size = q := Option.some.inj h; omega), Below.heap_alloc _ _ _ hq]⟩
/-- A row is as it was, where a new one was laid and filled. -/
theorem row_past {w w7 : World} {e e' : TypeId} {v : Value} {n : Nat} {cs : List Value} (h : Row w e 1 v n cs) (hk : Keeps (fun b => (Value.slice (some ⟨w.heap.size, 0, none⟩) 0 0).ownBlock = some b) (w.alloc (.cells #[] e')) w7) (o : Obj) : Row (w7.alloc o) e 1 v n cs :=
  h.keep fun q hq => by
    have hq6 := h.lt q hq
    have hp := past_block hk
    rw [Below.heap_alloc _ _ _ (by omega), hp.2 q hq6]
theorem val32_take (xs : Bs) (h : 4 ≤ xs.length) : val32 (xs.take 4) = val32 xs := by
  match xs, h with
  | a :: b :: c :: d :: r, _ => simp [val32, valN]
theorem beg_short {a b : Bs} (h : b.length < a.length) : begP a b = hasP a b := by
  simp only [begP, hasP]
  rw [show min a.length b.length = b.length by omega, List.take_length, decide_eq_true (show b.length ≤ a.length by omega), Bool.true_and]
  rw [Bool.eq_iff_iff, decide_eq_true_eq, beq_iff_eq]
theorem beg_long {a b : Bs} (h : a.length ≤ b.length) : begP a b = hasP b a := by
  simp only [begP, hasP]
  rw [show min a.length b.length = a.length by omega, List.take_length, decide_eq_true (show a.length ≤ b.length by omega), Bool.true_and]
  rw [Bool.eq_iff_iff, decide_eq_true_eq, beq_iff_eq]
  exact eq_comm
theorem scanP_no {b : Bs} {k : UInt8} (h : begP (headP k) b = false) : scanP b k = ([], 0, 9) := by
  by_cases h8 : b.length < 8
  · rw [beg_short (by rw [len_headP]; exact h8)] at h
    have h9 : hasP b (headP k) = false := by simp only [hasP]; rw [decide_eq_false (by rw [len_headP]; omega), Bool.false_and]
    rw [scanP, if_neg (by rw [h]; simp), if_pos h9]
  · rw [beg_long (by rw [len_headP]; omega)] at h
    rw [scanP, if_neg (by omega), if_pos h]
theorem scanP_short {b : Bs} {k : UInt8} (h : begP (headP k) b = true) (h8 : b.length < 8) : scanP b k = ([], 0, 0) := by
  rw [beg_short (by rw [len_headP]; exact h8)] at h
  rw [scanP, if_pos ⟨h8, h⟩]
theorem scanP_long {b : Bs} {k : UInt8} (h : begP (headP k) b = true) (h8 : 8 ≤ b.length) : scanP b k = ((scanL b.length (b.drop 8)).1, 8 + (scanL b.length (b.drop 8)).2, 0) := by
  rw [beg_long (by rw [len_headP]; exact h8)] at h
  rw [scanP, if_neg (by omega), if_neg (by rw [h]; decide)]
/-- A part of a slice. -/
theorem Bin.part {w : World} {ab ao n c : Nat} {xs : Bs} (h : Bin w (.slice (some ⟨ab, ao, none⟩) n c) xs) (i m k : Nat) (hm : i + m ≤ xs.length) (hk : m ≤ k) : Bin w (.slice (some ⟨ab, ao + i, none⟩) m k) ((xs.drop i).take m) := by
  obtain ⟨a', c', e, h1, h2, h3⟩ := h
  obtain ⟨rfl, rfl, rfl⟩ := Value.slice.inj e
  have hl : ((xs.drop i).take m).length = m := by rw [List.length_take, List.length_drop]; omega
  refine ⟨some ⟨ab, ao + i, none⟩, k, by rw [hl], by omega, (fun h => by cases h), fun j hj => ⟨ab, ao + i, rfl, ?_⟩⟩
  obtain ⟨b, o, e1, e2⟩ := h3 (i + j) (by omega)
  cases e1
  rw [show ao + i + j = ao + (i + j) by omega, e2]
  simp
/-- What Scan has found, up to a place. -/
def ScanI (b : Bs) (at' : Nat) (l : List Bs) : Prop := ∃ f, (b.drop at').length ≤ f ∧ scanL b.length (b.drop 8) = (l ++ (scanL f (b.drop at')).1, (at' - 8) + (scanL f (b.drop at')).2)
theorem scanI_end {b : Bs} {at' : Nat} {l : List Bs} (h : ScanI b at' l) (h8 : 8 ≤ at') (he : ∀ f, scanL f (b.drop at') = ([], 0)) {k : UInt8} (hb : begP (headP k) b = true) (hl : 8 ≤ b.length) : scanP b k = (l, at', 0) := by
  obtain ⟨f, _, h2⟩ := h
  rw [scanP_long hb hl, h2, he f]
  simp
  omega
theorem scanI_next {b : Bs} {at' : Nat} {l : List Bs} (h : ScanI b at' l) (h8 : 8 ≤ at') (g1 : 8 ≤ (b.drop at').length) (g2 : val32 (b.drop at') ≤ 4096) (g3 : 8 + val32 (b.drop at') ≤ (b.drop at').length) (g4 : crcP (((b.drop at').drop 8).take (val32 (b.drop at'))) = val32 ((b.drop at').drop 4)) :
    ScanI b (at' + (8 + val32 (b.drop at'))) (l ++ [((b.drop at').drop 8).take (val32 (b.drop at'))]) := by
  obtain ⟨f, h1, h2⟩ := h
  obtain ⟨f', rfl⟩ : ∃ f', f = f' + 1 := ⟨f - 1, by omega⟩
  rw [scan_ok g1 g2 g3 g4] at h2
  refine ⟨f', by rw [List.length_drop] at h1 ⊢; omega, ?_⟩
  rw [h2]
  simp only [List.append_assoc, List.singleton_append]
  have e1 : at' + (8 + val32 (b.drop at')) - 8 = at' - 8 + (8 + val32 (b.drop at')) := by omega
  have e2 : (b.drop at').drop (8 + val32 (b.drop at')) = b.drop (at' + (8 + val32 (b.drop at'))) := List.drop_drop ..
  rw [e1, e2, Nat.add_assoc, Nat.add_comm (8 + val32 (b.drop at')) (scanL f' (b.drop (at' + (8 + val32 (b.drop at'))))).2]
set_option maxRecDepth 100000 in
set_option maxHeartbeats 1000000 in
theorem refscan_at {w : World} {v : Value} {b : Bs} (hb : Bin w v b) (hl : b.length ≤ 100000) (k : UInt8) :
    Calls Tryd.prog 11 #[v, .int .u8 k.toNat] w fun e w' => ∃ v', e = .returned (.tuple #[v', .int .i64 (scanP b k).2.1, .int .i64 (scanP b k).2.2]) ∧ Recs w' w.heap.size v' (scanP b k).1 ∧ Below w.heap.size w w' := by
  obtain ⟨va, vc, rfl⟩ : ∃ a c, v = .slice a b.length c := by obtain ⟨a, c, e, _⟩ := hb; exact ⟨a, c, e⟩
  have Hb := Lib.hid hb
  clear hb
  obtain ⟨⟨recs, en, ee⟩, hsc⟩ : ∃ x, scanP b k = x := ⟨_, rfl⟩
  rw [hsc]
  have Hsc := Lib.hid hsc
  clear hsc
  dsimp only
  have hnil : ∀ w' : World, Recs w' w.heap.size (.slice none 0 0) [] := fun w' => ⟨[], Row.nil _ _ _, rfl, fun j h => absurd h (by simp), fun q h => by cases h⟩
  have Hnil := Lib.hid hnil
  clear hnil
  obtain ⟨i0, hi, hz0, hz1, hz2⟩ := info_parts info_u8
  have HI := Lib.hid (And.intro hi (And.intro hz0 (And.intro hz1 hz2)))
  clear hi hz0 hz1 hz2
  obtain ⟨i1, hi, hz0, hz1, hz2⟩ := info_parts info_sl
  have HI1 := Lib.hid (And.intro hi (And.intro hz0 (And.intro hz1 hz2)))
  clear hi hz0 hz1 hz2
  go_enter Tryd.func11, Tryd.ntmps11
  go_wp2_with fail
  refine (refhead_at w k).mono ?_
  rintro e0 w1 ⟨rfl, hh, hb1⟩
  have H1 := Lib.hid (And.intro hh hb1)
  clear hh hb1
  go_wp2_with fail
  refine (begins_at w1 H1.out.1 (Hb.out.keep fun q _ hq => H1.out.2.block q hq) (by rw [len_headP]; decide)).mono ?_
  rintro e0 w2 ⟨rfl, hb2⟩
  have Hb2 := Lib.hid (H1.out.2.trans (hb2.mono H1.out.2.size))
  clear hb2 H1
  cases hbg : begP (headP k) b with
  | false =>
    have h := Hsc.out.symm.trans (scanP_no hbg)
    obtain ⟨rfl, h2⟩ := Prod.mk.inj h
    obtain ⟨rfl, rfl⟩ := Prod.mk.inj h2
    clear h h2
    clear hbg
    go_wp2_with fail
    go_ret3
    exact ⟨_, rfl, Hnil.out w2, Hb2.out⟩
  | true =>
    have Hbg := Lib.hid hbg
    clear hbg
    by_cases h8 : b.length < 8
    · have h := Hsc.out.symm.trans (scanP_short Hbg.out h8)
      obtain ⟨rfl, h2⟩ := Prod.mk.inj h
      obtain ⟨rfl, rfl⟩ := Prod.mk.inj h2
      clear h h2
      go_wp2_with fail
      go_ret3
      exact ⟨_, rfl, Hnil.out w2, Hb2.out⟩
    obtain ⟨ab, ao, rfl⟩ : ∃ ab ao, va = some ⟨ab, ao, none⟩ := by
      obtain ⟨a, c, e, _, _, h⟩ := Hb.out
      obtain ⟨bb, oo, e2, _⟩ := h 0 (by omega)
      obtain ⟨rfl, _, _⟩ := Value.slice.inj e
      exact ⟨bb, oo, e2⟩
    have hcap : b.length ≤ vc := by
      obtain ⟨a, c, e, h, _⟩ := Hb.out
      obtain ⟨_, _, rfl⟩ := Value.slice.inj e
      exact h
    obtain ⟨n, hn⟩ : ∃ n, b.length = n := ⟨_, rfl⟩
    have hsI : ScanI b 8 [] := ⟨b.length, by rw [List.length_drop]; omega, by simp⟩
    have HsI := Lib.hid hsI
    have Hn := Lib.hid hn
    clear hsI
    rw [hn] at h8 hcap hl ⊢
    clear hn
    go_wp2_with fail
    go_loopw [7, 8] (fun lv iv wr => ∃ (at' : Nat) (l : List Bs), 8 ≤ at' ∧ at' ≤ n ∧ iv = .int .i64 at' ∧ l.length ≤ at' ∧ Recs wr w.heap.size lv l ∧ ScanI b at' l ∧ Below w.heap.size w wr) (fun _ iv _ => n - (intOf iv).toNat)
    case atStart => exact ⟨8, [], Nat.le_refl _, by omega, rfl, Nat.zero_le _, Hnil.out w2, HsI.out, Hb2.out⟩
    case round =>
      obtain ⟨at', l, g8, gn, rfl, gl, hrec, hsi, hbw⟩ := hrel
      obtain ⟨vs, r1, r2, r3, r4⟩ := hrec
      obtain ⟨ra, rc, rfl⟩ := r1.slv
      have HR := Lib.hid (And.intro r1 (And.intro r2 (And.intro r3 (And.intro r4 (And.intro hsi hbw)))))
      clear r1 r2 r3 r4 hsi hbw
      by_cases h16 : n - at' < 8
      · -- too few bytes are left
        have h := Hsc.out.symm.trans (scanI_end HR.out.2.2.2.2.1 g8 (fun f => scan_short (by rw [List.length_drop, Hn.out]; omega)) Hbg.out (by rw [Hn.out]; omega))
        obtain ⟨rfl, h2⟩ := Prod.mk.inj h
        obtain ⟨rfl, rfl⟩ := Prod.mk.inj h2
        have HF := Lib.hid (show Recs wr w.heap.size (.slice ra recs.length rc) recs from ⟨vs, HR.out.1, HR.out.2.1, HR.out.2.2.1, HR.out.2.2.2.1⟩)
        clear h h2
        go_wp2_with fail
        go_ret3
        exact ⟨_, rfl, HF.out, HR.out.2.2.2.2.2⟩
      have hbr : Bin wr (.slice (some ⟨ab, ao, none⟩) n vc) b := by
        have h := Hb.out
        rw [Hn.out] at h
        exact h.keep fun q _ hq => HR.out.2.2.2.2.2.block q hq
      obtain ⟨ds, hds⟩ : ∃ ds, b.drop at' = ds := ⟨_, rfl⟩
      have hdl : ds.length = n - at' := by rw [← hds, List.length_drop, Hn.out]
      obtain ⟨z, hz⟩ : ∃ z, val32 ds = z := ⟨_, rfl⟩
      obtain ⟨u, hu⟩ : ∃ u, val32 (ds.drop 4) = u := ⟨_, rfl⟩
      have hzl : z < 4294967296 := hz ▸ val32_lt ds
      have hul : u < 4294967296 := hu ▸ val32_lt _
      have hv1 := refvalue_at wr (hbr.part at' 4 (vc - at') (by rw [Hn.out]; omega) (by omega)) (by rw [List.length_take, List.length_drop, Hn.out]; omega)
      have hv2 := refvalue_at wr (hbr.part (at' + 4) 4 (vc - (at' + 4)) (by rw [Hn.out]; omega) (by omega)) (by rw [List.length_take, List.length_drop, Hn.out]; omega)
      rw [val32_take _ (by rw [List.length_drop, Hn.out]; omega), hds, hz] at hv1
      rw [val32_take _ (by rw [List.length_drop, Hn.out]; omega), ← List.drop_drop, hds, hu] at hv2
      have HV := Lib.hid (And.intro hv1 (And.intro hv2 (And.intro hbr (And.intro hds (And.intro hdl (And.intro hz hu))))))
      clear hv1 hv2 hbr hds hdl hz hu
      go_wp2_with fail
      refine HV.out.1.mono ?_
      rintro e0 w5 ⟨rfl, rfl⟩
      go_wp2_with fail
      refine HV.out.2.1.mono ?_
      rintro e0 w5 ⟨rfl, rfl⟩
      by_cases hz1 : 4096 < z
      · have hbad : ∀ f, scanL f (b.drop at') = ([], 0) := fun f => scan_bad (Or.inl (by rw [HV.out.2.2.2.1, HV.out.2.2.2.2.2.1]; exact hz1))
        have Hbad := Lib.hid hbad
        clear hbad
        have h := Hsc.out.symm.trans (scanI_end HR.out.2.2.2.2.1 g8 (fun f => Hbad.out f) Hbg.out (by rw [Hn.out]; omega))
        obtain ⟨rfl, h2⟩ := Prod.mk.inj h
        obtain ⟨rfl, rfl⟩ := Prod.mk.inj h2
        have HF := Lib.hid (show Recs wr w.heap.size (.slice ra recs.length rc) recs from ⟨vs, HR.out.1, HR.out.2.1, HR.out.2.2.1, HR.out.2.2.2.1⟩)
        clear h h2
        go_wp2_with fail
        go_ret3
        exact ⟨_, rfl, HF.out, HR.out.2.2.2.2.2⟩
      by_cases hz2 : n - at' - 8 < z
      · have hbad : ∀ f, scanL f (b.drop at') = ([], 0) := fun f => scan_bad (Or.inr (by rw [HV.out.2.2.2.1, HV.out.2.2.2.2.2.1, HV.out.2.2.2.2.1]; omega))
        have Hbad := Lib.hid hbad
        clear hbad
        have h := Hsc.out.symm.trans (scanI_end HR.out.2.2.2.2.1 g8 (fun f => Hbad.out f) Hbg.out (by rw [Hn.out]; omega))
        obtain ⟨rfl, h2⟩ := Prod.mk.inj h
        obtain ⟨rfl, rfl⟩ := Prod.mk.inj h2
        have HF := Lib.hid (show Recs wr w.heap.size (.slice ra recs.length rc) recs from ⟨vs, HR.out.1, HR.out.2.1, HR.out.2.2.1, HR.out.2.2.2.1⟩)
        clear h h2
        go_wp2_with fail
        go_ret3
        exact ⟨_, rfl, HF.out, HR.out.2.2.2.2.2⟩
      have hv3 := refsum_at wr (HV.out.2.2.1.part (at' + 8) z (vc - (at' + 8)) (by rw [Hn.out]; omega) (by omega)) (by rw [List.length_take]; omega)
      rw [← List.drop_drop, HV.out.2.2.2.1] at hv3
      obtain ⟨rec, hrec⟩ : ∃ rec, (ds.drop 8).take z = rec := ⟨_, rfl⟩
      have hrl : rec.length = z := by rw [← hrec, List.length_take, List.length_drop, HV.out.2.2.2.2.1]; omega
      have hbrec : Bin wr (.slice (some ⟨ab, ao + (at' + 8), none⟩) z (vc - (at' + 8))) rec := by
        have h := HV.out.2.2.1.part (at' + 8) z (vc - (at' + 8)) (by rw [Hn.out]; omega) (by omega)
        rw [← List.drop_drop, HV.out.2.2.2.1, hrec] at h
        exact h
      have HS := Lib.hid (And.intro hrec (And.intro hrl hbrec))
      clear hv3 hrec hrl hbrec
      have hrl5 : rec.length ≤ 100000 := by have := HS.out.2.1; omega
      have hzz : z ≤ n - at' - 8 := by omega
      by_cases hvc : vc ≤ at' + 8
      case' pos =>
        obtain rfl : vc = at' + 8 := by omega
        have HBS := Lib.hid (show Bin wr (.slice (some ⟨ab, ao, none⟩) z 0) rec from bin_zero HS.out.2.1 (by omega))
      case' neg =>
        have HBS := Lib.hid (show Bin wr (.slice (some ⟨ab, ao + (at' + 8), none⟩) z (vc - (at' + 8))) rec from HS.out.2.2)
      all_goals
        go_wp2_with fail
        refine (refsum_at wr HBS.out (by omega)).mono ?_
        rintro e0 w5 ⟨rfl, rfl⟩
        have hcl := crcP_lt rec
        obtain ⟨y, hy⟩ : ∃ y, crcP rec = y := ⟨_, rfl⟩
        rw [hy] at hcl ⊢
        have Hy := Lib.hid hy
        clear hy
        by_cases hq : y = u
        case' neg =>
          have hbad : ∀ f, scanL f (b.drop at') = ([], 0) := fun f => scan_sum (by rw [HV.out.2.2.2.1, HV.out.2.2.2.2.2.1, HS.out.1, HV.out.2.2.2.2.2.2, Hy.out]; exact hq)
          have Hbad := Lib.hid hbad
          have hq2 : ((y : Int) == (u : Int)) = false := by simpa using fun e => hq (by exact_mod_cast e)
          clear hbad hq
          have h := Hsc.out.symm.trans (scanI_end HR.out.2.2.2.2.1 g8 (fun f => Hbad.out f) Hbg.out (by rw [Hn.out]; omega))
          obtain ⟨rfl, h2⟩ := Prod.mk.inj h
          obtain ⟨rfl, rfl⟩ := Prod.mk.inj h2
          have HF := Lib.hid (show Recs wr w.heap.size (.slice ra recs.length rc) recs from ⟨vs, HR.out.1, HR.out.2.1, HR.out.2.2.1, HR.out.2.2.2.1⟩)
          clear h h2
          go_wp2_with fail
          go_ret3
          exact ⟨_, rfl, HF.out, HR.out.2.2.2.2.2⟩
        subst hq
        go_wp2_with (first
          | (at_builtin; refine wpList_append_row _ rfl _ _ 22 22 rfl rfl _ rfl (Row.fresh0 wr 5 1) (by decide) i0 (.int .u8 0) 1 Tryd.underlying22 HI.out.1 HI.out.2.1 HI.out.2.2.1 HI.out.2.2.2 rfl z _ (by have h := (HBS.out.alloc (.cells #[] 5)).src (P := Tryd.prog) (tx := 22) Tryd.underlying22; rw [HS.out.2.1] at h; exact h) (by unfold maxLen; omega) (by omega) ?_; intro b7 c7 w7 hr7 hk7 hw7 hn7 hz7; simp only [Nat.zero_add, List.nil_append] at hr7 hw7 ⊢; have H7 := Lib.hid (And.intro hr7 (And.intro hk7 hw7)); clear hr7 hk7 hw7 hn7 hz7)
          | (at_builtin; refine wpList_append_row _ rfl _ _ 31 31 rfl rfl _ rfl (row_past HR.out.1 H7.out.2.1 _) (by decide) i1 (.slice none 0 0) 24 Tryd.underlying31 HI1.out.1 HI1.out.2.1 HI1.out.2.2.1 HI1.out.2.2.2 rfl 1 [_] (src_at (by exact heap_alloc_new w7 _) Tryd.underlying31 1 1 rfl (by simp [Value.oneCell'])) (by unfold maxLen; omega) (by omega) ?_; intro b8 c8 w8 hr8 hk8 hw8 hn8 hz8; have H8 := Lib.hid (And.intro hr8 (And.intro hk8 hw8)); clear hr8 hk8 hw8 hn8 hz8)
          | fail)
        obtain ⟨k1, k2, k3⟩ := H7.out
        obtain ⟨m1, m2, m3⟩ := H8.out
        obtain ⟨r1, r2, r3, r4, hsi, hbw⟩ := HR.out
        obtain ⟨hz7, hold⟩ := past_block k2
        have hb7 : Below wr.heap.size wr w7 := (((Keeps.refl (fun _ => False) wr).alloc (.cells #[] 5)).below (Nat.le_refl _) fun _ _ h => h).trans (k2.below (by simp) fun b hb h => by have : wr.heap.size = b := Option.some.inj h; omega)
        have hu : Bin w7 (.slice b7 z c7) rec := by
          have e := HS.out.2.1
          subst e
          exact Bown.bin k1
        have hrec := Recs.snoc (N := w.heap.size) (w4 := wr) (w5 := w7) (r1.keep fun q hq => hold q (r1.lt q hq)) r2 (fun j a b => ⟨(r3 j a b).1.keep fun q _ hq => hold q hq, fun q hq => ⟨((r3 j a b).2 q hq).1, by have := ((r3 j a b).2 q hq).2.1; omega, ((r3 j a b).2 q hq).2.2⟩⟩) r4 hu
          (fun q hq => ⟨(k3 q hq).elim (fun h => by have : wr.heap.size = q := Option.some.inj h; omega) (fun h => by simp at h; omega), k1.lt q hq⟩) hbw.size (fun q hq => r1.lt q hq) _ m1 m2 m3 (by omega)
        have hbw8 : Below w.heap.size w w8 := (hbw.trans (hb7.mono hbw.size)).trans ((((Below.refl w.heap.size w7).alloc (by have := hbw.size; omega) _)).trans (m2.below (by have := hbw.size; simp; omega) fun q hq h => by have := r4 q h; omega))
        have hnx := scanI_next hsi g8 (by rw [HV.out.2.2.2.1, HV.out.2.2.2.2.1]; omega) (by rw [HV.out.2.2.2.1, HV.out.2.2.2.2.2.1]; omega) (by rw [HV.out.2.2.2.1, HV.out.2.2.2.2.2.1, HV.out.2.2.2.2.1]; omega) (by rw [HV.out.2.2.2.1, HV.out.2.2.2.2.2.1, HS.out.1, HV.out.2.2.2.2.2.2]; exact Hy.out)
        rw [HV.out.2.2.2.1, HV.out.2.2.2.2.2.1, HS.out.1] at hnx
        have HE := Lib.hid (And.intro hrec (And.intro hbw8 hnx))
        clear k1 k2 k3 m1 m2 m3 r1 r2 r3 r4 hsi hbw hz7 hold hb7 hu hrec hbw8 hnx
        go_roundw
        case rel => exact ⟨at' + (8 + z), l ++ [rec], by omega, by omega, by go_num, by rw [List.length_append, List.length_singleton]; omega, HE.out.1, HE.out.2.2, HE.out.2.1⟩
        case measure => simp [intOf]; omega

abbrev oLN : List Bs := [bs nL, bs nN]
theorem scanL_le : ∀ (f : Nat) (xs : Bs), (scanL f xs).2 ≤ xs.length
  | 0, _ => Nat.zero_le _
  | f + 1, xs => by
    unfold scanL
    split
    · exact Nat.zero_le _
    · split
      · exact Nat.zero_le _
      · split
        · exact Nat.zero_le _
        · have := scanL_le f (xs.drop (8 + val32 xs))
          rw [List.length_drop] at this
          dsimp only
          omega
theorem scanP_le (b : Bs) (k : UInt8) : (scanP b k).2.1 ≤ b.length := by
  unfold scanP
  split
  · exact Nat.zero_le _
  · split
    · exact Nat.zero_le _
    · rename_i h1 h2
      have h8 : 8 ≤ b.length := by
        have h : hasP b (headP k) = true := by simpa using h2
        simp only [hasP, Bool.and_eq_true, len_headP] at h
        exact of_decide_eq_true h.1
      have := scanL_le b.length (b.drop 8)
      rw [List.length_drop] at this
      dsimp only
      omega
/-- A disk that is up, of few names. -/
structure Nice (D : PD) : Prop where
  up : Up D
  few : Few oLN D
  cons : D.files = dirs D.sure D.pend D.pend.length
theorem nice_new : Nice (PD.new 16777216) := ⟨⟨rfl, rfl⟩, Few.new (by decide), rfl⟩
theorem nice_write {F : Nat → Prop} {d m : Nat} {w : World} {D : PD} (h : Nice D) (hh : Has F d w D m) (hm : m ≤ 100000) {name : ByteArray} (hn : isE name = false) (mn : bs name ∈ oLN) (rn : rightP name = true) (b : Bs) (hb : b.length ≤ 5000) (q : Nat) (hq : ¬ D.has q) :
    ∃ D', (D.deed (rightP name) fun D' => D'.fresh name b q) = (0, D') ∧ Nice D' ∧ (bs name = bs nL → readP D' (bs nL) = b) ∧ (bs name ≠ bs nL → readP D' (bs nL) = readP D (bs nL)) := by
  have hw : Few oLN (D.deed (rightP name) fun D' => D'.fresh name b q).2 := h.few.did fun h => few_fresh h mn _ _
  have hf : D.counted.fits (bs name) b.length = 0 := h.few.counted.fits (by decide) (hh.short hm) _ (by omega)
  rw [rn, h.up.deed, PD.fresh, if_pos hf] at hw
  rw [rn, h.up.deed, PD.fresh, if_pos hf]
  refine ⟨_, rfl, ⟨h.up.counted, hw, ?_⟩, fun e => ?_, fun e => ?_⟩
  · show Chg.does _ D.files = dirs D.sure (D.pend ++ [_]) (D.pend ++ [_]).length
    rw [dirs_snoc, if_neg (by rw [List.length_append, List.length_singleton]; omega), ← h.cons]
  · unfold readP
    have : Dir.find (((D.counted.tick.setF q ⟨b, 0, D.counted.clock⟩).turns ⟨name, some q, ByteArray.empty⟩).files) (bs nL) = some q := by
      show Dir.find (Chg.does _ D.files) _ = _
      rw [find_new hn, if_pos e.symm]
    rw [this]
    show (upd D.fs q _ q).b = _
    rw [upd_same]
  · unfold readP
    have : Dir.find (((D.counted.tick.setF q ⟨b, 0, D.counted.clock⟩).turns ⟨name, some q, ByteArray.empty⟩).files) (bs nL) = Dir.find D.files (bs nL) := by
      show Dir.find (Chg.does _ D.files) _ = _
      rw [find_new hn, if_neg fun e2 => e e2.symm]
    rw [this]
    cases hd : Dir.find D.files (bs nL) with
    | none => rfl
    | some p =>
      show (upd D.fs q _ p).b = _
      rw [upd_other _ (show p ≠ q from fun e2 => hq (e2 ▸ has_find hd))]
/-- What is opened, and what becomes of the file. -/
theorem nice_open {F : Nat → Prop} {d m : Nat} {w : World} {D : PD} (h : Nice D) (hh : Has F d w D m) (hm : m ≤ 100000) (k : UInt8) (q : Nat) :
    ∃ D', logOpenP D nL nN k q = ((scanP (readP D (bs nL)) k).2.2, D') ∧ openGot D nL nN k = (scanP (readP D (bs nL)) k).1 ∧ D'.down = false ∧ Dir.find D'.files (bs nN) = none ∧
      ((scanP (readP D (bs nL)) k).2.2 ≠ 0 → readP D' (bs nL) = readP D (bs nL) ∧ ∃ p, Dir.find D'.files (bs nL) = some p) ∧
      ((scanP (readP D (bs nL)) k).2.2 = 0 → (∃ p, Dir.find D'.files (bs nL) = some p) ∧ readP D' (bs nL) = if (scanP (readP D (bs nL)) k).2.1 = 0 then headP k else (readP D (bs nL)).take (scanP (readP D (bs nL)) k).2.1) := by
  obtain ⟨D1, e1, u1, F1, S1, f1, f2, f3, c1⟩ := spare_up (name := nL) (spare := nN) isE_nN ne_nL right_nN h.up h.cons h.few (hh.short hm)
  have er : readP D1 (bs nL) = readP D (bs nL) := by unfold readP; rw [f2, f1]
  obtain ⟨b, hb⟩ : ∃ b, readP D (bs nL) = b := ⟨_, rfl⟩
  have hle := scanP_le b k
  have hnone : Dir.find D.files (bs nL) = none → b = [] := fun e => by rw [← hb]; unfold readP; rw [e]
  rw [(open_is h.up.1 e1 q).1, (open_is h.up.1 e1 q).2, er, hb]
  unfold fixP
  rw [er, hb]
  obtain ⟨⟨recs, en, ee⟩, hs⟩ : ∃ x, scanP b k = x := ⟨_, rfl⟩
  rw [hs] at hle ⊢
  dsimp only at hle ⊢
  by_cases he : ee = 0
  · rw [if_neg (by simpa using he)]
    by_cases hen : en = 0
    · rw [if_pos hen]
      obtain ⟨D', g1, ⟨p, g2⟩, g3⟩ := head_up (k := k) (spare := nN) isE_nL ne_nL right_nL (N := oLN) (by decide) u1 c1 F1 S1 f3 q
      rw [g1]
      refine ⟨D', by rw [he], rfl, g3.1, g2.spare, fun h => absurd he h, fun _ => ⟨⟨p, g2.at_⟩, ?_⟩⟩
      rw [if_pos hen]
      unfold readP
      rw [g2.at_]
      show (D'.fs p).b = _
      rw [g2.b]
      simp [fileP, framesL]
    · rw [if_neg hen]
      obtain ⟨p, hp⟩ : ∃ p, Dir.find D1.files (bs nL) = some p := by
        cases hd : Dir.find D1.files (bs nL) with
        | some p => exact ⟨p, rfl⟩
        | none =>
          have := hnone (by rw [← f2]; exact hd)
          subst this
          rw [scanP_nil] at hs
          exact absurd (Prod.mk.inj (Prod.mk.inj hs).2).1.symm hen
      have hpb : (D1.fs p).b = b := by rw [← hb, ← er]; unfold readP; rw [hp]
      by_cases hlt : en < b.length
      · rw [if_pos hlt, right_nL, u1.deed]
        have hcut : D1.counted.cut nL ((en : Nat) : Int) = (0, (D1.counted.tick).setF p ⟨(D1.counted.fs p).b.take ((en : Nat) : Int).toNat, min (D1.counted.fs p).sure ((en : Nat) : Int).toNat, D1.counted.clock⟩) := by
          have hfc : Dir.find D1.counted.files (bs nL) = some p := hp
          unfold PD.cut
          rw [hfc]
          dsimp only
          unfold PD.cutAt
          rw [if_neg]
          show ¬ (_ ∨ (((D1.fs p).b.length : Nat) : Int) < _)
          rw [hpb]
          omega
        rw [hcut]
        refine ⟨_, Prod.ext he.symm rfl, rfl, u1.1, f3, fun h => absurd he h, fun _ => ⟨⟨p, hp⟩, ?_⟩⟩
        rw [if_neg hen]
        unfold readP
        have : Dir.find ((D1.counted.tick).setF p ⟨(D1.counted.fs p).b.take ((en : Nat) : Int).toNat, min (D1.counted.fs p).sure ((en : Nat) : Int).toNat, D1.counted.clock⟩).files (bs nL) = some p := hp
        rw [this]
        show (upd D1.fs p _ p).b = _
        rw [upd_same]
        show (D1.fs p).b.take _ = _
        rw [hpb, Int.toNat_natCast]
      · rw [if_neg hlt]
        refine ⟨D1, by rw [he], rfl, u1.1, f3, fun h => absurd he h, fun _ => ⟨⟨p, hp⟩, ?_⟩⟩
        rw [if_neg hen, List.take_of_length_le (by omega)]
        exact er.trans hb
  · rw [if_pos he]
    refine ⟨D1, rfl, rfl, u1.1, f3, fun _ => ⟨er.trans hb, ?_⟩, fun h => absurd h he⟩
    cases hd : Dir.find D1.files (bs nL) with
    | some p => exact ⟨p, rfl⟩
    | none =>
      have := hnone (by rw [← f2]; exact hd)
      subst this
      rw [scanP_nil] at hs
      exact absurd (Prod.mk.inj (Prod.mk.inj hs).2).2.symm he
end Go.Proofs.YtbckbkcpfejllaaDoor
