/- crc: the sum of bytes, and its walk. -/
import Derived.Test.YtbckbkcpfejllaaDoorLa0
import Derived.Laws.BitsAllLaws
namespace Go.Proofs.YtbckbkcpfejllaaDoor
open Go.RowKit Go.Maps Go.WideMaps

/-- A register, a bit on; so many bits on; a byte on. -/
def crcBit (x : Nat) : Nat := if x % 2 = 1 then (x / 2) ^^^ 3988292384 else x / 2
def crcBits : Nat → Nat → Nat
  | 0, x => x
  | k + 1, x => crcBit (crcBits k x)
def crcByte (r : Nat) (c : UInt8) : Nat := crcBits 8 (r ^^^ c.toNat)
def crcRun (r : Nat) (b : Bs) : Nat := b.foldl crcByte r
def crcP (b : Bs) : Nat := 4294967295 - crcRun 4294967295 b
theorem xor_lt32 {a b : Nat} (ha : a < 4294967296) (hb : b < 4294967296) : a ^^^ b < 4294967296 := Nat.xor_lt_two_pow (n := 32) ha hb
theorem crcBit_lt {x : Nat} (h : x < 4294967296) : crcBit x < 4294967296 := by
  unfold crcBit
  split
  · exact xor_lt32 (by omega) (by omega)
  · omega
theorem crcBits_lt {x : Nat} (h : x < 4294967296) : ∀ k, crcBits k x < 4294967296
  | 0 => h
  | k + 1 => crcBit_lt (crcBits_lt h k)
theorem crcByte_lt {r : Nat} (h : r < 4294967296) (c : UInt8) : crcByte r c < 4294967296 := crcBits_lt (xor_lt32 h (by have := c.toNat_lt; omega)) 8
theorem crcRun_lt {r : Nat} (h : r < 4294967296) (b : Bs) : crcRun r b < 4294967296 := by
  unfold crcRun
  induction b generalizing r with
  | nil => exact h
  | cons c b ih => exact ih (crcByte_lt h c)
theorem crcP_lt (b : Bs) : crcP b < 4294967296 := by unfold crcP; omega

set_option maxRecDepth 100000 in
theorem shifted_at (w : World) (r : Nat) (hr : r < 4294967296) (c : UInt8) : Calls Tryd.prog 97 #[.int .u32 r, .int .u8 c.toNat] w fun e w' => e = .returned (.int .u32 (crcByte r c)) ∧ w = w' := by
  obtain ⟨n, hn⟩ : ∃ n, c.toNat = n := ⟨_, rfl⟩
  have hn8 : n < 256 := by have := c.toNat_lt; omega
  unfold crcByte
  rw [hn]
  clear hn
  have hx1 := u32_xor_nat r n hr (by omega)
  have hlt := xor_lt32 hr (show n < 4294967296 by omega)
  obtain ⟨x, hx⟩ : ∃ x, r ^^^ n = x := ⟨_, rfl⟩
  rw [hx] at hx1 hlt ⊢
  clear hx
  go_enter Tryd.func97, Tryd.ntmps97
  go_wp2_with fail
  clear hx1
  go_loopw [0, 10] (fun v i wr => ∃ k : Nat, k ≤ 8 ∧ i = .int .i64 k ∧ v = .int .u32 (crcBits k x : Nat) ∧ w = wr) (fun _ i _ => 8 - (intOf i).toNat)
  case atStart => exact ⟨0, by omega, rfl, rfl, rfl⟩
  case round =>
    obtain ⟨k, hk, rfl, rfl, rfl⟩ := hrel
    by_cases hlt8 : k < 8
    · have hy := crcBits_lt hlt k
      obtain ⟨y, hye⟩ : ∃ y, crcBits k x = y := ⟨_, rfl⟩
      have hnext : crcBits (k + 1) x = crcBit y := by rw [← hye]; rfl
      rw [hye] at hy ⊢
      clear hye
      have hy0 : bits .and .u32 (y : Int) 1 = ((y % 2 : Nat) : Int) := by have := u32_and_nat y 1 hy (by omega); rwa [Nat.and_one_is_mod] at this
      have Hn := Lib.hid hnext
      clear hnext
      by_cases hodd : y % 2 = 1
      · have hy1 : bits .and .u32 (y : Int) 1 = 1 := by rw [hy0, hodd]; rfl
        have hy2 : bits .xor .u32 ((y : Int) / 2) 3988292384 = ((y / 2 ^^^ 3988292384 : Nat) : Int) := by have := u32_xor_nat (y / 2) 3988292384 (by omega) (by omega); simpa using this
        have hb : crcBit y = y / 2 ^^^ 3988292384 := by unfold crcBit; rw [if_pos hodd]
        have Hb := Lib.hid hb
        clear hy0 hodd hb
        go_wp2_with fail
        go_roundw
        case rel => exact ⟨k + 1, by omega, by go_num, by rw [Hn.out, Hb.out], trivial⟩
        case measure => simp [intOf]; omega
      · have hy1 : bits .and .u32 (y : Int) 1 = 0 := by rw [hy0]; omega
        have hb : crcBit y = y / 2 := by unfold crcBit; rw [if_neg hodd]
        have Hb := Lib.hid hb
        clear hy0 hodd hb
        go_wp2_with fail
        go_roundw
        case rel => exact ⟨k + 1, by omega, by go_num, by rw [Hn.out, Hb.out]; simp, trivial⟩
        case measure => simp [intOf]; omega
    · obtain rfl : k = 8 := by omega
      go_wp2_with fail
      go_ret
      exact ⟨rfl, rfl⟩
theorem crcRun_snoc (r : Nat) (b : Bs) (c : UInt8) : crcRun r (b ++ [c]) = crcByte (crcRun r b) c := by simp [crcRun]
set_option maxRecDepth 100000 in
theorem fold32_at (w : World) (r : Nat) (hr : r < 4294967296) {v : Value} {b : Bs} (hb : Bin w v b) (hl : b.length ≤ 1000000) :
    Calls Tryd.prog 96 #[.int .u32 r, v, .func (.func 97) #[] #[]] w fun e w' => e = .returned (.int .u32 (crcRun r b)) ∧ w = w' := by
  obtain ⟨a, cap, rfl, hcap, _, hcell⟩ := hb
  obtain ⟨n, hn⟩ : ∃ n, b.length = n := ⟨_, rfl⟩
  have Hn := Lib.hid hn
  have Hcell := Lib.hid hcell
  rw [hn] at hcap hl ⊢
  clear hn hcell
  go_enter Tryd.func96, Tryd.ntmps96
  go_wp2_with fail
  go_loopw [0, 11] (fun v i wr => ∃ j : Nat, j ≤ n ∧ i = .int .i64 j ∧ v = .int .u32 (crcRun r (b.take j) : Nat) ∧ w = wr) (fun _ i _ => n - (intOf i).toNat)
  case atStart => exact ⟨0, Nat.zero_le _, rfl, by simp [crcRun], rfl⟩
  case round =>
    obtain ⟨j, hj, rfl, rfl, rfl⟩ := hrel
    by_cases hlt : j < n
    · have hjb : j < b.length := by rw [Hn.out]; exact hlt
      obtain ⟨ab, ao, rfl, hc⟩ := Hcell.out j hjb
      have hnext : crcRun r (b.take (j + 1)) = crcByte (crcRun r (b.take j)) b[j] := by rw [List.take_succ_eq_append_getElem hjb, crcRun_snoc]
      have hy := crcRun_lt hr (b.take j)
      obtain ⟨y, hye⟩ : ∃ y, crcRun r (b.take j) = y := ⟨_, rfl⟩
      obtain ⟨c, hce⟩ : ∃ c, b[j] = c := ⟨_, rfl⟩
      rw [hye, hce] at hnext
      rw [hye] at hy ⊢
      rw [hce] at hc
      unfold byteV at hc
      have Hnext := Lib.hid hnext
      clear hye hce hnext
      go_wp2_with fail
      refine (shifted_at w y hy c).mono ?_
      rintro e w1 ⟨rfl, rfl⟩
      go_wp2_with fail
      go_roundw
      case rel => exact ⟨j + 1, by omega, by go_num, by rw [Hnext.out], trivial⟩
      case measure => simp [intOf]; omega
    · obtain rfl : j = n := by omega
      go_wp2_with fail
      go_ret
      exact ⟨by rw [List.take_of_length_le (by rw [Hn.out]; exact Nat.le_refl _)]; rfl, rfl⟩
theorem not32 {s : Nat} (hs : s < 4294967296) : 4294967295 ^^^ s = 4294967295 - s := by
  have h1 : (BitVec.allOnes 32 ^^^ BitVec.ofNat 32 s).toNat = (~~~ (BitVec.ofNat 32 s)).toNat := by rw [BitVec.allOnes_xor]
  rw [BitVec.toNat_xor, BitVec.toNat_not, BitVec.toNat_ofNat, BitVec.toNat_allOnes, Nat.mod_eq_of_lt (by omega)] at h1
  simpa using h1
theorem not32_run {s : Nat} (hs : s < 4294967296) : bits .xor .u32 IntKind.u32.max (s : Int) = ((4294967295 - s : Nat) : Int) := by
  have h : IntKind.u32.max = ((4294967295 : Nat) : Int) := by decide
  rw [h, u32_xor_nat _ _ (by omega) hs, not32 hs]
theorem more_at (w : World) (s : Nat) (hs : s < 4294967296) {v : Value} {b : Bs} (hb : Bin w v b) (hl : b.length ≤ 1000000) :
    Calls Tryd.prog 84 #[.int .u32 s, v] w fun e w' => e = .returned (.int .u32 (4294967295 - crcRun (4294967295 - s) b : Nat)) ∧ w = w' := by
  have hf := fold32_at w (4294967295 - s) (by omega) hb hl
  have hlt := crcRun_lt (r := 4294967295 - s) (by omega) b
  have hx1 := not32_run hs
  have hx2 := not32_run hlt
  have Hf := Lib.hid hf
  obtain ⟨a, cap, rfl, _⟩ := hb
  clear hf
  go_enter Tryd.func84, Tryd.ntmps84
  go_wp2_with fail
  refine Hf.out.mono ?_
  rintro e w1 ⟨rfl, rfl⟩
  go_wp2_with fail
  go_ret
  exact ⟨rfl, rfl⟩
theorem sum_at (w : World) {v : Value} {b : Bs} (hb : Bin w v b) (hl : b.length ≤ 1000000) : Calls Tryd.prog 71 #[v] w fun e w' => e = .returned (.int .u32 (crcP b)) ∧ w = w' := by
  have hm := more_at w 0 (by omega) hb hl
  obtain ⟨a, cap, rfl, _⟩ := hb
  have Hm := Lib.hid hm
  clear hm
  go_enter Tryd.func71, Tryd.ntmps71
  go_wp2_with fail
  refine Hm.out.mono ?_
  rintro e w1 ⟨rfl, rfl⟩
  go_wp2_with fail
  go_ret
  exact ⟨rfl, rfl⟩
end Go.Proofs.YtbckbkcpfejllaaDoor
