/- The walks of package path, second part: the parts of a name, one behind the other (strings.SplitSeq at one byte). -/
import Derived.Test.YtbckbkcpfejllaaDoorPw0
import Derived.Test.YtbckbkcpfejllaaDoorRf
import Derived.OwnWalkIn
import Derived.TacticsInMore
import Derived.LoopNIn
import Derived.LoopIn
import Derived.Shelf.RegionOpen
namespace Go.Proofs.YtbckbkcpfejllaaDoor
open Go.RowKit
attribute [local go_sem] Oper.semAt_some

abbrev slash : ByteArray := ⟨#[47]⟩
theorem index_at (s : ByteArray) (W : World) : Calls Tryd.prog 126 #[.string s, .string slash] W fun e w' => e = .returned (.int .i64 (Lib.indexByte (bs s) 47)) ∧ W = w' :=
  (Tryd.strings_Index_one s 47 W).mono fun _ _ ⟨h1, h2⟩ => ⟨h1, h2.symm⟩

/-- A string's cell, read as its length. -/
def leftS (b : Nat) (w : World) : Nat := match w.cell? ⟨b, 0, none⟩ with
  | some (.string s) => s.size
  | _ => 0
theorem leftS_eq {b : Nat} {w : World} {s : ByteArray} (h : w.cell? ⟨b, 0, none⟩ = some (.string s)) : leftS b w = s.size := by
  unfold leftS; rw [h]
def encB (x : Bs) : Array Value := #[encStr x]
theorem bs_extract (s : ByteArray) (a b : Nat) : bs (s.extract a b) = ((bs s).drop a).take (b - a) := by
  simp only [bs, ByteArray.data_extract, Array.toList_extract, List.extract]
theorem bs_head (s : ByteArray) (i : Nat) : bs (s.extract 0 i) = (bs s).take i := by rw [bs_extract]; simp
theorem bs_rest (s : ByteArray) (i : Nat) : bs (s.extract i s.size) = (bs s).drop i := by
  rw [bs_extract, List.take_of_length_le (by simp [bs])]
theorem bs_len (s : ByteArray) : (bs s).length = s.size := by simp [bs]

theorem splitSeq_at (s : ByteArray) (w : World) : Calls Tryd.prog 93 #[.string s, .string slash] w fun e w' =>
    e = .returned (.func (.func 124) #[] #[.pointer (some ⟨w.heap.size + 1, 0, none⟩), .pointer (some ⟨w.heap.size, 0, none⟩), .pointer (some ⟨w.heap.size + 1 + 1, 0, none⟩)]) ∧
      ((w.alloc (.cells #[.string s] 9)).alloc (.cells #[.string slash] 9)).alloc (.cells #[.int .i64 0] 3) = w' := by
  go_enter Tryd.func93, Tryd.ntmps93
  go_wp2
  go_ret
  exact ⟨rfl, rfl⟩

set_option maxRecDepth 100000 in
set_option maxHeartbeats 1000000 in
theorem split1_it (n : Nat) (s : ByteArray) (hs : s.size ≤ 1000000) (bp b0 bv : Nat) (h1 : bp ≠ b0) (h2 : bv ≠ b0) (W : World) (cp : W.heap[bp]? = some (.cells #[.string slash] 9 (0, 0))) (c0 : W.heap[b0]? = some (.cells #[.string s] 9 (0, 0)))
    (cv : W.heap[bv]? = some (.cells #[.int .i64 0] 3 (0, 0))) :
    IterK Fence.wide n Tryd.prog 124 #[.pointer (some ⟨bp, 0, none⟩), .pointer (some ⟨b0, 0, none⟩), .pointer (some ⟨bv, 0, none⟩)] encB (fun b => b = bp ∨ b = b0 ∨ b = bv) (splitB (bs s)) W := by
  intro l J Jx hJ hJx hY h0
  refine callsIn_of_wp Tryd.func124 rfl trivial ?_ rfl
  simp only [Tryd.ntmps124, List.size_toArray, List.length_cons, List.length_nil, Nat.reduceAdd, Nat.reduceSub, Array.replicate_succ, Array.replicate_zero, List.push_toArray, List.append_toArray, List.nil_append, List.cons_append]
  have kp : W.cell? ⟨bp, 0, none⟩ = some (.string slash) := by rw [cell_at cp]; rfl
  have k0 : W.cell? ⟨b0, 0, none⟩ = some (.string s) := by rw [cell_at c0]; rfl
  have HY := Lib.hid hY
  have HJ := Lib.hid hJ
  clear hY hJ hJx
  gi_wp2
  gi_loopw [7] (fun _ wr => ∃ (pre : List Bs) (t : ByteArray), splitB (bs s) = pre ++ splitB (bs t) ∧ t.size ≤ s.size ∧ J pre wr ∧ wr.heap[bp]? = some (.cells #[.string slash] 9 (0, 0)) ∧ wr.heap[b0]? = some (.cells #[.string t] 9 (0, 0)) ∧ wr.heap[bv]? = some (.cells #[.int .i64 0] 3 (0, 0)))
    (fun _ wr => leftS b0 wr)
  case atStart => exact ⟨[], s, rfl, Nat.le_refl _, h0, cp, c0, cv⟩
  case round =>
    obtain ⟨pre, t, hsp, hts, hj, qp, q0, qv⟩ := hrel
    have rp : wr.cell? ⟨bp, 0, none⟩ = some (.string slash) := by rw [cell_at qp]; rfl
    have r0 : wr.cell? ⟨b0, 0, none⟩ = some (.string t) := by rw [cell_at q0]; rfl
    have rv : wr.cell? ⟨bv, 0, none⟩ = some (.int .i64 0) := by rw [cell_at qv]; rfl
    rcases splitB_idx (bs t) with ⟨hi, hp⟩ | ⟨i, hi, hil, hp⟩
    · have hc := index_at t wr
      rw [hi] at hc
      have Hc := Lib.hid hc
      obtain ⟨fn, tmps, assign, body, hy, hR⟩ := HY.out pre (bs t) wr hj (by rw [hsp, hp]; exact List.prefix_refl _)
      simp only [encB, encStr_bs] at hy
      clear hc
      gi_wp2_with fail
      refine ⟨trivial, (fun h => (by cases h)), (callsIn_wide.2 Hc.out).mono ?_⟩
      rintro e w' ⟨rfl, rfl⟩
      gi_wp2_with fail
      refine ⟨(fun h => (by cases h)), hR.mono ?_⟩
      have Hsp : Hid (splitB (bs s) = pre ++ [bs t]) := Lib.hid (by rw [hsp, hp])
      clear hsp hp hi hy
      rintro e B (⟨rfl, hj', hk⟩ | ⟨rfl, hjx⟩)
      · gi_wp2_with fail
        go_end0
        exact ⟨⟨_, rfl⟩, Or.inl (by rw [Hsp.out]; exact hj')⟩
      · gi_wp2_with fail
        go_end0
        exact ⟨⟨_, rfl⟩, Or.inr ⟨_, by rw [Hsp.out]; exact List.prefix_refl _, hjx⟩⟩
    · have hc := index_at t wr
      rw [hi] at hc
      have Hc := Lib.hid hc
      rw [bs_len] at hil
      have hx : bs (t.extract 0 i) = (bs t).take i := bs_head t i
      have Hsp : Hid (splitB (bs s) = pre ++ [bs (t.extract 0 i)] ++ splitB (bs (t.extract (i + 1) t.size))) := Lib.hid (by rw [hsp, hp, hx, bs_rest]; simp)
      obtain ⟨fn, tmps, assign, body, hy, hR⟩ := HY.out pre (bs (t.extract 0 i)) wr hj (by rw [Hsp.out]; exact List.prefix_append _ _)
      simp only [encB, encStr_bs] at hy
      have hw1 : IntKind.i64.wrap ((i : Int) + 0) = (i : Int) := by rw [Int.add_zero]; exact IntWalk.i64_in _ (by omega)
      have hw2 : IntKind.i64.wrap ((i : Int) + 1) = (i : Int) + 1 := IntWalk.i64_in _ (by omega)
      have hw3 : (0 : Int) ≤ i := by omega
      have hw4 : (i : Int) ≤ t.size := by omega
      have hw5 : ((i : Int) + 1) ≤ t.size := by omega
      have hw6 : ((i : Int) + 1).toNat = i + 1 := by omega
      clear hc hsp hp hi hx
      gi_wp2_with fail
      refine ⟨trivial, (fun h => (by cases h)), (callsIn_wide.2 Hc.out).mono ?_⟩
      rintro e w' ⟨rfl, rfl⟩
      gi_wp2_with fail
      refine ⟨(fun h => (by cases h)), hR.mono ?_⟩
      clear hy
      rintro e B (⟨rfl, hj', hk⟩ | ⟨rfl, hjx⟩)
      · have np := hk.heap qp (fun h => h (Or.inl rfl))
        have n0 := hk.heap q0 (fun h => h (Or.inr (Or.inl rfl)))
        have nv := hk.heap qv (fun h => h (Or.inr (Or.inr rfl)))
        have mp : B.cell? ⟨bp, 0, none⟩ = some (.string slash) := by rw [cell_at np]; rfl
        have m0 : B.cell? ⟨b0, 0, none⟩ = some (.string t) := by rw [cell_at n0]; rfl
        have f0 : B.frozen? ⟨b0, 0, none⟩ = false := frozen_at n0
        have Np := Lib.hid np
        have N0 := Lib.hid n0
        have Nv := Lib.hid nv
        clear np n0 nv
        gi_wp2_with fail
        go_roundw
        case rel =>
          refine ⟨pre ++ [bs (t.extract 0 i)], t.extract (i + 1) t.size, Hsp.out, ?_, HJ.out _ _ _ hj' ((Keeps.refl _ B).setCell (p := ⟨b0, 0, none⟩) (fun _ => Or.inr (Or.inl rfl)) _), heap_setCell_of Np.out h1 _, ?_, heap_setCell_of Nv.out h2 _⟩
          · rw [ByteArray.size_extract]; omega
          · rw [heap_setCell_at N0.out]; rfl
        case measure =>
          rw [leftS_eq r0, leftS_eq (s := t.extract (i + 1) t.size) (by rw [cell_at (by rw [heap_setCell_at N0.out])]; rfl), ByteArray.size_extract]
          omega
      · gi_wp2_with fail
        refine bodyPost_ret (results_none rfl _ _ _) rfl ?_
        exact ⟨⟨_, rfl⟩, Or.inr ⟨_, by rw [Hsp.out]; exact List.prefix_append _ _, hjx⟩⟩
end Go.Proofs.YtbckbkcpfejllaaDoor
