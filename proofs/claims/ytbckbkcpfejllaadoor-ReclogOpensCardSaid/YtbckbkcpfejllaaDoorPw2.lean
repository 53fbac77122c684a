/- The walks of package path, third part: Clean, Right. -/
import Derived.Test.YtbckbkcpfejllaaDoorPw1
namespace Go.Proofs.YtbckbkcpfejllaaDoor
open Go.RowKit
attribute [local go_sem] Oper.semAt_some

def Cleaned (w : World) (s : ByteArray) (e : Ending) (w' : World) : Prop := e = .returned (.tuple #[encStr (cleanP (bs s)).1, .int .i64 (cleanP (bs s)).2]) ∧ Below w.heap.size w w'
theorem hasPrefix_at (s : ByteArray) (W : World) : Calls Tryd.prog 89 #[.string s, .string slash] W fun e w' => e = .returned (.bool (decide ((bs s).head? = some 47))) ∧ W = w' := by
  refine (Tryd.strings_HasPrefix s slash W).mono fun e w' ⟨h1, h2⟩ => ⟨h1.trans ?_, h2.symm⟩
  congr 2
  rw [Bool.eq_iff_iff]
  unfold Lib.hasPrefix
  cases h : s.data.toList with
  | nil => simp [bs, h]
  | cons c r =>
    simp [bs, h, List.isPrefixOf]
    exact eq_comm
theorem clean_long (s : ByteArray) (w : World) (h : 1000 < s.size) : Calls Tryd.prog 81 #[.string s] w (Cleaned w s) := by
  have hc : cleanP (bs s) = ([], 3) := by unfold cleanP; rw [if_pos (by rw [bs_len]; exact h)]
  have Hc := Lib.hid hc
  clear hc
  go_enter Tryd.func81, Tryd.ntmps81
  go_wp2
  go_step3
  go_wp2
  rw [Exit.noGoto_ret]
  refine bodyPost_ret (v := .tuple #[.string ⟨#[]⟩, .int .i64 3]) (by simp [results, Tryd.results81, go_sem]) rfl ?_
  exact ⟨by rw [Hc.out], ((Below.refl _ w).alloc (Nat.le_refl _) _).alloc (by simp) _⟩
theorem clean_slash (s : ByteArray) (w : World) (h : s.size ≤ 1000) (hh : (bs s).head? = some 47) : Calls Tryd.prog 81 #[.string s] w (Cleaned w s) := by
  have hc : cleanP (bs s) = ([], 5) := by unfold cleanP; rw [if_neg (by rw [bs_len]; omega), if_pos (Or.inl hh)]
  have hp : ∀ W, Calls Tryd.prog 89 #[.string s, .string slash] W fun e w' => e = .returned (.bool true) ∧ W = w' := fun W => by
    have := hasPrefix_at s W
    rwa [show decide ((bs s).head? = some 47) = true by simpa using hh] at this
  have Hp := Lib.hid hp
  have Hc := Lib.hid hc
  clear hc hh hp
  go_enter Tryd.func81, Tryd.ntmps81
  go_wp2
  go_step3
  go_wp2_with fail
  refine (Hp.out _).mono ?_
  rintro e w1 ⟨rfl, rfl⟩
  go_wp2_with fail
  rw [Exit.noGoto_ret]
  refine bodyPost_ret (v := .tuple #[.string ⟨#[]⟩, .int .i64 5]) (by simp [results, Tryd.results81, go_sem]) rfl ?_
  exact ⟨by rw [Hc.out], ((Below.refl _ w).alloc (Nat.le_refl _) _).alloc (by simp) _⟩
theorem clean_sign (s : ByteArray) (w : World) (h : s.size ≤ 1000) (hh : ¬ (bs s).head? = some 47) (hn : (bs s).all plainB = false) : Calls Tryd.prog 81 #[.string s] w (Cleaned w s) := by
  have hc : cleanP (bs s) = ([], 5) := by unfold cleanP; rw [if_neg (by rw [bs_len]; omega), if_pos (Or.inr hn)]
  have hp : ∀ W, Calls Tryd.prog 89 #[.string s, .string slash] W fun e w' => e = .returned (.bool false) ∧ W = w' := fun W => by
    have := hasPrefix_at s W
    rwa [show decide ((bs s).head? = some 47) = false by simpa using hh] at this
  have hx := fun W => allPlain_at s W
  have hi := idx_plain s
  rw [hn] at hi
  generalize Lib.idxFunc (fun r => !plainR r) true s = ix at *
  have hi2 : 0 ≤ ix := by simpa using hi
  have Hx := Lib.hid hx
  have Hp := Lib.hid hp
  have Hc := Lib.hid hc
  clear hc hh hp hx hi hn
  go_enter Tryd.func81, Tryd.ntmps81
  go_wp2
  go_step3
  go_wp2_with fail
  refine (Hp.out _).mono ?_
  rintro e w1 ⟨rfl, rfl⟩
  go_wp2_with fail
  refine (Hx.out _).mono ?_
  rintro e w1 ⟨rfl, hb⟩
  have x0 : ((w.alloc (.cells #[.string ⟨#[]⟩] 9)).alloc (.cells #[.int .i64 0] 26)).heap[w.heap.size]? = some (.cells #[.string ⟨#[]⟩] 9 (0, 0)) := heap_alloc_of (heap_alloc_at rfl _) _
  have x1 : ((w.alloc (.cells #[.string ⟨#[]⟩] 9)).alloc (.cells #[.int .i64 0] 26)).heap[w.heap.size + 1]? = some (.cells #[.int .i64 0] 26 (0, 0)) := heap_alloc_at (by simp) _
  have y0 := (hb.block _ (lt_of_heap x0)).trans x0
  have y1 := (hb.block _ (lt_of_heap x1)).trans x1
  have hbw : Below w.heap.size w w1 := (((Below.refl _ w).alloc (Nat.le_refl _) _).alloc (by simp) _).trans (hb.mono (by simp; omega))
  have z0 : w1.cell? ⟨w.heap.size, 0, none⟩ = some (.string ⟨#[]⟩) := by rw [cell_at y0]; rfl
  have z1 : w1.cell? ⟨w.heap.size + 1, 0, none⟩ = some (.int .i64 0) := by rw [cell_at y1]; rfl
  have g0 : w1.frozen? ⟨w.heap.size, 0, none⟩ = false := frozen_at y0
  have g1 : w1.frozen? ⟨w.heap.size + 1, 0, none⟩ = false := frozen_at y1
  clear x0 x1 y0 y1 hb
  go_wp2_with fail
  rw [Exit.noGoto_ret]
  refine bodyPost_ret (v := .tuple #[.string ⟨#[]⟩, .int .i64 5]) (by simp [results, Tryd.results81, go_sem, z0, z1]) rfl ?_
  exact ⟨by rw [Hc.out], (hbw.setCell (p := ⟨w.heap.size, 0, none⟩) (Nat.le_refl _) _).setCell (p := ⟨w.heap.size + 1, 0, none⟩) (by show w.heap.size ≤ w.heap.size + 1; omega) _⟩

theorem info_str : (Tryd.prog.info? 9).map (fun i => (i.zero, i.size, i.bytes)) = some (some (.string ⟨#[]⟩), 1, 16) := by kernel_rfl
/-- Between two rounds: the parts that count lie in a row of the call's own. -/
def PartsI (w : World) (P : Nat) (pre : List Bs) (W : World) : Prop :=
  (∃ (v : Value) (acc : List Bs), foldB [] pre = some acc ∧ W.heap[P]? = some (.cells #[v] 95 (0, 0)) ∧ Row W 9 1 v acc.length (acc.map encStr) ∧ ∀ b, v.ownBlock = some b → P + 5 < b) ∧
    W.heap[w.heap.size]? = some (.cells #[.string ⟨#[]⟩] 9 (0, 0)) ∧ W.heap[w.heap.size + 1]? = some (.cells #[.int .i64 0] 26 (0, 0)) ∧ Below w.heap.size w W
/-- A round has left. -/
def PartsX (w : World) (c : Code) (pre : List Bs) (W : World) : Prop :=
  c = .ret ∧ foldB [] pre = none ∧ W.heap[w.heap.size]? = some (.cells #[.string ⟨#[]⟩] 9 (0, 0)) ∧ W.heap[w.heap.size + 1]? = some (.cells #[.int .i64 5] 26 (0, 0)) ∧ Below w.heap.size w W

/-- strings.Join over the row. -/
theorem join_at {W : World} {v : Value} {acc : List Bs} (h : Row W 9 1 v acc.length (acc.map encStr)) (hl : acc.length ≤ 2000) (hx : (joinB acc).length ≤ 100000000) :
    Calls Tryd.prog 94 #[v, .string slash] W fun e w' => e = .returned (encStr (joinB acc)) ∧ Below W.heap.size W w' := by
  rcases h.2 with ⟨rfl, h0⟩ | ⟨g, cap, cur, rfl, hg, h1, h2, h3, h4⟩
  · have ha : acc = [] := List.length_eq_zero_iff.1 h0
    subst ha
    exact (Tryd.strings_Join_none none 0 slash W).mono fun e w' ⟨he, hw⟩ => ⟨he, hw ▸ Below.refl _ _⟩
  · have e1 : (acc.map fun x => (⟨x.toArray⟩ : ByteArray)).length = acc.length := List.length_map _
    have e2 : (acc.map fun x => (⟨x.toArray⟩ : ByteArray)).map (·.data.toList) = acc := by
      rw [List.map_map]
      exact List.map_id acc
    have e3 : Lib.join ((acc.map fun x => (⟨x.toArray⟩ : ByteArray)).map (·.data.toList)) slash.data.toList = joinB acc := by rw [e2, joinB_eq]
    have hj := Tryd.strings_Join g 0 cap (acc.map fun x => (⟨x.toArray⟩ : ByteArray)) slash W (fun j x hj => ?_) (lt_of_heap hg) (by omega) (by omega) (by rw [e3]; omega)
    · rw [e1, e3] at hj
      exact hj
    · rw [Nat.zero_add, cell_at hg]
      have h5 := congrArg (fun l => l[j]?) h4
      have hj2 : j < acc.length := by
        have := (List.getElem?_eq_some_iff.1 hj).1
        omega
      simp only [Nat.mul_one, List.getElem?_take, hj2, if_true, List.getElem?_map] at h5
      rw [List.getElem?_map] at hj
      rw [← Array.getElem?_toList, h5]
      cases hx : acc[j]? with
      | none => rw [hx] at hj; cases hj
      | some y =>
        rw [hx] at hj
        cases hj
        rfl
/-- The way out behind the loop. -/
theorem clean_leave {s : ByteArray} {w W : World} {tm : Array Value} {D : Nat} {Y : Bs} {c : Int} (t2 : tm[2]? = some (.pointer (some ⟨w.heap.size, 0, none⟩))) (t3 : tm[3]? = some (.pointer (some ⟨w.heap.size + 1, 0, none⟩))) (h5 : W.heap[w.heap.size]? = some (.cells #[encStr Y] 9 (0, 0)))
    (h6 : W.heap[w.heap.size + 1]? = some (.cells #[.int .i64 c] 26 (0, 0))) (hD : W.heap[D]? = some (.deferred (some []))) (hDN : w.heap.size + 1 < D) (hb : Below w.heap.size w W) (hc : cleanP (bs s) = (Y, c)) :
    LeavesInM Fence.wide 5 Tryd.prog Tryd.f81 tm (Cleaned w s) [{ target := .collected D, args := #[] }] .returning W := by
  refine ⟨by simp, .inl ⟨_, _, rfl, run_takeDeferred hD, ?_⟩⟩
  have h5' : (W.putObj D (.deferred none)).heap[w.heap.size]? = some (.cells #[encStr Y] 9 (0, 0)) := (World.putObj_heap_other (by omega)).trans h5
  have h6' : (W.putObj D (.deferred none)).heap[w.heap.size + 1]? = some (.cells #[.int .i64 c] 26 (0, 0)) := (World.putObj_heap_other (by omega)).trans h6
  have k5 : (W.putObj D (.deferred none)).cell? ⟨w.heap.size, 0, none⟩ = some (encStr Y) := by rw [cell_at h5']; rfl
  have k6 : (W.putObj D (.deferred none)).cell? ⟨w.heap.size + 1, 0, none⟩ = some (.int .i64 c) := by rw [cell_at h6']; rfl
  refine ⟨.tuple #[encStr Y, .int .i64 c], ?_, by rw [hc], hb.trans ((keeps_putObj (S := fun b => b = D) rfl _).below hb.size (fun b hb => by omega))⟩
  unfold encStr at k5 ⊢
  simp [results, Tryd.results81, go_sem, t2, t3, k5, k6]

set_option maxRecDepth 100000 in
set_option maxHeartbeats 1000000 in
theorem clean_main (s : ByteArray) (w : World) (h : s.size ≤ 1000) (hh : ¬ (bs s).head? = some 47) (hn : (bs s).all plainB = true) : Calls Tryd.prog 81 #[.string s] w (Cleaned w s) := by
  have hp : ∀ W, Calls Tryd.prog 89 #[.string s, .string slash] W fun e w' => e = .returned (.bool false) ∧ W = w' := fun W => by
    have := hasPrefix_at s W
    rwa [show decide ((bs s).head? = some 47) = false by simpa using hh] at this
  have hx := fun W => allPlain_at s W
  have hi := idx_plain s
  rw [hn] at hi
  generalize Lib.idxFunc (fun r => !plainR r) true s = ix at *
  have hi2 : ix < 0 := by simpa using hi
  have hd1 : decide ((1000 : Int) < (s.size : Int)) = false := by simp; omega
  have hd2 : decide (0 ≤ ix) = false := by simp; omega
  have Hx := Lib.hid hx
  have Hp := Lib.hid hp
  have Hh := Lib.hid (And.intro hh hn)
  clear hh hp hx hi hn
  refine (callsIn_wide (n := 5)).1 (callsIn_of_wp_marks Tryd.func81 rfl trivial (wpIn_wide.2 ?_) rfl)
  simp only [Tryd.ntmps81, List.size_toArray, List.length_cons, List.length_nil, Nat.reduceAdd, Nat.reduceSub, Array.replicate_succ, Array.replicate_zero, List.push_toArray, List.append_toArray, List.nil_append, List.cons_append]
  go_wp2
  go_step3
  go_wp2_with fail
  refine (Hp.out _).mono ?_
  rintro e w1 ⟨rfl, rfl⟩
  go_wp2_with fail
  refine (Hx.out _).mono ?_
  rintro e w1 ⟨rfl, hb⟩
  have x0 : ((w.alloc (.cells #[.string ⟨#[]⟩] 9)).alloc (.cells #[.int .i64 0] 26)).heap[w.heap.size]? = some (.cells #[.string ⟨#[]⟩] 9 (0, 0)) := heap_alloc_of (heap_alloc_at rfl _) _
  have x1 : ((w.alloc (.cells #[.string ⟨#[]⟩] 9)).alloc (.cells #[.int .i64 0] 26)).heap[w.heap.size + 1]? = some (.cells #[.int .i64 0] 26 (0, 0)) := heap_alloc_at (by simp) _
  have y0 := (hb.block _ (lt_of_heap x0)).trans x0
  have y1 := (hb.block _ (lt_of_heap x1)).trans x1
  have hbw : Below w.heap.size w w1 := (((Below.refl _ w).alloc (Nat.le_refl _) _).alloc (by simp) _).trans (hb.mono (by simp; omega))
  have Y0 := Lib.hid y0
  have Y1 := Lib.hid y1
  have Hbw := Lib.hid hbw
  clear x0 x1 y0 y1 hb hbw
  go_wp2_with fail
  go_step3
  go_wp2_with fail
  refine (splitSeq_at s _).mono ?_
  rintro e w2 ⟨rfl, hw2⟩
  go_wp2_with fail
  obtain ⟨P, hP⟩ : ∃ P, w1.heap.size = P := ⟨_, rfl⟩
  have hNP : w.heap.size + 1 < P := by rw [← hP]; exact lt_of_heap Y1.out
  have hz : w2.heap.size = P + 4 := by rw [← hw2, ← hP]; simp
  have b0 : w2.heap[P]? = some (.cells #[.slice none 0 0] 95 (0, 0)) := by rw [← hw2, ← hP]; exact heap_alloc_of (heap_alloc_of (heap_alloc_of (heap_alloc_at rfl _) _) _) _
  have b1 : w2.heap[P + 1]? = some (.cells #[.string s] 9 (0, 0)) := by rw [← hw2, ← hP]; exact heap_alloc_of (heap_alloc_of (heap_alloc_at (by simp) _) _) _
  have b2 : w2.heap[P + 1 + 1]? = some (.cells #[.string slash] 9 (0, 0)) := by rw [← hw2, ← hP]; exact heap_alloc_of (heap_alloc_at (by simp) _) _
  have b3 : w2.heap[P + 1 + 1 + 1]? = some (.cells #[.int .i64 0] 3 (0, 0)) := by rw [← hw2, ← hP]; exact heap_alloc_at (by simp) _
  have hb2 : Below w1.heap.size w1 w2 := by rw [← hw2]; exact ((((Below.refl _ w1).alloc (Nat.le_refl _) _).alloc (by simp) _).alloc (by simp; omega) _).alloc (by simp; omega) _
  have r0 := (hb2.block _ (lt_of_heap Y0.out)).trans Y0.out
  have r1 := (hb2.block _ (lt_of_heap Y1.out)).trans Y1.out
  have hbw2 : Below w.heap.size w w2 := Hbw.out.trans (hb2.mono (by omega))
  simp only [hP]
  clear hb2 hw2 hP
  refine (wpIn_wide (n := 5)).1 ?_
  refine wpIn_range_k (α := Bs) rfl (by omega) (gf := 124) (lb := #[.pointer (some ⟨P + 1 + 1, 0, none⟩), .pointer (some ⟨P + 1, 0, none⟩), .pointer (some ⟨P + 1 + 1 + 1, 0, none⟩)]) rfl trivial (enters_of Tryd.func124 (by kernel_rfl) rfl)
    (encs := encB) (Own := fun b => b = P + 1 + 1 ∨ b = P + 1 ∨ b = P + 1 + 1 + 1) (S := fun b => (b = P + 1 + 1 ∨ b = P + 1 ∨ b = P + 1 + 1 + 1) ∨ b = w2.heap.size ∨ b = w2.heap.size + 1) (all := splitB (bs s))
    (fun b hb => by omega) (fun b => Iff.rfl)
    (fun W hW => split1_it 4 s (by omega) (P + 1 + 1) (P + 1) (P + 1 + 1 + 1) (by omega) (by omega) W ((hW.block _ (by omega)).trans b2) ((hW.block _ (by omega)).trans b1) ((hW.block _ (by omega)).trans b3)) (fun _ => rfl)
    (PartsI w P) (PartsX w) ?hI ?hIx ?h0
    (fun x => { tmps := #[.string s, undef, .pointer (some ⟨w.heap.size, 0, none⟩), .pointer (some ⟨w.heap.size + 1, 0, none⟩), .pointer (some ⟨P, 0, none⟩), encStr x, undef, .bool false, .string s, .int .i64 s.size, .bool false, .bool false, .string s, .bool false, .string s, .int .i64 ix, .bool false, .string s, .func (.func 124) #[] #[.pointer (some ⟨P + 1 + 1, 0, none⟩), .pointer (some ⟨P + 1, 0, none⟩), .pointer (some ⟨P + 1 + 1 + 1, 0, none⟩)], encStr x, undef, undef, undef, undef, undef, undef, undef, undef, undef, undef, undef, undef, undef, undef, undef, undef, undef, undef, undef, undef, undef, undef, undef, undef, undef, undef, undef, undef], defers := [] }) ?assign ?body ?done ?stop
  case hI =>
    rintro q A B ⟨⟨v, acc, h1, h2, h3, h4⟩, h5, h6, h7⟩ hk
    exact ⟨⟨v, acc, h1, hk.heap h2 (by omega), h3.keep (fun b hb => hk.block b (h3.lt b hb) (by have := h4 b hb; omega)), h4⟩, hk.heap h5 (by omega), hk.heap h6 (by omega), h7.trans (hk.below h7.size (fun b hb => by omega))⟩
  case hIx =>
    rintro c q A B ⟨h1, h2, h5, h6, h7⟩ hk
    exact ⟨h1, h2, hk.heap h5 (by omega), hk.heap h6 (by omega), h7.trans (hk.below h7.size (fun b hb => by omega))⟩
  case h0 => exact ⟨⟨.slice none 0 0, [], rfl, b0, Row.nil _ _ _, fun b hb => (by cases hb)⟩, r0, r1, hbw2⟩
  case assign =>
    intro l x W K hK
    unfold encB
    gi_wp2
    exact hK
  case body =>
    rintro l pre x W ⟨⟨v, acc, h1, h2, h3, h4⟩, h5, h6, h7⟩ hlt hpre
    have hf : foldB [] (pre ++ [x]) = foldB acc [x] := by rw [foldB_app, h1]; rfl
    have hpl := (splitB_bd (bs s)).1
    have hpm := hpre.length_le
    rw [bs_len] at hpl
    have hal := (foldB_bd h1).1
    simp only [List.length_append, List.length_singleton, List.length_nil] at hpm hal
    obtain ⟨X, hX⟩ : ∃ X, encStr x = .string X := ⟨_, rfl⟩
    have hXx : x = bs X := by
      unfold encStr at hX
      injection hX with hX
      rw [← hX]
    rw [hX]
    have hNS : ∀ b, b = w.heap.size ∨ b = w.heap.size + 1 ∨ b = P → ¬((b = P + 1 + 1 ∨ b = P + 1 ∨ b = P + 1 + 1 + 1) ∨ b = w2.heap.size ∨ b = w2.heap.size + 1) := fun b hb => by omega
    have Hk := Lib.hid (Keeps.refl (fun b => ¬((b = P + 1 + 1 ∨ b = P + 1 ∨ b = P + 1 + 1 + 1) ∨ b = w2.heap.size ∨ b = w2.heap.size + 1)) W)
    by_cases x0 : X = ⟨#[]⟩
    · subst x0
      subst hXx
      have Hi : Hid (PartsI w P (pre ++ [bs ⟨#[]⟩]) W) := Lib.hid ⟨⟨v, acc, by rw [hf]; rfl, h2, h3, h4⟩, h5, h6, h7⟩
      clear hf h1 h2 h3 h4 h5 h6 h7 hX hpre
      gi_wp2
      exact ⟨none, rfl, Hk.out, Hi.out⟩
    · by_cases x1 : X = ⟨#[46]⟩
      · subst x1
        subst hXx
        have Hi : Hid (PartsI w P (pre ++ [bs ⟨#[46]⟩]) W) := Lib.hid ⟨⟨v, acc, by rw [hf]; rfl, h2, h3, h4⟩, h5, h6, h7⟩
        clear hf h1 h2 h3 h4 h5 h6 h7 hX hpre
        gi_wp2
        exact ⟨none, rfl, Hk.out, Hi.out⟩
      · by_cases x2 : X = ⟨#[46, 46]⟩
        · subst x2
          subst hXx
          have kP : W.cell? ⟨P, 0, none⟩ = some v := by rw [cell_at h2]; rfl
          have fP : W.frozen? ⟨P, 0, none⟩ = false := frozen_at h2
          by_cases ha : acc = []
          · subst ha
            obtain ⟨va, vc, rfl⟩ := h3.slv
            have k0 : W.cell? ⟨w.heap.size, 0, none⟩ = some (.string ⟨#[]⟩) := by rw [cell_at h5]; rfl
            have k1 : W.cell? ⟨w.heap.size + 1, 0, none⟩ = some (.int .i64 0) := by rw [cell_at h6]; rfl
            have f0 : W.frozen? ⟨w.heap.size, 0, none⟩ = false := frozen_at h5
            have f1 : W.frozen? ⟨w.heap.size + 1, 0, none⟩ = false := frozen_at h6
            have Hx2 : Hid (PartsX w .ret (pre ++ [bs ⟨#[46, 46]⟩]) ((W.setCell ⟨w.heap.size, 0, none⟩ (.string ⟨#[]⟩)).setCell ⟨w.heap.size + 1, 0, none⟩ (.int .i64 5))) :=
              Lib.hid ⟨rfl, by rw [hf]; rfl, by rw [heap_setCell_of (heap_setCell_at h5 _) (by show w.heap.size ≠ w.heap.size + 1; omega)]; rfl, by rw [heap_setCell_at (heap_setCell_of h6 (by show w.heap.size + 1 ≠ w.heap.size; omega) _)]; rfl,
                (h7.setCell (p := ⟨w.heap.size, 0, none⟩) (Nat.le_refl _) _).setCell (p := ⟨w.heap.size + 1, 0, none⟩) (by show w.heap.size ≤ w.heap.size + 1; omega) _⟩
            have Hk2 := Lib.hid ((Hk.out.setCell (p := ⟨w.heap.size, 0, none⟩) (fun _ => hNS _ (Or.inl rfl)) (.string ⟨#[]⟩)).setCell (p := ⟨w.heap.size + 1, 0, none⟩) (fun _ => hNS _ (Or.inr (Or.inl rfl))) (.int .i64 5))
            clear hf h1 h2 h3 h4 h5 h6 h7 hX hpre
            gi_wp2
            exact ⟨some .ret, rfl, Hk2.out, Hx2.out⟩
          · obtain ⟨g, cap, cur, rfl, hg, hc1, hc2, hc3, hc4⟩ := h3.2.resolve_left (fun h => ha (List.length_eq_zero_iff.1 h.2))
            obtain ⟨m, hm⟩ : ∃ m, acc.length = m + 1 := ⟨acc.length - 1, by have := List.length_pos_iff.2 ha; omega⟩
            have hPg : P ≠ g := by have := h4 g rfl; omega
            have Hi : Hid (PartsI w P (pre ++ [bs ⟨#[46, 46]⟩]) (W.setCell ⟨P, 0, none⟩ (.slice (some ⟨g, 0, none⟩) m cap))) := by
              refine Lib.hid ⟨⟨.slice (some ⟨g, 0, none⟩) m cap, acc.dropLast, by rw [hf]; simp only [foldB]; rw [if_neg (by decide), if_pos (by decide), if_neg ha], by rw [heap_setCell_at h2]; rfl, ⟨by simp, Or.inr ⟨g, cap, cur, by rw [List.length_dropLast, hm, Nat.add_sub_cancel], (Below.heap_setCell _ _ _ _ (Ne.symm hPg)).trans hg, ?_, hc2, hc3, ?_⟩⟩, h4⟩,
                heap_setCell_of h5 (by show w.heap.size ≠ P; omega) _, heap_setCell_of h6 (by show w.heap.size + 1 ≠ P; omega) _, h7.setCell (p := ⟨P, 0, none⟩) (by show w.heap.size ≤ P; omega) _⟩
              · rw [List.length_dropLast]; omega
              · have e1 : (cur.toList.take (acc.length * 1)).dropLast = (acc.map encStr).dropLast := by rw [hc4]
                rw [List.map_dropLast, ← e1, List.length_dropLast, List.dropLast_eq_take, List.take_take]
                congr 1
                have : (cur.toList.take (acc.length * 1)).length = (acc.map encStr).length := by rw [hc4]
                rw [List.length_map] at this
                omega
            have Hk2 := Lib.hid (Hk.out.setCell (p := ⟨P, 0, none⟩) (fun _ => hNS _ (Or.inr (Or.inr rfl))) (.slice (some ⟨g, 0, none⟩) m cap))
            rw [hm] at kP
            have hw1 : IntKind.i64.wrap (((m + 1 : Nat) : Int) - 1) = (m : Int) := by rw [show (((m + 1 : Nat) : Int) - 1) = (m : Int) by omega]; exact IntWalk.i64_in _ (by omega)
            have hw2 : IntKind.i64.wrap ((m : Int) + 1 - 1) = (m : Int) := by rw [show ((m : Int) + 1 - 1) = (m : Int) by omega]; exact IntWalk.i64_in _ (by omega)
            have hmb : m ≤ 2000 := by omega
            have hw3 : (0 : Int) ≤ m := by omega
            have hw4 : m ≤ cap := by omega
            have hz0 : ((m : Int) + 1 == 0) = false := by simp; omega
            clear hf h1 h2 h3 h4 h5 h6 h7 hX hpre hc1 hc2 hc3 hc4 hg hm
            gi_wp2
            exact ⟨none, rfl, Hk2.out, Hi.out⟩
        · have e0 : X.toList.isEmpty = false := by
            rw [Go.ByteArray.toList_eq]
            cases hb : X.data.toList with
            | nil => exact absurd (by rw [← mk_bs X]; simp [bs, hb]) x0
            | cons => rfl
          have e1 : (X.toList == [46]) = false := by
            rw [Go.ByteArray.toList_eq]
            simp
            exact fun hb => x1 (by rw [← mk_bs X]; simp [bs, hb])
          have e2 : (X.toList == [46, 46]) = false := by
            rw [Go.ByteArray.toList_eq]
            simp
            exact fun hb => x2 (by rw [← mk_bs X]; simp [bs, hb])
          have hfx : foldB [] (pre ++ [x]) = some (acc ++ [x]) := by
            rw [hf, hXx]
            simp only [foldB]
            rw [if_neg, if_neg]
            · exact fun hb => x2 (by rw [← mk_bs X, hb])
            · rintro (hb | hb)
              · exact x0 (by rw [← mk_bs X, hb])
              · exact x1 (by rw [← mk_bs X, hb])
          have kP : W.cell? ⟨P, 0, none⟩ = some v := by rw [cell_at h2]; rfl
          have fP : W.frozen? ⟨P, 0, none⟩ = false := frozen_at h2
          obtain ⟨i0, hi, hz0, hz1, hz2⟩ := info_parts info_str
          have h3a : Row (W.alloc (.cells #[.string X] 9)) 9 1 v acc.length (acc.map encStr) := h3.keep (fun b hb => Below.heap_alloc _ _ _ (h3.lt b hb))
          obtain ⟨v', w', hrun, q1, q2, q3, q4, q5⟩ := h3a.append (by decide) 95 95 95 i0 _ 16 Tryd.underlying95 hi hz0 hz1 hz2 rfl (.slice (some ⟨W.heap.size, 0, none⟩) 1 1) 1 [.string X]
            (src_at (w := W.alloc (.cells #[.string X] 9)) (g := W.heap.size) (t := 9) (fz := (0, 0)) (heap_alloc_at rfl _) Tryd.underlying95 1 1 rfl (fun u hu => by rw [List.mem_singleton.1 hu]; rfl)) (by unfold maxLen; omega) (by omega)
          obtain ⟨b', c', rfl⟩ := q1.slv
          have hPl := lt_of_heap h2
          have kw : Keeps (fun b => v.ownBlock = some b) W w' := ((Keeps.refl (fun b => v.ownBlock = some b) W).alloc (.cells #[.string X] 9)).trans q2 (fun b _ h => h)
          have hvP : v.ownBlock ≠ some P := fun hb => by have := h4 P hb; omega
          have hwP := kw.heap h2 hvP
          have hcP : w'.cell? ⟨P, 0, none⟩ = some v := by rw [cell_at hwP]; rfl
          have hfP : w'.frozen? ⟨P, 0, none⟩ = false := frozen_at hwP
          have hnv : ∀ b, b ≤ P + 5 → v.ownBlock ≠ some b := fun b hb he => by have := h4 b he; omega
          have hne : ∀ b, (Value.slice b' (acc.length + 1) c').ownBlock = some b → P + 5 < b := fun b hb => by
            rcases q3 b hb with h | h
            · exact h4 b h
            · simp at h; omega
          have Hi : Hid (PartsI w P (pre ++ [x]) (w'.setCell ⟨P, 0, none⟩ (.slice b' (acc.length + 1) c'))) := by
            refine Lib.hid ⟨⟨.slice b' (acc.length + 1) c', acc ++ [x], hfx, by rw [heap_setCell_at hwP]; rfl, ?_, hne⟩, heap_setCell_of (kw.heap h5 (hnv _ (by omega))) (by show w.heap.size ≠ P; omega) _, heap_setCell_of (kw.heap h6 (hnv _ (by omega))) (by show w.heap.size + 1 ≠ P; omega) _,
              (h7.trans (kw.below h7.size (fun b hb => hnv b (by omega)))).setCell (p := ⟨P, 0, none⟩) (by show w.heap.size ≤ P; omega) _⟩
            rw [List.map_append, List.map_singleton, hX, List.length_append]
            exact q1.keep (fun b hb => Below.heap_setCell _ _ _ _ (by have := hne b hb; show b ≠ P; omega))
          have Hk2 : Hid (Keeps (fun b => ¬((b = P + 1 + 1 ∨ b = P + 1 ∨ b = P + 1 + 1 + 1) ∨ b = w2.heap.size ∨ b = w2.heap.size + 1)) W (w'.setCell ⟨P, 0, none⟩ (.slice b' (acc.length + 1) c'))) :=
            Lib.hid ((kw.mono (T := fun b => ¬((b = P + 1 + 1 ∨ b = P + 1 ∨ b = P + 1 + 1 + 1) ∨ b = w2.heap.size ∨ b = w2.heap.size + 1)) (fun b hb he hS => hnv b (by omega) he)).setCell (p := ⟨P, 0, none⟩) (fun _ => hNS _ (Or.inr (Or.inr rfl))) _)
          have Hrun := Lib.hid hrun
          clear hf h1 h2 h3 h4 h5 h6 h7 hX hpre hi hz0 hz1 hz2 h3a q1 q2 q3 q4 q5 kw hvP hwP hnv hne hfx hXx hrun
          gi_wp2_with (gi_at_builtin; refine wpListIn_append_run rfl _ _ 95 95 rfl rfl rfl Hrun.out ?_)
          exact ⟨none, rfl, Hk2.out, Hi.out⟩
  case stop =>
    rintro c pre W ⟨rest, hr⟩ ⟨rfl, h2, h5, h6, h7⟩ hD
    have hc : cleanP (bs s) = ([], 5) := by
      unfold cleanP
      rw [if_neg (by rw [bs_len]; omega), if_neg (by have := Hh.out; simp [this.1, this.2]), ← hr, foldB_app, h2]
      rfl
    refine wpIn_ret ?_
    simp only [Exit.noGoto, Exit.inBlock, Exit.then]
    exact clean_leave rfl rfl h5 h6 hD (by omega) h7 hc
  case done =>
    rintro W ⟨⟨v, acc, h1, h2, h3, h4⟩, h5, h6, h7⟩ hD
    rw [hz] at hD
    have hab := foldB_bd h1
    have hsb := splitB_bd (bs s)
    rw [bs_len] at hsb
    have hal : acc.length ≤ 2000 := by have := hab.1; have := hsb.1; simp only [List.length_nil] at *; omega
    have hxl : ∀ x ∈ acc, x.length ≤ 1000 := fun x hx => by
      rcases hab.2 x hx with h | h
      · cases h
      · have := hsb.2 x h; omega
    have hjl := joinB_bd 1000 acc hxl
    have hjb : (joinB acc).length ≤ 100000000 := by
      have : 1001 * acc.length ≤ 1001 * 2000 := Nat.mul_le_mul_left _ hal
      omega
    have kP : W.cell? ⟨P, 0, none⟩ = some v := by rw [cell_at h2]; rfl
    have hcl : cleanP (bs s) = if joinB acc = [] then ([], 5) else if 100 < (joinB acc).length then ([], 3) else (joinB acc, 0) := by
      unfold cleanP
      rw [if_neg (by rw [bs_len]; omega), if_neg (by have := Hh.out; simp [this.1, this.2]), h1]
    have Hj := Lib.hid (join_at h3 hal hjb)
    have hz7 := h7.size
    obtain ⟨va, vc, rfl⟩ := h3.slv
    have Hcl := Lib.hid hcl
    clear hab hsb hxl hjl hcl h1 h3 h4 h2
    generalize joinB acc = J at *
    have Hp5 := Lib.hid h5
    have Hp6 := Lib.hid h6
    have HpD := Lib.hid hD
    have Hp7 := Lib.hid h7
    clear h5 h6 hD h7
    go_wp2_with fail
    refine Hj.out.mono ?_
    rintro e w3 ⟨rfl, hb3⟩
    have n5 := (hb3.block _ (lt_of_heap Hp5.out)).trans Hp5.out
    have n6 := (hb3.block _ (lt_of_heap Hp6.out)).trans Hp6.out
    have nD := (hb3.block _ (lt_of_heap HpD.out)).trans HpD.out
    have k5 : w3.cell? ⟨w.heap.size, 0, none⟩ = some (.string ⟨#[]⟩) := by rw [cell_at n5]; rfl
    have k6 : w3.cell? ⟨w.heap.size + 1, 0, none⟩ = some (.int .i64 0) := by rw [cell_at n6]; rfl
    have f5 : w3.frozen? ⟨w.heap.size, 0, none⟩ = false := frozen_at n5
    have f6 : w3.frozen? ⟨w.heap.size + 1, 0, none⟩ = false := frozen_at n6
    have hb7 : Below w.heap.size w w3 := Hp7.out.trans (hb3.mono hz7)
    have fin : ∀ (Y : Bs) (c : Int) (tm : Array Value), cleanP (bs s) = (Y, c) → tm[2]? = some (.pointer (some ⟨w.heap.size, 0, none⟩)) → tm[3]? = some (.pointer (some ⟨w.heap.size + 1, 0, none⟩)) →
        LeavesInM Fence.wide 5 Tryd.prog Tryd.f81 tm (Cleaned w s) [{ target := .collected (P + 4), args := #[] }] .returning ((w3.setCell ⟨w.heap.size, 0, none⟩ (encStr Y)).setCell ⟨w.heap.size + 1, 0, none⟩ (.int .i64 c)) := fun Y c tm hY t2 t3 =>
      clean_leave t2 t3 (by rw [heap_setCell_of (heap_setCell_at n5 _) (by show w.heap.size ≠ w.heap.size + 1; omega)]; rfl) (by rw [heap_setCell_at (heap_setCell_of n6 (by show w.heap.size + 1 ≠ w.heap.size; omega) _)]; rfl)
        (heap_setCell_of (heap_setCell_of nD (by show P + 4 ≠ w.heap.size; omega) _) (by show P + 4 ≠ w.heap.size + 1; omega) _) (by omega) ((hb7.setCell (p := ⟨w.heap.size, 0, none⟩) (Nat.le_refl _) _).setCell (p := ⟨w.heap.size + 1, 0, none⟩) (by show w.heap.size ≤ w.heap.size + 1; omega) _) hY
    have Fin := Lib.hid fin
    clear fin n5 n6 nD hb3 hb7
    have eJ : encStr J = .string ⟨J.toArray⟩ := rfl
    rw [eJ]
    have hJl : (⟨J.toArray⟩ : ByteArray).toList = J := by simp
    by_cases hJ : J = []
    · subst hJ
      have hY : cleanP (bs s) = ([], 5) := by rw [Hcl.out, if_pos rfl]
      have HY := Lib.hid hY
      clear hY hJl eJ
      go_wp2_with fail
      simp only [Exit.noGoto]
      refine Fin.out [] 5 _ HY.out ?_ ?_ <;> rfl
    · have e0 : J.isEmpty = false := by cases J <;> simp_all
      have hsz : (⟨J.toArray⟩ : ByteArray).size = J.length := by simp [ByteArray.size]
      by_cases hL : 100 < J.length
      · have hY : cleanP (bs s) = ([], 3) := by rw [Hcl.out, if_neg hJ, if_pos hL]
        have HY := Lib.hid hY
        have hL2 : decide ((100 : Int) < (J.length : Int)) = true := by simp; omega
        clear hY hJl eJ
        go_wp2_with fail
        simp only [Exit.noGoto, bodyPostM]
        refine Fin.out [] 3 _ HY.out ?_ ?_ <;> rfl
      · have hY : cleanP (bs s) = (J, 0) := by rw [Hcl.out, if_neg hJ, if_neg hL]
        have HY := Lib.hid hY
        have hL2 : decide ((100 : Int) < (J.length : Int)) = false := by simp; omega
        clear hY hJl eJ
        go_wp2_with fail
        simp only [Exit.noGoto, bodyPostM]
        refine Fin.out J 0 _ HY.out ?_ ?_ <;> rfl
theorem clean_at (s : ByteArray) (w : World) : Calls Tryd.prog 81 #[.string s] w (Cleaned w s) := by
  by_cases h : 1000 < s.size
  · exact clean_long s w h
  · by_cases hh : (bs s).head? = some 47
    · exact clean_slash s w (by omega) hh
    · cases hn : (bs s).all plainB
      · exact clean_sign s w (by omega) hh hn
      · exact clean_main s w (by omega) hh hn
theorem right_at (s : ByteArray) (w : World) : Calls Tryd.prog 64 #[.string s] w fun e w' => e = .returned (.bool (rightP s)) ∧ Below w.heap.size w w' := by
  have hc := clean_at s w
  have hr : rightP s = ((cleanP (bs s)).2 == 0 && (cleanP (bs s)).1 == bs s) := rfl
  rw [hr]
  unfold Cleaned at hc
  obtain ⟨⟨Y, c⟩, hY⟩ : ∃ Yc, cleanP (bs s) = Yc := ⟨_, rfl⟩
  rw [hY] at hc ⊢
  have Hc := Lib.hid hc
  clear hc hr hY
  by_cases h0 : c = 0
  · subst h0
    go_enter Tryd.func64, Tryd.ntmps64
    go_wp2_with fail
    refine Hc.out.mono ?_
    rintro e w1 ⟨rfl, hb⟩
    unfold encStr
    go_wp2_with fail
    go_ret
    refine ⟨?_, hb⟩
    rw [Go.ByteArray.toList_eq]
    rfl
  · have hz : (c == 0) = false := by simpa using h0
    go_enter Tryd.func64, Tryd.ntmps64
    go_wp2_with fail
    refine Hc.out.mono ?_
    rintro e w1 ⟨rfl, hb⟩
    unfold encStr
    go_wp2_with fail
    go_ret
    exact ⟨by simp [hz], hb⟩
end Go.Proofs.YtbckbkcpfejllaaDoor
