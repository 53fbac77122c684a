/- A disk's turns, plainly: what a budget keeps within the machine's whole numbers; the disk that is new. -/
import Derived.Test.YtbckbkcpfejllaaDoorDw17
namespace Go.Proofs.YtbckbkcpfejllaaDoor
open Go.RowKit Go.Maps Go.WideMaps

/-- One turn of a disk, by names of N. -/
inductive Turn (N : Bs → Prop) : PD → PD → Prop
  | count (D : PD) : Turn N D D.counted
  | down (D : PD) : Turn N D { D with down := true }
  | fresh (D : PD) (name : ByteArray) (b : Bs) (p : Nat) : N (bs name) → ¬ D.has p → b.length ≤ 65536 → Turn N D (((D.tick).setF p ⟨b, 0, D.clock⟩).turns ⟨name, some p, ByteArray.empty⟩)
  | put (D : PD) (n : Bs) (q : Nat) (b : Bs) (s : Nat) : N n → Dir.find D.files n = some q → Turn N D ((D.tick).setF q ⟨b, s, D.clock⟩)
  | rename (D : PD) (name to : ByteArray) (q : Nat) : N (bs name) → N (bs to) → Dir.find D.files (bs name) = some q → Turn N D (D.turns ⟨to, some q, name⟩)
  | remove (D : PD) (name : ByteArray) : N (bs name) → Turn N D (D.turns ⟨ByteArray.empty, none, name⟩)
  | sync (D : PD) (n : Bs) (q : Nat) : N n → Dir.find D.files n = some q → Turn N D (D.setF q ⟨(D.fs q).b, (D.fs q).b.length, (D.fs q).time⟩)
  | syncDir (D : PD) : Turn N D { D with sure := D.files, pend := [] }
  | arm (D : PD) (n : Int) : -1 ≤ n → n < 9223372036854775808 → Turn N D { D with armed := n }
  | restart (D : PD) (dir : Int) (tails : List Int) : Turn N D (D.restart dir tails)
/-- At most so many. -/
inductive Turns (N : Bs → Prop) : Nat → PD → PD → Prop
  | nil (k : Nat) (D : PD) : Turns N k D D
  | cons {k : Nat} {D D' D'' : PD} : Turn N D D' → Turns N k D' D'' → Turns N (k + 1) D D''
theorem Turns.one {N : Bs → Prop} {k : Nat} {D D' : PD} (h : Turn N D D') : Turns N (k + 1) D D' := .cons h (.nil _ _)
theorem Turns.keep {N : Bs → Prop} {J : PD → Prop} (hJ : ∀ D D', J D → Turn N D D' → J D') {k : Nat} {D D' : PD} (h : Turns N k D D') (h0 : J D) : J D' := by
  induction h with
  | nil => exact h0
  | cons t _ ih => exact ih (hJ _ _ h0 t)

/-! ### what a deed comes to -/
section
variable {N : Bs → Prop} {D : PD}
theorem turns_deed {f : PD → Int × PD} (hf : Turns N 1 D.counted (f D.counted).2) (r : Bool) : Turns N 2 D (D.deed r f).2 := by
  unfold PD.deed
  by_cases h1 : D.down = true
  · rw [if_pos h1]; exact .nil _ _
  · rw [if_neg h1]
    by_cases h2 : D.armed = 0
    · rw [if_pos h2]; exact .one (.down D)
    · rw [if_neg h2]
      cases r
      · exact .one (.count D)
      · exact .cons (.count D) hf
theorem turns_fresh {name : ByteArray} {b : Bs} {p : Nat} (hn : N (bs name)) (hp : ¬ D.has p) (hl : b.length ≤ 1000000) : Turns N 1 D (D.fresh name b p).2 := by
  unfold PD.fresh
  split
  · rename_i h
    refine .one (.fresh D name b p hn hp ?_)
    unfold PD.fits at h
    split at h
    · cases h
    · omega
  · exact .nil _ _
theorem turns_append {name : ByteArray} {b : Bs} {p : Nat} (hn : N (bs name)) (hp : ¬ D.has p) (hl : b.length ≤ 1000000) : Turns N 1 D (D.append name b p).2 := by
  unfold PD.append
  split
  · exact turns_fresh hn hp hl
  · rename_i q hq
    split
    · exact .one (.put D (bs name) q _ _ hn hq)
    · exact .nil _ _
theorem turns_cut {name : ByteArray} {m : Int} (hn : N (bs name)) : Turns N 1 D (D.cut name m).2 := by
  unfold PD.cut
  split
  · exact .nil _ _
  · rename_i q hq
    unfold PD.cutAt
    split
    · exact .nil _ _
    · exact .one (.put D (bs name) q _ _ hn hq)
theorem turns_rename {name to : ByteArray} (hn : N (bs name)) (ht : N (bs to)) : Turns N 1 D (D.rename name to).2 := by
  unfold PD.rename
  split
  · exact .nil _ _
  · rename_i q hq; exact .one (.rename D name to q hn ht hq)
theorem turns_remove {name : ByteArray} (hn : N (bs name)) : Turns N 1 D (D.remove name).2 := by
  unfold PD.remove
  split
  · exact .nil _ _
  · exact .one (.remove D name hn)
theorem turns_sync {name : ByteArray} (hn : N (bs name)) : Turns N 1 D (D.sync name).2 := by
  unfold PD.sync
  split
  · exact .nil _ _
  · rename_i q hq; exact .one (.sync D (bs name) q hn hq)
theorem turns_syncDir : Turns N 1 D D.syncDir.2 := .one (.syncDir D)
end

/-! ### a budget: so many turns behind a new disk -/
structure Budget (k : Nat) (D : PD) : Prop where
  q0 : 0 ≤ D.quota
  q1 : D.quota ≤ 16777216
  a0 : -1 ≤ D.armed
  a1 : D.armed < 9223372036854775808
  c0 : 1 ≤ D.clock
  c1 : D.clock ≤ 1 + 100000 * (k : Int)
  d0 : 0 ≤ D.deeds
  d1 : D.deeds ≤ k
  nf : D.files.length ≤ k
  ns : D.sure.length + D.pend.length ≤ k
theorem Budget.mono {k m : Nat} {D : PD} (h : Budget k D) (hm : k ≤ m) : Budget m D :=
  ⟨h.q0, h.q1, h.a0, h.a1, h.c0, by have := h.c1; omega, h.d0, by have := h.d1; omega, Nat.le_trans h.nf hm, Nat.le_trans h.ns hm⟩
theorem Budget.turn {N : Bs → Prop} {k : Nat} {D D' : PD} (h : Budget k D) (hk : k < 100000) (t : Turn N D D') : Budget (k + 1) D' := by
  obtain ⟨q0, q1, a0, a1, c0, c1, d0, d1, nf, ns⟩ := h
  cases t with
  | count =>
    refine ⟨q0, q1, ?_, ?_, c0, ?_, ?_, ?_, ?_, ?_⟩ <;> simp only [PD.counted]
    · split <;> omega
    · split <;> omega
    all_goals omega
  | down => exact ⟨q0, q1, a0, a1, c0, by dsimp only; omega, d0, by dsimp only; omega, by dsimp only; omega, by dsimp only; omega⟩
  | fresh name b p _ _ _ =>
    have := does_len ⟨name, some p, ByteArray.empty⟩ D.files
    exact ⟨q0, q1, a0, a1, by show 1 ≤ D.clock + 1; omega, by show D.clock + 1 ≤ _; omega, d0, by show D.deeds ≤ _; omega, by show (Chg.does _ D.files).length ≤ _; omega, by show D.sure.length + (D.pend ++ [_]).length ≤ _; rw [List.length_append, List.length_singleton]; omega⟩
  | put n q b s _ _ => exact ⟨q0, q1, a0, a1, by show 1 ≤ D.clock + 1; omega, by show D.clock + 1 ≤ _; omega, d0, by show D.deeds ≤ _; omega, by show D.files.length ≤ _; omega, by show D.sure.length + D.pend.length ≤ _; omega⟩
  | rename name to q _ _ _ =>
    have := does_len ⟨to, some q, name⟩ D.files
    exact ⟨q0, q1, a0, a1, c0, by show D.clock ≤ _; omega, d0, by show D.deeds ≤ _; omega, by show (Chg.does _ D.files).length ≤ _; omega, by show D.sure.length + (D.pend ++ [_]).length ≤ _; rw [List.length_append, List.length_singleton]; omega⟩
  | remove name _ =>
    have := does_len ⟨ByteArray.empty, none, name⟩ D.files
    exact ⟨q0, q1, a0, a1, c0, by show D.clock ≤ _; omega, d0, by show D.deeds ≤ _; omega, by show (Chg.does _ D.files).length ≤ _; omega, by show D.sure.length + (D.pend ++ [_]).length ≤ _; rw [List.length_append, List.length_singleton]; omega⟩
  | sync n q _ _ => exact ⟨q0, q1, a0, a1, c0, by show D.clock ≤ _; omega, d0, by show D.deeds ≤ _; omega, by show D.files.length ≤ _; omega, by show D.sure.length + D.pend.length ≤ _; omega⟩
  | syncDir => exact ⟨q0, q1, a0, a1, c0, by show D.clock ≤ _; omega, d0, by show D.deeds ≤ _; omega, by show D.files.length ≤ _; omega, by show D.files.length + 0 ≤ _; omega⟩
  | arm n h0 h1 => exact ⟨q0, q1, h0, h1, c0, by show D.clock ≤ _; omega, d0, by show D.deeds ≤ _; omega, by show D.files.length ≤ _; omega, by show D.sure.length + D.pend.length ≤ _; omega⟩
  | restart dir tails =>
    have hb : (D.back dir).length ≤ D.sure.length + D.pend.length := by
      have := foldl_len (List.take (min (max dir 0).toNat D.pend.length) D.pend) D.sure
      unfold PD.back
      rw [List.length_take] at this
      omega
    obtain ⟨e1, e2, e3, e4, e5, e6, e7, e8, e9⟩ := cutsAll_files tails (D.back dir) 0 { D with files := D.back dir }
    have hf : (D.restart dir tails).files = D.back dir := e1
    have hs : (D.restart dir tails).sure = D.back dir := e1
    have hq : (D.restart dir tails).quota = D.quota := e4
    have hd : (D.restart dir tails).deeds = D.deeds := e5
    have hc : D.clock ≤ (D.restart dir tails).clock := e8
    have hc2 : (D.restart dir tails).clock ≤ D.clock + (D.back dir).length := e9
    exact ⟨by rw [hq]; exact q0, by rw [hq]; exact q1, by show (-1 : Int) ≤ -1; omega, by show (-1 : Int) < _; omega, by omega, by omega, by rw [hd]; exact d0, by rw [hd]; omega, by rw [hf]; omega, by rw [hs]; show _ + 0 ≤ _; omega⟩
theorem Budget.turns {N : Bs → Prop} {m : Nat} {D D' : PD} (t : Turns N m D D') : ∀ {k : Nat}, Budget k D → k + m ≤ 100000 → Budget (k + m) D' := by
  induction t with
  | nil k D => exact fun h _ => h.mono (by omega)
  | cons t _ ih => exact fun h hk => by have := ih (h.turn (by omega) t) (by omega); rwa [show ∀ a b : Nat, a + 1 + b = a + (b + 1) by omega] at this
theorem Budget.ok {k : Nat} {D : PD} (h : Budget k D) (hk : k ≤ 100000) {w : World} {L : Lay} (ha : DiskAt w L D) : D.Ok :=
  ⟨h.q0, h.q1, by have := h.c0; omega, by have := h.c1; omega, h.a1, h.a0, by have := h.nf; omega, by have := h.ns; omega, fun x hx => (ha.okb _ (ha.okf x hx)).1⟩
theorem Budget.deeds {k : Nat} {D : PD} (h : Budget k D) (hk : k ≤ 100000) : 0 ≤ D.deeds ∧ D.deeds < 1000000000000 := ⟨h.d0, by have := h.d1; omega⟩
/-- What lies beyond the memory is no file. -/
theorem DiskAt.new {w : World} {L : Lay} {D : PD} (h : DiskAt w L D) {p : Nat} (hp : w.heap.size ≤ p) : ¬ D.has p := by
  have h0 := h.top p hp
  rintro (⟨x, hx, rfl⟩ | ⟨x, hx, rfl⟩ | ⟨c, hc, he⟩)
  · rw [h.okf x hx] at h0; cases h0
  · rw [h.oks x hx] at h0; cases h0
  · rw [(h.okp c hc).1 p he] at h0; cases h0

/-! ### a new disk -/
def PD.new (q : Int) : PD := { quota := q, clock := 1, deeds := 0, armed := -1, down := false, files := [], sure := [], pend := [], fs := fun _ => ⟨[], 0, 0⟩ }
theorem Budget.new {q : Int} (h0 : 0 ≤ q) (h1 : q ≤ 16777216) : Budget 0 (PD.new q) :=
  ⟨h0, h1, by show (-1 : Int) ≤ -1; omega, by show (-1 : Int) < _; omega, by show (1 : Int) ≤ 1; omega, by show (1 : Int) ≤ 1 + 100000 * ((0 : Nat) : Int); omega, by show (0 : Int) ≤ 0; omega, by show (0 : Int) ≤ ((0 : Nat) : Int); omega, Nat.le_refl _, Nat.le_refl _⟩
/-- Where a new disk lies behind N blocks. -/
def Lay.new (N : Nat) : Lay := { d := N + 2, mf := N, ms := N + 1, s6 := N + 1, mid := false, pv := .slice none 0 0, role := fun b => if b = N + 2 then 1 else if b = N then 4 else if b = N + 1 then 5 else 0, vs := fun _ => .slice none 0 0 }
theorem Lay.new_low {N b : Nat} (h : b < N) : (Lay.new N).role b = 0 := by
  simp only [Lay.new]; rw [if_neg (by omega), if_neg (by omega), if_neg (by omega)]
theorem disk_new (q : Int) (w : World) :
    DiskAt (((w.alloc (.map #[] 0)).alloc (.map #[] 0)).alloc (.cells #[.int .i64 q, .int .i64 1, .int .i64 0, .int .i64 (-1), .bool false, .map (some w.heap.size), .map (some (w.heap.size + 1)), .slice none 0 0] 68)) (Lay.new w.heap.size) (PD.new q) := by
  have r3 : ∀ p, (Lay.new w.heap.size).role p ≠ 3 := fun p => by
    simp only [Lay.new]
    split
    · decide
    · split
      · decide
      · split <;> decide
  refine { hd := heap_alloc_at (by simp [Lay.new]) _, hf := ?_, hs := ?_, ne := (by simp [Lay.new]), h6 := fun _ => rfl, hp := Row.nil _ _ _, rd := (by simp [Lay.new]), rp := (fun b hb => (by cases hb)), rf := ?_, rs := ?_, file := fun p hp => absurd hp (r3 p), okf := (fun x hx => (by cases hx)), oks := (fun x hx => (by cases hx)), okp := (fun c hc => (by cases hc)), okb := fun p hp => absurd hp (r3 p), top := fun b hb => ?_ }
  · exact ((MapP.made w).keep (Below.heap_alloc _ _ _ (by simp))).keep (Below.heap_alloc _ _ _ (by simp; omega))
  · have h := (MapP.made (P := Tryd.prog) (k := 9) (w.alloc (.map #[] 0))).keep (Below.heap_alloc _ (.cells #[.int .i64 q, .int .i64 1, .int .i64 0, .int .i64 (-1), .bool false, .map (some w.heap.size), .map (some (w.heap.size + 1)), .slice none 0 0] 68) _ (by simp))
    have e : (w.alloc (.map #[] 0)).heap.size = w.heap.size + 1 := by simp
    rw [e] at h
    exact h
  · simp only [Lay.new]; rw [if_neg (by omega), if_pos trivial]
  · simp only [Lay.new]; rw [if_neg (by omega), if_neg (by omega), if_pos trivial]
  · simp at hb
    simp only [Lay.new]
    rw [if_neg (by omega), if_neg (by omega), if_neg (by omega)]
end Go.Proofs.YtbckbkcpfejllaaDoor
