/- What all laws of a disk begin with: a new disk; deeds that turn a disk, whatever they come to. -/
import Derived.Test.YtbckbkcpfejllaaDoorPw2
import Derived.Test.YtbckbkcpfejllaaDoorPc
import Derived.Laws.BytesArg
import Derived.Laws.IdiomStrings
import Derived.Lib.BufferRead
namespace Go.Proofs.YtbckbkcpfejllaaDoor
open Go.RowKit Go.Maps Go.WideMaps

theorem rightOk : RightOk := fun s w _ => right_at s w

/-- A disk stands in w at d; the blocks of F are none of its own. -/
structure HasL (F : Nat → Prop) (d : Nat) (w : World) (L : Lay) (D : PD) (k : Nat) : Prop where
  at_ : DiskAt w L D
  mid : L.mid = false
  low : ∀ b, F b → L.role b = 0
  le : ∀ b, F b → b < w.heap.size
  bud : Budget k D
  dd : L.d = d
def Has (F : Nat → Prop) (d : Nat) (w : World) (D : PD) (k : Nat) : Prop := ∃ L, HasL F d w L D k
theorem HasL.ok {F : Nat → Prop} {d k : Nat} {w : World} {L : Lay} {D : PD} (h : HasL F d w L D k) (hk : k ≤ 100000) : D.Ok := h.bud.ok hk h.at_
theorem HasL.deeds {F : Nat → Prop} {d k : Nat} {w : World} {L : Lay} {D : PD} (h : HasL F d w L D k) (hk : k ≤ 100000) : 0 ≤ D.deeds ∧ D.deeds < 1000000000000 := h.bud.deeds hk
theorem HasL.nd {F : Nat → Prop} {d k : Nat} {w : World} {L : Lay} {D : PD} (h : HasL F d w L D k) {b : Nat} (hb : F b) : b ≠ L.d := fun e => by
  have := h.low b hb
  rw [e, h.at_.rd] at this
  cases this
theorem HasL.step {F : Nat → Prop} {d k m : Nat} {w w' : World} {L L' : Lay} {D D' : PD} (h : HasL F d w L D k) (hs : Step w L w' L' D') (hb : Budget m D') : HasL F d w' L' D' m :=
  ⟨hs.at_, hs.mid.trans h.mid, fun b hb => hs.roles b (h.le b hb) (h.low b hb), fun b hb => Nat.lt_of_lt_of_le (h.le b hb) hs.keeps.size, hb, hs.same.trans h.dd⟩
theorem HasL.kept {F : Nat → Prop} {d k : Nat} {w w' : World} {L L' : Lay} {D D' : PD} (h : HasL F d w L D k) (hs : Step w L w' L' D') : Keeps (fun b => ¬ F b) w w' :=
  hs.keeps.mono (fun b _ hr hF => hr (h.low b hF))
/-- What was laid behind a disk is none of its own. -/
theorem Has.below {F : Nat → Prop} {d k : Nat} {w w' : World} {D : PD} (h : Has F d w D k) (hb : Below w.heap.size w w') : Has (fun b => F b ∨ (w.heap.size ≤ b ∧ b < w'.heap.size)) d w' D k := by
  obtain ⟨L, h⟩ := h
  refine ⟨L, h.at_.below hb, h.mid, fun b hF => ?_, fun b hF => ?_, h.bud, h.dd⟩
  · rcases hF with hF | hF
    · exact h.low b hF
    · exact h.at_.top b hF.1
  · rcases hF with hF | hF
    · exact Nat.lt_of_lt_of_le (h.le b hF) hb.size
    · exact hF.2
theorem Has.less {F G : Nat → Prop} {d k : Nat} {w : World} {D : PD} (h : Has F d w D k) (hG : ∀ b, G b → F b) : Has G d w D k := by
  obtain ⟨L, h⟩ := h
  exact ⟨L, h.at_, h.mid, fun b hb => h.low b (hG b hb), fun b hb => h.le b (hG b hb), h.bud, h.dd⟩
theorem Has.more {F : Nat → Prop} {d k m : Nat} {w : World} {D : PD} (h : Has F d w D k) (hm : k ≤ m) : Has F d w D m := by
  obtain ⟨L, h⟩ := h
  exact ⟨L, h.at_, h.mid, h.low, h.le, h.bud.mono hm, h.dd⟩
theorem Has.alloc {F : Nat → Prop} {d k : Nat} {w : World} {D : PD} (h : Has F d w D k) (o : Obj) : Has (fun b => F b ∨ b = w.heap.size) d (w.alloc o) D k :=
  (h.below ((Below.refl _ w).alloc (Nat.le_refl _) o)).less (fun b hb => hb.imp_right (fun e => ⟨by omega, by simp; omega⟩))
theorem Has.drew {F : Nat → Prop} {d k : Nat} {w : World} {D : PD} (h : Has F d w D k) : Has F d w.drew D k := (h.below ((Below.refl _ w).drew)).less (fun _ => Or.inl)
/-- A cell of a block of F is set. -/
theorem Has.set {F : Nat → Prop} {d k : Nat} {w : World} {D : PD} (h : Has F d w D k) {p : Addr} (hp : F p.block) (u : Value) : Has F d (w.setCell p u) D k := by
  obtain ⟨L, h⟩ := h
  have hsz : (w.setCell p u).heap.size = w.heap.size := by simp [World.setCell]
  exact ⟨L, h.at_.keep (by omega) (fun b _ hr => Below.heap_setCell _ _ _ _ (fun e => hr (by rw [e]; exact h.low _ hp))), h.mid, h.low, fun b hb => by rw [hsz]; exact h.le b hb, h.bud, h.dd⟩
/-- Blocks of F alone are turned, and new ones laid. -/
theorem Has.keeps {F : Nat → Prop} {d k : Nat} {w w' : World} {D : PD} (h : Has F d w D k) (hk : Keeps F w w') : Has F d w' D k := by
  obtain ⟨L, h⟩ := h
  exact ⟨L, h.at_.keep hk.size (fun b hb hr => hk.block b hb (fun hF => hr (h.low b hF))), h.mid, h.low, fun b hb => Nat.lt_of_lt_of_le (h.le b hb) hk.size, h.bud, h.dd⟩
/-- Blocks of F alone are turned; what was laid is none of the disk's. -/
theorem Has.grow {F : Nat → Prop} {d k : Nat} {w w' : World} {D : PD} (h : Has F d w D k) (hk : Keeps F w w') : Has (fun b => F b ∨ (w.heap.size ≤ b ∧ b < w'.heap.size)) d w' D k := by
  obtain ⟨L, h⟩ := h
  refine ⟨L, h.at_.keep hk.size (fun b hb hr => hk.block b hb (fun hF => hr (h.low b hF))), h.mid, fun b hF => ?_, fun b hF => ?_, h.bud, h.dd⟩
  · rcases hF with hF | hF
    · exact h.low b hF
    · exact h.at_.top b hF.1
  · rcases hF with hF | hF
    · exact Nat.lt_of_lt_of_le (h.le b hF) hk.size
    · exact hF.2
theorem Has.bud {F : Nat → Prop} {d k : Nat} {w : World} {D : PD} (h : Has F d w D k) : Budget k D := by
  obtain ⟨L, h⟩ := h
  exact h.bud
theorem Has.lt {F : Nat → Prop} {d k : Nat} {w : World} {D : PD} (h : Has F d w D k) {b : Nat} (hb : F b) : b < w.heap.size := by
  obtain ⟨L, h⟩ := h
  exact h.le b hb
theorem has_new (q : Int) (h0 : 0 ≤ q) (h1 : q ≤ 16777216) (w : World) :
    Calls Tryd.prog 8 #[.int .i64 q] w fun e w' => e = .returned (.tuple #[.pointer (some ⟨w.heap.size + 2, 0, none⟩), .int .i64 0]) ∧ Has (fun b => b < w.heap.size) (w.heap.size + 2) w' (PD.new q) 0 ∧ Below w.heap.size w w' :=
  (new_ok q w h0 h1).mono fun e w' ⟨he, hw⟩ => ⟨he, ⟨Lay.new w.heap.size, hw ▸ ⟨disk_new q w, rfl, fun b hb => Lay.new_low hb, fun b hb => by simp; omega, Budget.new h0 h1, rfl⟩⟩, hw ▸ (((Below.refl _ w).alloc (Nat.le_refl _) _).alloc (by simp) _).alloc (by simp; omega) _⟩

/-! ### what a deed comes to -/
/-- It tells c; the disk is D' then; R of both. -/
def Told (F : Nat → Prop) (d : Nat) (w : World) (k : Nat) (R : Int → PD → Prop) (e : Ending) (w' : World) : Prop :=
  ∃ c D', e = .returned (.int .i64 c) ∧ R c D' ∧ Has F d w' D' (k + 2) ∧ Keeps (fun b => ¬ F b) w w'
theorem told_of {F : Nat → Prop} {d k : Nat} {w : World} {L : Lay} {D : PD} {f : Nat → Int × PD} {R : Int → PD → Prop} (h : HasL F d w L D k) (hk : k + 2 ≤ 100000) (hf : ∀ p, w.heap.size ≤ p → Turns (fun _ => True) 2 D (f p).2) (hR : ∀ p, ¬ D.has p → R (f p).1 (f p).2) {e : Ending} {w' : World}
    (hd : Dealt w L f e w') : Told F d w k R e w' := by
  obtain ⟨p, L', he, hs, hp⟩ := hd
  exact ⟨_, _, he, hR p (h.at_.new hp), ⟨L', h.step hs (Budget.turns (hf p hp) h.bud hk)⟩, h.kept hs⟩
section
variable {F : Nat → Prop} {d k : Nat} {w : World} {D : PD} {R : Int → PD → Prop}
theorem told_write (h : Has F d w D k) (hk : k + 2 ≤ 100000) (name : ByteArray) (hs : name.size ≤ 1000000) {v : Value} {b : Bs} (hb : Bin w v b) (hl : b.length ≤ 1000000) (hv : b ≠ [] → ∀ q, v.ownBlock = some q → F q)
    (hR : ∀ p, ¬ D.has p → R (D.deed (rightP name) fun D' => D'.fresh name b p).1 (D.deed (rightP name) fun D' => D'.fresh name b p).2) :
    Calls Tryd.prog 9 #[.pointer (some ⟨d, 0, none⟩), .string name, v] w (Told F d w k R) := by
  obtain ⟨L, h⟩ := h
  rw [← h.dd]
  exact (write_at rightOk h.at_ (h.ok (by omega)) (h.deeds (by omega)) name hs hb hl (fun hne q hq => h.nd (hv hne q hq))).mono fun _ _ hd => h.dd ▸ told_of (h.dd.symm ▸ h) hk (fun p hp => turns_deed (turns_fresh (D := D.counted) trivial (h.at_.new hp) hl) _) hR hd
theorem told_append (h : Has F d w D k) (hk : k + 2 ≤ 100000) (name : ByteArray) (hs : name.size ≤ 1000000) {v : Value} {b : Bs} (hb : Bin w v b) (hl : b.length ≤ 1000000) (hv : b ≠ [] → ∀ q, v.ownBlock = some q → F q)
    (hR : ∀ p, ¬ D.has p → R (D.deed (rightP name) fun D' => D'.append name b p).1 (D.deed (rightP name) fun D' => D'.append name b p).2) :
    Calls Tryd.prog 22 #[.pointer (some ⟨d, 0, none⟩), .string name, v] w (Told F d w k R) := by
  obtain ⟨L, h⟩ := h
  rw [← h.dd]
  exact (append_at rightOk h.at_ (h.ok (by omega)) (h.deeds (by omega)) name hs hb hl (fun hne q hq => h.nd (hv hne q hq))).mono fun _ _ hd => h.dd ▸ told_of (h.dd.symm ▸ h) hk (fun p hp => turns_deed (turns_append (D := D.counted) trivial (h.at_.new hp) hl) _) hR hd
theorem told_cut (h : Has F d w D k) (hk : k + 2 ≤ 100000) (name : ByteArray) (hs : name.size ≤ 1000000) (m : Int) (hm0 : -9223372036854775808 ≤ m) (hm1 : m ≤ 9223372036854775807) (hR : R (D.deed (rightP name) fun D' => D'.cut name m).1 (D.deed (rightP name) fun D' => D'.cut name m).2) :
    Calls Tryd.prog 36 #[.pointer (some ⟨d, 0, none⟩), .string name, .int .i64 m] w (Told F d w k R) := by
  obtain ⟨L, h⟩ := h
  rw [← h.dd]
  exact (cut_at rightOk h.at_ (h.ok (by omega)) (h.deeds (by omega)) name m hs hm0 hm1).mono fun _ _ hd => h.dd ▸ told_of (h.dd.symm ▸ h) hk (fun p _ => turns_deed (turns_cut trivial) _) (fun _ _ => hR) hd
theorem told_sync (h : Has F d w D k) (hk : k + 2 ≤ 100000) (name : ByteArray) (hs : name.size ≤ 1000000) (hR : R (D.deed (rightP name) fun D' => D'.sync name).1 (D.deed (rightP name) fun D' => D'.sync name).2) :
    Calls Tryd.prog 23 #[.pointer (some ⟨d, 0, none⟩), .string name] w (Told F d w k R) := by
  obtain ⟨L, h⟩ := h
  rw [← h.dd]
  exact (sync_at rightOk h.at_ (h.ok (by omega)) (h.deeds (by omega)) name hs).mono fun _ _ hd => h.dd ▸ told_of (h.dd.symm ▸ h) hk (fun p _ => turns_deed (turns_sync trivial) _) (fun _ _ => hR) hd
theorem told_syncDir (h : Has F d w D k) (hk : k + 2 ≤ 100000) (hR : R (D.deed true fun D' => D'.syncDir).1 (D.deed true fun D' => D'.syncDir).2) :
    Calls Tryd.prog 24 #[.pointer (some ⟨d, 0, none⟩)] w (Told F d w k R) := by
  obtain ⟨L, h⟩ := h
  rw [← h.dd]
  exact (syncdir_at rightOk h.at_ (h.ok (by omega)) (h.deeds (by omega))).mono fun _ _ hd => h.dd ▸ told_of (h.dd.symm ▸ h) hk (fun p _ => turns_deed turns_syncDir _) (fun _ _ => hR) hd
theorem told_rename (h : Has F d w D k) (hk : k + 2 ≤ 100000) (name to : ByteArray) (hs : name.size ≤ 1000000) (ht : to.size ≤ 1000000) (hR : R (D.deed (rightP name && rightP to) fun D' => D'.rename name to).1 (D.deed (rightP name && rightP to) fun D' => D'.rename name to).2) :
    Calls Tryd.prog 27 #[.pointer (some ⟨d, 0, none⟩), .string name, .string to] w (Told F d w k R) := by
  obtain ⟨L, h⟩ := h
  rw [← h.dd]
  exact (rename_at rightOk h.at_ (h.ok (by omega)) (h.deeds (by omega)) name to hs ht).mono fun _ _ hd => h.dd ▸ told_of (h.dd.symm ▸ h) hk (fun p _ => turns_deed (turns_rename trivial trivial) _) (fun _ _ => hR) hd
theorem told_remove (h : Has F d w D k) (hk : k + 2 ≤ 100000) (name : ByteArray) (hs : name.size ≤ 1000000) (hR : R (D.deed (rightP name) fun D' => D'.remove name).1 (D.deed (rightP name) fun D' => D'.remove name).2) :
    Calls Tryd.prog 33 #[.pointer (some ⟨d, 0, none⟩), .string name] w (Told F d w k R) := by
  obtain ⟨L, h⟩ := h
  rw [← h.dd]
  exact (remove_at rightOk h.at_ (h.ok (by omega)) (h.deeds (by omega)) name hs).mono fun _ _ hd => h.dd ▸ told_of (h.dd.symm ▸ h) hk (fun p _ => turns_deed (turns_remove trivial) _) (fun _ _ => hR) hd
/-- Arm, Restart: nothing is told. -/
def Done (F : Nat → Prop) (d : Nat) (w : World) (k : Nat) (D' : PD) (e : Ending) (w' : World) : Prop := e = .returned (.tuple #[]) ∧ Has F d w' D' (k + 2) ∧ Keeps (fun b => ¬ F b) w w'
theorem done_arm (h : Has F d w D k) (hk : k + 2 ≤ 100000) (n : Int) (hn : n < 9223372036854775808) :
    Calls Tryd.prog 20 #[.pointer (some ⟨d, 0, none⟩), .int .i64 n] w (Done F d w k { D with armed := max n (-1) }) := by
  obtain ⟨L, h⟩ := h
  obtain rfl := h.dd
  have c3 := h.at_.cell 3
  simp only [List.getElem?_toArray, List.getElem?_cons_zero, List.getElem?_cons_succ] at c3
  refine (arm_at L.d n D.armed w c3 (h.at_.free 3)).mono fun e w' ⟨he, hw⟩ => ?_
  subst hw
  have hs : Step w L (w.setCell ⟨L.d, 3, none⟩ (.int .i64 (max n (-1)))) L { D with armed := max n (-1) } :=
    step_turn h.at_ ((Keeps.refl (fun b => b = L.d) w).setCell (p := ⟨L.d, 3, none⟩) (fun _ => rfl) _) (by rw [heap_setCell_at h.at_.hd]; rfl) rfl rfl rfl rfl (Int.le_refl _)
  exact ⟨he, ⟨L, h.step hs (Budget.mono (Budget.turn (N := fun _ => True) h.bud (by omega) (.arm D _ (by omega) (by omega))) (by omega))⟩, h.kept hs⟩
theorem done_restart (h : Has F d w D k) (hk : k + 2 ≤ 100000) {dir : Int} {tv : Value} {tails : List Int} (hd0 : -9223372036854775808 ≤ dir) (hd1 : dir ≤ 9223372036854775807)
    (ht : Lst w tv (tails.map intV)) (htl : tails.length ≤ 1000000) (htb : ∀ t ∈ tails, -9223372036854775808 ≤ t ∧ t ≤ 9223372036854775807) (hto : tails ≠ [] → ∀ b, tv.ownBlock = some b → F b) :
    Calls Tryd.prog 25 #[.pointer (some ⟨d, 0, none⟩), .agg #[.int .i64 dir, tv]] w (Done F d w k (D.restart dir tails)) := by
  obtain ⟨L, h⟩ := h
  rw [← h.dd]
  refine (restart_at h.at_ h.mid (by have := h.bud.c0; omega) (by have := h.bud.c1; omega) (by have := h.bud.ns; omega) hd0 hd1 ht htl htb (fun hne b hb => h.low b (hto hne b hb))).mono fun e w' ⟨he, L', hs⟩ => ?_
  exact ⟨he, ⟨L', h.dd.symm ▸ h.step hs (Budget.mono (Budget.turn (N := fun _ => True) h.bud (by omega) (.restart D dir tails)) (by omega))⟩, h.kept hs⟩
theorem has_read (h : Has F d w D k) (name : ByteArray) (hs : name.size ≤ 1000000) : Calls Tryd.prog 13 #[.pointer (some ⟨d, 0, none⟩), .string name] w (ReadOf w D (bs name)) := by
  obtain ⟨L, h⟩ := h
  rw [← h.dd]
  exact read_at h.at_ name hs
theorem has_stat (h : Has F d w D k) (name : ByteArray) (hs : name.size ≤ 1000000) : Calls Tryd.prog 12 #[.pointer (some ⟨d, 0, none⟩), .string name] w (StatOf w D (bs name)) := by
  obtain ⟨L, h⟩ := h
  rw [← h.dd]
  exact stat_at h.at_ name hs
theorem has_down (h : Has F d w D k) : Calls Tryd.prog 28 #[.pointer (some ⟨d, 0, none⟩)] w fun e w' => e = .returned (.bool D.down) ∧ w = w' := by
  obtain ⟨L, h⟩ := h
  rw [← h.dd]
  have c := h.at_.cell 4
  exact down_at L.d _ w c
theorem has_deeds (h : Has F d w D k) : Calls Tryd.prog 29 #[.pointer (some ⟨d, 0, none⟩)] w fun e w' => e = .returned (.int .i64 D.deeds) ∧ w = w' := by
  obtain ⟨L, h⟩ := h
  rw [← h.dd]
  have c := h.at_.cell 2
  exact deeds_at L.d _ w c
end
/-- A slice over a new row of bytes. -/
theorem bin_new {w : World} {g : Nat} {xs : Bs} {t : TypeId} {fz : Nat × Nat} (h : w.heap[g]? = some (.cells (xs.map byteV).toArray t fz)) : Bin w (.slice (some ⟨g, 0, none⟩) xs.length xs.length) xs :=
  ⟨_, _, rfl, Nat.le_refl _, (fun h => by cases h), fun j hj => ⟨g, 0, rfl, by rw [cell_at h]; simp [hj]⟩⟩
theorem below_kept {N : Nat} {w w1 w2 : World} {F : Nat → Prop} (h : Below N w w1) (hN : N ≤ w.heap.size) (hk : Keeps (fun b => ¬ F b) w1 w2) (hF : ∀ b, b < N → F b) : Below N w w2 :=
  h.trans (hk.below (Nat.le_trans hN h.size) (fun b hb hn => hn (hF b hb)))
/-- What Read, Stat tell. -/
theorem ReadOf.no {w : World} {D : PD} {n : Bs} {e : Ending} {w' : World} (h : ReadOf w D n e w') (hd : D.down = false) (hf : Dir.find D.files n = none) : e = .returned (.tuple #[.slice none 0 0, .int .i64 6]) ∧ Below w.heap.size w w' := by
  obtain ⟨hb, h⟩ := h
  rw [hd, hf] at h
  exact ⟨h, hb⟩
theorem ReadOf.down {w : World} {D : PD} {n : Bs} {e : Ending} {w' : World} (h : ReadOf w D n e w') (hd : D.down = true) : e = .returned (.tuple #[.slice none 0 0, .int .i64 8]) ∧ Below w.heap.size w w' := by
  obtain ⟨hb, h⟩ := h
  rw [hd] at h
  exact ⟨h, hb⟩
theorem ReadOf.yes {w : World} {D : PD} {n : Bs} {e : Ending} {w' : World} (h : ReadOf w D n e w') (hd : D.down = false) {p : Nat} (hf : Dir.find D.files n = some p) {b : Bs} (hb : (D.fs p).b = b) :
    ∃ a c, e = .returned (.tuple #[.slice a b.length c, .int .i64 0]) ∧ Bown w' 5 (.slice a b.length c) b ∧ (∀ q, (Value.slice a b.length c).ownBlock = some q → w.heap.size ≤ q) ∧ Below w.heap.size w w' := by
  obtain ⟨hbl, h⟩ := h
  rw [hd, hf] at h
  obtain ⟨a, c, h1, h2, h3⟩ := h
  subst hb
  exact ⟨a, c, h1, h2, h3, hbl⟩
theorem StatOf.no {w : World} {D : PD} {n : Bs} {e : Ending} {w' : World} (h : StatOf w D n e w') (hd : D.down = false) (hf : Dir.find D.files n = none) : e = .returned (.tuple #[.agg #[.int .i64 0, .int .i64 0], .int .i64 6]) ∧ Below w.heap.size w w' := by
  obtain ⟨hb, h⟩ := h
  rw [hd, hf] at h
  exact ⟨h, hb⟩
theorem StatOf.down {w : World} {D : PD} {n : Bs} {e : Ending} {w' : World} (h : StatOf w D n e w') (hd : D.down = true) : e = .returned (.tuple #[.agg #[.int .i64 0, .int .i64 0], .int .i64 8]) ∧ Below w.heap.size w w' := by
  obtain ⟨hb, h⟩ := h
  rw [hd] at h
  exact ⟨h, hb⟩
theorem StatOf.yes {w : World} {D : PD} {n : Bs} {e : Ending} {w' : World} (h : StatOf w D n e w') (hd : D.down = false) {p : Nat} (hf : Dir.find D.files n = some p) {f : PF} (hp : D.fs p = f) :
    e = .returned (.tuple #[.agg #[.int .i64 f.b.length, .int .i64 f.time], .int .i64 0]) ∧ Below w.heap.size w w' := by
  obtain ⟨hbl, h⟩ := h
  rw [hd, hf] at h
  subst hp
  exact ⟨h, hbl⟩
/-- 'string(b)'. -/
theorem Bin.str {w : World} {v : Value} {xs : Bs} (h : Bin w v xs) : (convert 22 9 v).run Tryd.prog w = .ok (.string ⟨xs.toArray⟩) w := by
  obtain ⟨a, cap, rfl, h1, h3, h4⟩ := h
  cases a with
  | none =>
    have h0 : xs = [] := List.length_eq_zero_iff.1 (by have := h3 rfl; omega)
    subst h0
    exact Lib.run_convert_nil_bytes w _ _ 5 cap Tryd.underlying22 Tryd.underlying5 Tryd.underlying9
  | some ad =>
    refine run_convert_bytes_back w _ _ 5 ad cap xs Tryd.underlying22 Tryd.underlying5 Tryd.underlying9 (fun j hj => ?_)
    obtain ⟨b, off, e, hc⟩ := h4 j hj
    cases e
    have hadd : (⟨b, off, none⟩ : Addr).add j = ⟨b, off + j, none⟩ := by unfold Addr.add; split <;> simp_all
    rw [hadd]
    exact hc
theorem Bin.take {w : World} {a : Option Addr} {n cap : Nat} {xs : Bs} (h : Bin w (.slice a n cap) xs) {m : Nat} (hm : m ≤ xs.length) : Bin w (.slice a m cap) (xs.take m) := by
  obtain ⟨a', cap', e, h1, h3, h4⟩ := h
  obtain ⟨rfl, rfl, rfl⟩ := Value.slice.inj e
  have hl : (xs.take m).length = m := by rw [List.length_take]; omega
  refine ⟨a, cap, by rw [hl], by omega, h3, fun j hj => ?_⟩
  obtain ⟨b, off, e, hc⟩ := h4 j (by omega)
  exact ⟨b, off, e, by rw [hc, List.getElem_take]⟩
theorem Bin.lt {w : World} {v : Value} {xs : Bs} (h : Bin w v xs) (hne : xs ≠ []) : ∀ q, v.ownBlock = some q → q < w.heap.size := by
  obtain ⟨a, cap, rfl, _, _, h4⟩ := h
  obtain ⟨b, off, rfl, hc⟩ := h4 0 (List.length_pos_iff.2 hne)
  intro q hq
  have : b = q := Option.some.inj hq
  subst this
  exact World.block_lt_of_cell? w _ hc
theorem Lst.lt {w : World} {v : Value} {vs : List Value} (h : Lst w v vs) (hne : vs ≠ []) : ∀ q, v.ownBlock = some q → q < w.heap.size := by
  obtain ⟨a, cap, rfl, _, _, h4⟩ := h
  obtain ⟨b, off, rfl, hc⟩ := h4 0 (List.length_pos_iff.2 hne)
  intro q hq
  have : b = q := Option.some.inj hq
  subst this
  exact World.block_lt_of_cell? w _ hc
end Go.Proofs.YtbckbkcpfejllaaDoor
