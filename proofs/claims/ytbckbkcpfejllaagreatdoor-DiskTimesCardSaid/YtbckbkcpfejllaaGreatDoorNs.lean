/- Names: a disk's names, rising; names that stay short; a table of 2000 cells: what DiskTimes needs. -/
import Derived.Test.YtbckbkcpfejllaaGreatDoorLz0
import Derived.Laws.MakeOwn
import Derived.Laws.OwnMore
namespace Go.Proofs.YtbckbkcpfejllaaGreatDoor
open Go.RowKit Go.Maps Go.WideMaps

/-- The names that a disk shows. -/
def PD.shown (D : PD) : Dir := if D.down then [] else D.files
set_option maxRecDepth 100000 in
theorem names_at {w : World} {L : Lay} {D : PD} (h : DiskAt w L D) (hl : D.files.length ≤ 1000000) :
    Calls Tryz.prog 27 #[.pointer (some ⟨L.d, 0, none⟩)] w (Named w D.shown) := by
  have k4 := h.cell 4
  have k5 := h.cell 5
  simp only [List.getElem?_toArray, List.getElem?_cons_zero, List.getElem?_cons_succ] at k4 k5
  unfold PD.shown
  cases hd : D.down with
  | true =>
    rw [hd] at k4
    clear h hd k5
    go_enter Tryz.func27, Tryz.ntmps27
    go_wp2_with fail
    go_ret
    exact ⟨_, rfl, Lst.nil w, Below.refl _ _, fun b hb => by cases hb⟩
  | false =>
    rw [hd] at k4
    have Hf := Lib.hid h.hf
    clear h hd
    go_enter Tryz.func27, Tryz.ntmps27
    go_wp2_with fail
    refine (keys_at L.mf w).mono ?_
    rintro e w1 ⟨rfl, rfl⟩
    go_wp2_with fail
    refine (sorted_at Hf.out hl).mono ?_
    rintro e w2 ⟨v, rfl, hls, hb, hn⟩
    have H := Lib.hid (And.intro hls (And.intro hb hn))
    clear hls hb hn
    go_wp2_with fail
    go_ret
    exact ⟨v, rfl, H.out.1, H.out.2.1, H.out.2.2⟩
theorem has_names {F : Nat → Prop} {d k : Nat} {w : World} {D : PD} (h : Has F d w D k) (hk : k ≤ 100000) : Calls Tryz.prog 27 #[.pointer (some ⟨d, 0, none⟩)] w (Named w D.shown) := by
  obtain ⟨L, h⟩ := h
  rw [← h.dd]
  exact names_at h.at_ (by have := h.bud.nf; omega)
theorem Has.apart {F : Nat → Prop} {d k : Nat} {w : World} {D : PD} (h : Has F d w D k) : Apart D.files := by
  obtain ⟨L, h⟩ := h
  exact h.at_.hf.apart

/-! ### the names are those that were told -/
structure NamesI (N : Bs → Prop) (D : PD) : Prop where
  f : ∀ x ∈ D.files, N x.1
  s : ∀ x ∈ D.sure, N x.1
  p : ∀ c ∈ D.pend, ∀ q, c.to = some q → N (bs c.name)
theorem NamesI.turn {N : Bs → Prop} {D D' : PD} (h : NamesI N D) (t : Turn N D D') : NamesI N D' := by
  obtain ⟨hf, hs, hp⟩ := h
  have hturns : ∀ c : Chg, (∀ q, c.to = some q → N (bs c.name)) → NamesI N (D.turns c) := fun c hc => ⟨fun x hx => by
    rcases mem_does hx with h1 | ⟨h1, h2⟩
    · exact hf x h1
    · rw [h2]; exact hc _ h1, hs, fun c' hc' => by
    rcases List.mem_append.1 hc' with h1 | h1
    · exact hp c' h1
    · rw [List.mem_singleton.1 h1]; exact hc⟩
  cases t with
  | count => exact ⟨hf, hs, hp⟩
  | down => exact ⟨hf, hs, hp⟩
  | arm n _ _ => exact ⟨hf, hs, hp⟩
  | fresh name b q hn hq _ =>
    have := hturns ⟨name, some q, ByteArray.empty⟩ (fun _ _ => hn)
    exact ⟨this.f, hs, this.p⟩
  | put n q b s hn hq => exact ⟨hf, hs, hp⟩
  | rename name to q hn ht hq => exact hturns ⟨to, some q, name⟩ (fun _ _ => ht)
  | remove name hn => exact hturns ⟨ByteArray.empty, none, name⟩ (fun _ h => by cases h)
  | sync n q hn hq => exact ⟨hf, hs, hp⟩
  | syncDir => exact ⟨hf, hf, fun c hc => by cases hc⟩
  | restart dir tails =>
    obtain ⟨e1, e2, e3, _⟩ := restart_files D dir tails
    have hb : ∀ x ∈ D.back dir, N x.1 := fun x hx => by
      rcases mem_back hx with h1 | ⟨c, hc, h1, h2⟩
      · exact hs x h1
      · rw [h2]; exact hp c hc _ h1
    exact ⟨by rw [e1]; exact hb, by rw [e2]; exact hb, by rw [e3]; exact fun c hc => by cases hc⟩
theorem NamesI.turns {N : Bs → Prop} {k : Nat} {D D' : PD} (h : NamesI N D) (t : Turns N k D D') : NamesI N D' := t.keep (fun _ _ h t => h.turn t) h
theorem NamesI.new (N : Bs → Prop) (q : Int) : NamesI N (PD.new q) := ⟨fun x hx => (by cases hx), fun x hx => (by cases hx), fun x hx => (by cases hx)⟩

/-! ### the table of times -/
/-- Blocks c, h: what content each time had, and whether it was had. -/
def Tab (w : World) (c h : Nat) (H : Int → Bs) (clock : Int) : Prop :=
  ∃ C B : Array Value, w.heap[c]? = some (.cells C 9 (0, 0)) ∧ w.heap[h]? = some (.cells B 4 (0, 0)) ∧ C.size = 2000 ∧ B.size = 2000 ∧
    ∀ t : Nat, t < 2000 → ∃ s b, C[t]? = some (.string s) ∧ B[t]? = some (.bool b) ∧ (b = true → s = ⟨(H t).toArray⟩ ∧ (t : Int) < clock)
theorem Tab.mono {w : World} {c h : Nat} {H H' : Int → Bs} {k k' : Int} (ht : Tab w c h H k) (hk : k ≤ k') (hH : ∀ t, t < k → H' t = H t) : Tab w c h H' k' := by
  obtain ⟨C, B, h1, h2, h3, h4, h5⟩ := ht
  refine ⟨C, B, h1, h2, h3, h4, fun t ht => ?_⟩
  obtain ⟨s, b, a1, a2, a3⟩ := h5 t ht
  exact ⟨s, b, a1, a2, fun hb => ⟨by rw [hH _ (a3 hb).2]; exact (a3 hb).1, by have := (a3 hb).2; omega⟩⟩
theorem Tab.keep {w w' : World} {c h : Nat} {H : Int → Bs} {k : Int} (ht : Tab w c h H k) (hc : w'.heap[c]? = w.heap[c]?) (hh : w'.heap[h]? = w.heap[h]?) : Tab w' c h H k := by
  obtain ⟨C, B, h1, h2, h3⟩ := ht
  exact ⟨C, B, hc.trans h1, hh.trans h2, h3⟩
theorem Tab.lt {w : World} {c h : Nat} {H : Int → Bs} {k : Int} (ht : Tab w c h H k) : c < w.heap.size ∧ h < w.heap.size := by
  obtain ⟨C, B, h1, h2, _⟩ := ht
  exact ⟨lt_of_heap h1, lt_of_heap h2⟩
/-- A time is had. -/
theorem Tab.put {w : World} {c h : Nat} {H : Int → Bs} {k : Int} (ht : Tab w c h H k) (hch : c ≠ h) {t : Nat} (h2 : t < 2000) (hk : (t : Int) < k) (b : Bs) (hb : H t = b) :
    Tab ((w.setCell ⟨h, t, none⟩ (.bool true)).setCell ⟨c, t, none⟩ (.string ⟨b.toArray⟩)) c h H k := by
  obtain ⟨C, B, e1, e2, e3, e4, e5⟩ := ht
  refine ⟨C.setIfInBounds t (.string ⟨b.toArray⟩), B.setIfInBounds t (.bool true), ?_, ?_, by simpa using e3, by simpa using e4, fun u hu => ?_⟩
  · exact heap_setCell_at (heap_setCell_of e1 hch _) _
  · exact heap_setCell_of (heap_setCell_at e2 _) (Ne.symm hch) _
  · by_cases hut : u = t
    · subst hut
      exact ⟨⟨b.toArray⟩, true, by rw [Array.getElem?_setIfInBounds_self_of_lt (by omega)], by rw [Array.getElem?_setIfInBounds_self_of_lt (by omega)], fun _ => ⟨by rw [hb], hk⟩⟩
    · obtain ⟨s, b', a1, a2, a3⟩ := e5 u hu
      exact ⟨s, b', by rw [Array.getElem?_setIfInBounds_ne (Ne.symm hut)]; exact a1, by rw [Array.getElem?_setIfInBounds_ne (Ne.symm hut)]; exact a2, a3⟩
theorem info_bool : (Tryz.prog.info? 4).map (fun i => (i.zero, i.size, i.bytes)) = some (some (.bool false), 1, 1) := by kernel_rfl
/-- 'make' of 2000 elements of a cell each. -/
theorem mk_row {t e : TypeId} {z : Value} {by_ : Nat} (ht : Tryz.prog.underlying t = some (.slice e)) (hi : (Tryz.prog.info? e).map (fun i => (i.zero, i.size, i.bytes)) = some (some z, 1, by_)) (hby : by_ ≤ 16) (hz : z.cells = #[z]) :
    ∃ C : Array Value, C.size = 2000 ∧ (∀ j : Nat, j < 2000 → C[j]? = some z) ∧ ∀ w, (Instr.makeSlice t (.int .i64 2000) (.int .i64 2000)).run Tryz.prog w = .ok (.slice (some ⟨w.heap.size, 0, none⟩) 2000 2000) (w.alloc (.cells C e)) := by
  obtain ⟨i, hi, h1, h2, h3⟩ := info_parts hi
  refine ⟨madeCells z.cells 2000, size_madeCells _ _, fun j hj => ?_, fun w => ?_⟩
  · rw [hz, ← Array.getElem?_toList, toList_madeCells_one, List.getElem?_replicate, if_pos hj]
  · have := run_makeSlice (P := Tryz.prog) w t e i z ht hi h1 .i64 .i64 2000 2000 (by omega) (by omega) (by rw [h2]; decide) (by rw [h3]; omega) (by omega)
    rw [h2] at this
    exact this
theorem Tab.new {w : World} {C B : Array Value} {c h : Nat} (hc : w.heap[c]? = some (.cells C 9 (0, 0))) (hh : w.heap[h]? = some (.cells B 4 (0, 0))) (h1 : C.size = 2000) (h2 : B.size = 2000) (h3 : ∀ j : Nat, j < 2000 → C[j]? = some (.string ⟨#[]⟩)) (h4 : ∀ j : Nat, j < 2000 → B[j]? = some (.bool false)) (H : Int → Bs) (k : Int) : Tab w c h H k :=
  ⟨C, B, hc, hh, h1, h2, fun t ht => ⟨_, _, h3 t ht, h4 t ht, fun h => by cases h⟩⟩
end Go.Proofs.YtbckbkcpfejllaaGreatDoor
