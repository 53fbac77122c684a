/- The walks of Write; what a file's own struct comes to when it is turned. -/
import Derived.Test.YtbckbkcpfejllaaDoorDw8
namespace Go.Proofs.YtbckbkcpfejllaaDoor
open Go.RowKit Go.Maps Go.WideMaps

theorem Bin.keepN {w w' : World} {v : Value} {xs : Bs} (h : Bin w v xs) (hb : xs ≠ [] → ∀ b, v.ownBlock = some b → b < w.heap.size → w'.heap[b]? = w.heap[b]?) : Bin w' v xs := by
  by_cases hx : xs = []
  · subst hx
    obtain ⟨a, cap, h1, h2, h3, _⟩ := h
    exact ⟨a, cap, h1, h2, h3, fun j hj => by cases hj⟩
  · exact h.keep (hb hx)
def ptr (b : Nat) : Value := .pointer (some ⟨b, 0, none⟩)
theorem write1_at {w : World} {L : Lay} {D : PD} (h : DiskAt w L D) (hD : D.Ok) {x0 x1 x2 : Nat} {name : ByteArray} {bv : Value} {b : Bs} (c0 : w.cell? ⟨x0, 0, none⟩ = some (.pointer (some ⟨L.d, 0, none⟩))) (c1 : w.cell? ⟨x1, 0, none⟩ = some (.string name)) (c2 : w.cell? ⟨x2, 0, none⟩ = some bv)
    (hs : name.size ≤ 1000000) (hb : Bin w bv b) (hl : b.length ≤ 1000000) :
    Calls Tryd.prog 31 #[.pointer (some ⟨x0, 0, none⟩), .pointer (some ⟨x1, 0, none⟩), .pointer (some ⟨x2, 0, none⟩)] w (Dealt w L (D.fresh name b)) := by
  have hf := fresh_at h hD name hs hb hl
  obtain ⟨a0, cap0, rfl⟩ : ∃ a cp, bv = .slice a b.length cp := by
    obtain ⟨a, cp, rfl, _⟩ := hb
    exact ⟨a, cp, rfl⟩
  have Hf := Lib.hid hf
  clear hf h hD hb
  go_enter Tryd.func31, Tryd.ntmps31
  go_wp2_with fail
  refine Hf.out.mono ?_
  rintro e w1 ⟨p, L1, rfl, hst, hp⟩
  go_wp2_with fail
  go_ret
  exact ⟨p, L1, rfl, hst, hp⟩

theorem enter_write1 (args : Array Value) (w : World) : (callFunc 31 args).run Tryd.prog w = .ok (.enter 31 args) w := by kernel_rfl

set_option maxRecDepth 100000 in
theorem write_at (hR : RightOk) {w : World} {L : Lay} {D : PD} (h : DiskAt w L D) (hD : D.Ok) (hC : 0 ≤ D.deeds ∧ D.deeds < 1000000000000) (name : ByteArray) {bv : Value} {b : Bs} (hs : name.size ≤ 1000000) (hb : Bin w bv b) (hl : b.length ≤ 1000000) (hbo : b ≠ [] → ∀ q, bv.ownBlock = some q → q ≠ L.d) :
    Calls Tryd.prog 9 #[.pointer (some ⟨L.d, 0, none⟩), .string name, bv] w (Dealt w L fun p => D.deed (rightP name) fun D' => D'.fresh name b p) := by
  obtain ⟨a0, cap0, rfl⟩ : ∃ a cp, bv = .slice a b.length cp := by
    obtain ⟨a, cp, rfl, _⟩ := hb
    exact ⟨a, cp, rfl⟩
  have H := Lib.hid h
  have HD := Lib.hid hD
  have HC := Lib.hid hC
  have Hb := Lib.hid hb
  have Hbo := Lib.hid hbo
  have hdl := lt_of_heap h.hd
  clear h hD hC hb hbo
  go_enter Tryd.func9, Tryd.ntmps9
  go_wp2_with fail
  have x0 : ((((w.alloc (.cells #[.pointer (some ⟨L.d, 0, none⟩)] 25)).alloc (.cells #[.string name] 9)).alloc (.cells #[.slice a0 b.length cap0] 22)).alloc (.cells #[.string name] 9)).heap[w.heap.size]? = some (.cells #[.pointer (some ⟨L.d, 0, none⟩)] 25 (0, 0)) :=
    heap_alloc_of (heap_alloc_of (heap_alloc_of (heap_alloc_at rfl _) _) _) _
  have x1 : ((((w.alloc (.cells #[.pointer (some ⟨L.d, 0, none⟩)] 25)).alloc (.cells #[.string name] 9)).alloc (.cells #[.slice a0 b.length cap0] 22)).alloc (.cells #[.string name] 9)).heap[w.heap.size + 1]? = some (.cells #[.string name] 9 (0, 0)) :=
    heap_alloc_of (heap_alloc_of (heap_alloc_at (by simp) _) _) _
  have x2 : ((((w.alloc (.cells #[.pointer (some ⟨L.d, 0, none⟩)] 25)).alloc (.cells #[.string name] 9)).alloc (.cells #[.slice a0 b.length cap0] 22)).alloc (.cells #[.string name] 9)).heap[w.heap.size + 1 + 1]? = some (.cells #[.slice a0 b.length cap0] 22 (0, 0)) :=
    heap_alloc_of (heap_alloc_at (by simp) _) _
  have x3 : ((((w.alloc (.cells #[.pointer (some ⟨L.d, 0, none⟩)] 25)).alloc (.cells #[.string name] 9)).alloc (.cells #[.slice a0 b.length cap0] 22)).alloc (.cells #[.string name] 9)).heap[w.heap.size + 1 + 1 + 1]? = some (.cells #[.string name] 9 (0, 0)) :=
    heap_alloc_at (by simp) _
  have hbw : Below w.heap.size w ((((w.alloc (.cells #[.pointer (some ⟨L.d, 0, none⟩)] 25)).alloc (.cells #[.string name] 9)).alloc (.cells #[.slice a0 b.length cap0] 22)).alloc (.cells #[.string name] 9)) :=
    ((((Below.refl _ w).alloc (Nat.le_refl _) _).alloc (by simp) _).alloc (by simp; omega) _).alloc (by simp; omega) _
  refine (deed_at hR (H.out.below hbw) HD.out HC.out enter_write1 (ss := [name]) (Lst.new (vs := [.string name]) x3) (fun q hq => by have : w.heap.size + 1 + 1 + 1 = q := Option.some.inj hq; omega) (fun s hs' => by rw [List.mem_singleton.1 hs']; exact hs) (by simp) (g := fun D' p => D'.fresh name b p) (fun w1 hk1 h1 => ?_)).mono ?_
  · exact write1_at h1 HD.out.counted (hk1.one x0 (by omega)) (hk1.one x1 (by omega)) (hk1.one x2 (by omega)) hs ((Hb.out.keep fun q _ hq => hbw.block q hq).keepN fun hne q hq hlt => hk1.block q hlt (Hbo.out hne q hq)) hl
  · rintro e w1 hd
    obtain ⟨p, L1, rfl, hst, hp⟩ := Dealt.before (step_below H.out hbw) hd
    rw [show [name].all rightP = rightP name by simp] at hst ⊢
    go_wp2_with fail
    go_ret
    exact ⟨p, L1, rfl, hst, hp⟩
end Go.Proofs.YtbckbkcpfejllaaDoor
