/- The walks of Rename and Remove. -/
import Derived.Test.YtbckbkcpfejllaaDoorDw11
namespace Go.Proofs.YtbckbkcpfejllaaDoor
open Go.RowKit Go.Maps Go.WideMaps

/-- What there hands back: a closure over three new boxes. -/
def Thered (w : World) (d : Nat) (name : ByteArray) (f : Nat) (cap : Array Value) (e : Ending) (w' : World) : Prop :=
  ∃ y, e = .returned (.func (.func 75) #[] #[.pointer (some ⟨y, 0, none⟩), .pointer (some ⟨y + 1, 0, none⟩), .pointer (some ⟨y + 1 + 1, 0, none⟩)]) ∧ w.heap.size ≤ y ∧ y + 3 ≤ w'.heap.size ∧ Below w.heap.size w w' ∧
    w'.heap[y]? = some (.cells #[.pointer (some ⟨d, 0, none⟩)] 25 (0, 0)) ∧ w'.heap[y + 1]? = some (.cells #[.string name] 9 (0, 0)) ∧ w'.heap[y + 1 + 1]? = some (.cells #[.func (.func f) #[] cap] 90 (0, 0))
theorem thered_at (w : World) (d : Nat) (name : ByteArray) (f : Nat) (cap : Array Value) :
    Calls Tryd.prog 52 #[.pointer (some ⟨d, 0, none⟩), .string name, .func (.func f) #[] cap] w (Thered w d name f cap) := by
  refine (there_at w d name f cap).mono ?_
  rintro e w' ⟨he, rfl⟩
  exact ⟨w.heap.size, he, Nat.le_refl _, by simp, (((Below.refl _ w).alloc (Nat.le_refl _) _).alloc (by simp) _).alloc (by simp; omega) _, heap_alloc_of (heap_alloc_of (heap_alloc_at rfl _) _) _, heap_alloc_of (heap_alloc_at (by simp) _) _, heap_alloc_at (by simp) _⟩
theorem Below.heap {n : Nat} {w w' : World} (h : Below n w w') {b : Nat} {o : Obj} (hb : w.heap[b]? = some o) (hn : b < n) : w'.heap[b]? = some o := (h.block b hn).trans hb
theorem box_cell {w : World} {b : Nat} {v : Value} {t : TypeId} (h : w.heap[b]? = some (.cells #[v] t (0, 0))) : w.cell? ⟨b, 0, none⟩ = some v := by rw [cell_at h]; rfl

theorem isE_empty : isE ByteArray.empty = true := by
  unfold isE ByteArray.toList
  rw [ByteArray.toList.loop]
  simp
theorem enter_rename1 (args : Array Value) (w : World) : (callFunc 60 args).run Tryd.prog w = .ok (.enter 60 args) w := by kernel_rfl
theorem enter_remove1 (args : Array Value) (w : World) : (callFunc 65 args).run Tryd.prog w = .ok (.enter 65 args) w := by kernel_rfl

theorem rename1_at {w : World} {L : Lay} {D : PD} (h : DiskAt w L D) (hD : D.Ok) {q : Nat} (hq : L.role q = 3) {x0 x1 x2 : Nat} {name to : ByteArray} (c0 : w.cell? ⟨x0, 0, none⟩ = some (.pointer (some ⟨L.d, 0, none⟩))) (c1 : w.cell? ⟨x1, 0, none⟩ = some (.string to)) (c2 : w.cell? ⟨x2, 0, none⟩ = some (.string name))
    (hs : name.size ≤ 1000000) (ht : to.size ≤ 1000000) :
    Calls Tryd.prog 60 #[.pointer (some ⟨q, 0, none⟩), .pointer (some ⟨x0, 0, none⟩), .pointer (some ⟨x1, 0, none⟩), .pointer (some ⟨x2, 0, none⟩)] w (Dealt w L fun _ => (0, D.turns ⟨to, some q, name⟩)) := by
  have ht := turns_at h hD.nf hD.np ⟨to, some q, name⟩ ht hs (fun _ => rfl) (fun p hp => by cases hp; exact hq)
  simp only [Chg.val, ptrV_some] at ht
  have Ht := Lib.hid ht
  clear ht h hD hq
  go_enter Tryd.func60, Tryd.ntmps60
  go_wp2_with fail
  refine Ht.out.mono ?_
  rintro e w1 ⟨rfl, L1, hst⟩
  have Hst := Lib.hid hst
  clear hst
  go_wp2_with fail
  go_ret
  exact Dealt.of w.heap.size rfl rfl Hst.out (Nat.le_refl _)

theorem remove1_at {w : World} {L : Lay} {D : PD} (h : DiskAt w L D) (hD : D.Ok) {q : Nat} {x0 x1 : Nat} {name : ByteArray} (c0 : w.cell? ⟨x0, 0, none⟩ = some (.pointer (some ⟨L.d, 0, none⟩))) (c1 : w.cell? ⟨x1, 0, none⟩ = some (.string name))
    (hs : name.size ≤ 1000000) :
    Calls Tryd.prog 65 #[.pointer (some ⟨q, 0, none⟩), .pointer (some ⟨x0, 0, none⟩), .pointer (some ⟨x1, 0, none⟩)] w (Dealt w L fun _ => (0, D.turns ⟨ByteArray.empty, none, name⟩)) := by
  have ht := turns_at h hD.nf hD.np ⟨ByteArray.empty, none, name⟩ (by show ByteArray.empty.size ≤ 1000000; decide) hs (fun h => nomatch isE_empty.symm.trans h) (fun p hp => by cases hp)
  simp only [Chg.val, ptrV_none] at ht
  have Ht := Lib.hid ht
  clear ht h hD
  go_enter Tryd.func65, Tryd.ntmps65
  go_wp2_with fail
  refine Ht.out.mono ?_
  rintro e w1 ⟨rfl, L1, hst⟩
  have Hst := Lib.hid hst
  clear hst
  go_wp2_with fail
  go_ret
  exact Dealt.of w.heap.size rfl rfl Hst.out (Nat.le_refl _)

set_option maxRecDepth 100000 in
set_option maxHeartbeats 1000000 in
theorem rename_at (hR : RightOk) {w : World} {L : Lay} {D : PD} (h : DiskAt w L D) (hD : D.Ok) (hC : 0 ≤ D.deeds ∧ D.deeds < 1000000000000) (name to : ByteArray) (hs : name.size ≤ 1000000) (ht : to.size ≤ 1000000) :
    Calls Tryd.prog 27 #[.pointer (some ⟨L.d, 0, none⟩), .string name, .string to] w (Dealt w L fun _ => D.deed (rightP name && rightP to) fun D' => D'.rename name to) := by
  have H := Lib.hid h
  have HD := Lib.hid hD
  have HC := Lib.hid hC
  have hss : ∀ s ∈ [name, to], s.size ≤ 1000000 := fun s h => by
    simp at h
    rcases h with rfl | rfl
    · exact hs
    · exact ht
  have Hss := Lib.hid hss
  have hdl := lt_of_heap h.hd
  clear h hD hC hss
  go_enter Tryd.func27, Tryd.ntmps27
  go_wp2_with fail
  obtain ⟨w0, hw0⟩ : ∃ w0 : World, ((w.alloc (.cells #[.pointer (some ⟨L.d, 0, none⟩)] 25)).alloc (.cells #[.string name] 9)).alloc (.cells #[.string to] 9) = w0 := ⟨_, rfl⟩
  rw [hw0]
  have hz0 : w.heap.size + 3 ≤ w0.heap.size := by rw [← hw0]; simp
  have x0 : w0.heap[w.heap.size]? = some (.cells #[.pointer (some ⟨L.d, 0, none⟩)] 25 (0, 0)) := by rw [← hw0]; exact heap_alloc_of (heap_alloc_of (heap_alloc_at rfl _) _) _
  have x1 : w0.heap[w.heap.size + 1]? = some (.cells #[.string name] 9 (0, 0)) := by rw [← hw0]; exact heap_alloc_of (heap_alloc_at (by simp) _) _
  have x2 : w0.heap[w.heap.size + 1 + 1]? = some (.cells #[.string to] 9 (0, 0)) := by rw [← hw0]; exact heap_alloc_at (by simp) _
  have hb0 : Below w.heap.size w w0 := by rw [← hw0]; exact (((Below.refl _ w).alloc (Nat.le_refl _) _).alloc (by simp) _).alloc (by simp; omega) _
  have X := Lib.hid (And.intro x0 (And.intro x1 x2))
  have Hb0 := Lib.hid hb0
  clear x0 x1 x2 hw0 hb0
  refine wp_region_reg (by kernel_rfl) (by kernel_rfl) ?_
  obtain ⟨w1, hw1⟩ : ∃ w1 : World, w0.drew = w1 := ⟨_, rfl⟩
  rw [hw1]
  have HX := Lib.hid (show w1.heap[w.heap.size]? = _ ∧ w1.heap[w.heap.size + 1]? = _ ∧ w1.heap[w.heap.size + 1 + 1]? = _ by rw [← hw1]; exact X.out)
  have HB : Hid (Below w.heap.size w w1) := Lib.hid (by rw [← hw1]; exact Hb0.out.drew)
  have hz1 : w.heap.size + 3 ≤ w1.heap.size := by rw [← hw1]; exact hz0
  clear hw1
  have z0 := box_cell HX.out.1
  have z1 := box_cell HX.out.2.1
  have z2 := box_cell HX.out.2.2
  refine reg_quiet 0 rfl (by kernel_rfl) (fun K hK => ?_)
  go_simp
  refine hK _ ?_; clear hK K
  refine reg_quiet 1 rfl (by kernel_rfl) (fun K hK => ?_)
  go_simp
  refine hK _ ?_; clear hK K
  refine reg_quiet 2 rfl (by kernel_rfl) (fun K hK => ?_)
  go_simp
  refine hK _ ?_; clear hK K
  refine reg_quiet 3 rfl (by kernel_rfl) (fun K hK => ?_)
  go_simp
  refine hK _ ?_; clear hK K
  refine reg_quiet 5 rfl (by kernel_rfl) (fun K hK => ?_)
  go_simp
  refine hK _ ?_; clear hK K
  refine reg_quiet 6 rfl (by kernel_rfl) (fun K hK => ?_)
  go_simp
  refine hK _ ?_; clear hK K
  refine reg_turns [4, 7] (by kernel_rfl) rfl ?_
  refine turns_cons [6, 5, 0] rfl (by kernel_rfl) (fun K hK => ?_) ?_
  · go_simp
    refine (thered_at w1 L.d name 60 #[.pointer (some ⟨w.heap.size, 0, none⟩), .pointer (some ⟨w.heap.size + 1 + 1, 0, none⟩), .pointer (some ⟨w.heap.size + 1, 0, none⟩)]).mono ?_
    rintro e w2 ⟨y, rfl, hy0, hy1, hb2, hY⟩
    have hz2 := hb2.size
    have HY := Lib.hid hY
    try (have HN := Lib.hid (Below.heap hb2 HN.out (by omega)))
    have HX := Lib.hid (And.intro (Below.heap hb2 HX.out.1 (by omega)) (And.intro (Below.heap hb2 HX.out.2.1 (by omega)) (Below.heap hb2 HX.out.2.2 (by omega))))
    have HB := Lib.hid (HB.out.trans (hb2.mono (by omega)))
    have hz1 : w.heap.size + 3 ≤ w2.heap.size := by omega
    have z0 := box_cell HX.out.1
    have z1 := box_cell HX.out.2.1
    have z2 := box_cell HX.out.2.2
    clear hY hb2
    rename World => w1
    refine hK _ _ (StayOk.cons rfl (by go_simp) (StayOk.cons rfl (by go_simp) (StayOk.cons rfl (by go_simp) (StayOk.nil)))) ?_; clear hK K
    refine reg_turn 7 [0] rfl (by kernel_rfl) (by kernel_rfl) (fun K hK => ?_)
    go_simp
    obtain ⟨w2, hw2⟩ : ∃ w2 : World, w1.alloc (.cells #[.string name, .string to] 9) = w2 := ⟨_, rfl⟩
    obtain ⟨n, hn⟩ : ∃ n, w1.heap.size = n := ⟨_, rfl⟩
    rw [hw2, hn]
    have hNx : w2.heap[n]? = some (.cells #[.string name, .string to] 9 (0, 0)) := by rw [← hw2]; exact heap_alloc_at hn _
    have hb2 : Below w1.heap.size w1 w2 := by rw [← hw2]; exact (Below.refl _ w1).alloc (Nat.le_refl _) _
    have hz2 := hb2.size
    have HN := Lib.hid hNx
    have hnl := lt_of_heap hNx
    have hn0 : w.heap.size + 3 ≤ n := by omega
    try (have HY := Lib.hid (And.intro (Below.heap hb2 HY.out.1 (by omega)) (And.intro (Below.heap hb2 HY.out.2.1 (by omega)) (Below.heap hb2 HY.out.2.2 (by omega)))))
    have HX := Lib.hid (And.intro (Below.heap hb2 HX.out.1 (by omega)) (And.intro (Below.heap hb2 HX.out.2.1 (by omega)) (Below.heap hb2 HX.out.2.2 (by omega))))
    have HB := Lib.hid (HB.out.trans (hb2.mono (by omega)))
    have hz1 : w.heap.size + 3 ≤ w2.heap.size := by omega
    have z0 := box_cell HX.out.1
    have z1 := box_cell HX.out.2.1
    have z2 := box_cell HX.out.2.2
    clear hw2 hn hNx hb2
    rename World => w1
    refine hK _ _ (StayOk.cons rfl (by go_simp) (StayOk.nil)) ?_; clear hK K
    refine reg_turn 8 [] rfl (by kernel_rfl) (by kernel_rfl) (fun K hK => ?_)
    go_simp
    refine (there_deed hR (H.out.below HB.out) HD.out HC.out enter_rename1 (box_cell HY.out.1) (box_cell HY.out.2.1) (box_cell HY.out.2.2) (by omega) (by omega) (by omega) (ss := [name, to]) (Lst.new (vs := [.string name, .string to]) HN.out) (fun q hq => by have : n = q := Option.some.inj hq; omega) hs Hss.out (by simp) (g := fun D' q _ => (0, D'.turns ⟨to, some q, name⟩)) (fun q => #[.pointer (some ⟨q, 0, none⟩), .pointer (some ⟨w.heap.size, 0, none⟩), .pointer (some ⟨w.heap.size + 1 + 1, 0, none⟩), .pointer (some ⟨w.heap.size + 1, 0, none⟩)]) (fun q => by simp) (fun w3 q hk3 h3 hq => rename1_at h3 HD.out.counted (h3.okf _ (find_mem hq)) (hk3.cell z0 (by omega)) (hk3.cell z2 (by omega)) (hk3.cell z1 (by omega)) hs ht)).mono ?_
    rintro e w3 hd
    obtain ⟨p, L3, rfl, hst, hp⟩ := Dealt.before (step_below H.out HB.out) hd
    rw [show [name, to].all rightP = (rightP name && rightP to) by simp] at hst ⊢
    have Hst := Lib.hid hst
    clear hst
    refine hK _ _ (StayOk.nil) ?_; clear hK K
    refine reg_quiet 9 rfl (by kernel_rfl) (fun K hK => ?_)
    go_simp
    refine hK _ ?_; clear hK K
    refine reg_done (by kernel_rfl) ?_
    go_wp2_with fail
    go_ret
    exact ⟨p, L3, rfl, Hst.out, hp⟩
  refine turns_cons [3, 2, 1, 0] rfl (by kernel_rfl) (fun K hK => ?_) ?_
  · go_simp
    obtain ⟨w2, hw2⟩ : ∃ w2 : World, w1.alloc (.cells #[.string name, .string to] 9) = w2 := ⟨_, rfl⟩
    obtain ⟨n, hn⟩ : ∃ n, w1.heap.size = n := ⟨_, rfl⟩
    rw [hw2, hn]
    have hNx : w2.heap[n]? = some (.cells #[.string name, .string to] 9 (0, 0)) := by rw [← hw2]; exact heap_alloc_at hn _
    have hb2 : Below w1.heap.size w1 w2 := by rw [← hw2]; exact (Below.refl _ w1).alloc (Nat.le_refl _) _
    have hz2 := hb2.size
    have HN := Lib.hid hNx
    have hnl := lt_of_heap hNx
    have hn0 : w.heap.size + 3 ≤ n := by omega
    try (have HY := Lib.hid (And.intro (Below.heap hb2 HY.out.1 (by omega)) (And.intro (Below.heap hb2 HY.out.2.1 (by omega)) (Below.heap hb2 HY.out.2.2 (by omega)))))
    have HX := Lib.hid (And.intro (Below.heap hb2 HX.out.1 (by omega)) (And.intro (Below.heap hb2 HX.out.2.1 (by omega)) (Below.heap hb2 HX.out.2.2 (by omega))))
    have HB := Lib.hid (HB.out.trans (hb2.mono (by omega)))
    have hz1 : w.heap.size + 3 ≤ w2.heap.size := by omega
    have z0 := box_cell HX.out.1
    have z1 := box_cell HX.out.2.1
    have z2 := box_cell HX.out.2.2
    clear hw2 hn hNx hb2
    rename World => w1
    refine hK _ _ (StayOk.cons rfl (by go_simp) (StayOk.cons rfl (by go_simp) (StayOk.cons rfl (by go_simp) (StayOk.cons rfl (by go_simp) (StayOk.nil))))) ?_; clear hK K
    refine reg_turn 4 [0] rfl (by kernel_rfl) (by kernel_rfl) (fun K hK => ?_)
    go_simp
    refine (thered_at w1 L.d name 60 #[.pointer (some ⟨w.heap.size, 0, none⟩), .pointer (some ⟨w.heap.size + 1 + 1, 0, none⟩), .pointer (some ⟨w.heap.size + 1, 0, none⟩)]).mono ?_
    rintro e w2 ⟨y, rfl, hy0, hy1, hb2, hY⟩
    have hz2 := hb2.size
    have HY := Lib.hid hY
    try (have HN := Lib.hid (Below.heap hb2 HN.out (by omega)))
    have HX := Lib.hid (And.intro (Below.heap hb2 HX.out.1 (by omega)) (And.intro (Below.heap hb2 HX.out.2.1 (by omega)) (Below.heap hb2 HX.out.2.2 (by omega))))
    have HB := Lib.hid (HB.out.trans (hb2.mono (by omega)))
    have hz1 : w.heap.size + 3 ≤ w2.heap.size := by omega
    have z0 := box_cell HX.out.1
    have z1 := box_cell HX.out.2.1
    have z2 := box_cell HX.out.2.2
    clear hY hb2
    rename World => w1
    refine hK _ _ (StayOk.cons rfl (by go_simp) (StayOk.nil)) ?_; clear hK K
    refine reg_turn 8 [] rfl (by kernel_rfl) (by kernel_rfl) (fun K hK => ?_)
    go_simp
    refine (there_deed hR (H.out.below HB.out) HD.out HC.out enter_rename1 (box_cell HY.out.1) (box_cell HY.out.2.1) (box_cell HY.out.2.2) (by omega) (by omega) (by omega) (ss := [name, to]) (Lst.new (vs := [.string name, .string to]) HN.out) (fun q hq => by have : n = q := Option.some.inj hq; omega) hs Hss.out (by simp) (g := fun D' q _ => (0, D'.turns ⟨to, some q, name⟩)) (fun q => #[.pointer (some ⟨q, 0, none⟩), .pointer (some ⟨w.heap.size, 0, none⟩), .pointer (some ⟨w.heap.size + 1 + 1, 0, none⟩), .pointer (some ⟨w.heap.size + 1, 0, none⟩)]) (fun q => by simp) (fun w3 q hk3 h3 hq => rename1_at h3 HD.out.counted (h3.okf _ (find_mem hq)) (hk3.cell z0 (by omega)) (hk3.cell z2 (by omega)) (hk3.cell z1 (by omega)) hs ht)).mono ?_
    rintro e w3 hd
    obtain ⟨p, L3, rfl, hst, hp⟩ := Dealt.before (step_below H.out HB.out) hd
    rw [show [name, to].all rightP = (rightP name && rightP to) by simp] at hst ⊢
    have Hst := Lib.hid hst
    clear hst
    refine hK _ _ (StayOk.nil) ?_; clear hK K
    refine reg_quiet 9 rfl (by kernel_rfl) (fun K hK => ?_)
    go_simp
    refine hK _ ?_; clear hK K
    refine reg_done (by kernel_rfl) ?_
    go_wp2_with fail
    go_ret
    exact ⟨p, L3, rfl, Hst.out, hp⟩
  exact turns_nil'

set_option maxRecDepth 100000 in
set_option maxHeartbeats 1000000 in
theorem remove_at (hR : RightOk) {w : World} {L : Lay} {D : PD} (h : DiskAt w L D) (hD : D.Ok) (hC : 0 ≤ D.deeds ∧ D.deeds < 1000000000000) (name : ByteArray) (hs : name.size ≤ 1000000) :
    Calls Tryd.prog 33 #[.pointer (some ⟨L.d, 0, none⟩), .string name] w (Dealt w L fun _ => D.deed (rightP name) fun D' => D'.remove name) := by
  have H := Lib.hid h
  have HD := Lib.hid hD
  have HC := Lib.hid hC
  have Hss : Hid (∀ s ∈ [name], s.size ≤ 1000000) := Lib.hid (fun s h => by rw [List.mem_singleton.1 h]; exact hs)
  have hdl := lt_of_heap h.hd
  clear h hD hC
  go_enter Tryd.func33, Tryd.ntmps33
  go_wp2_with fail
  obtain ⟨w0, hw0⟩ : ∃ w0 : World, ((w.alloc (.cells #[.pointer (some ⟨L.d, 0, none⟩)] 25)).alloc (.cells #[.string name] 9)) = w0 := ⟨_, rfl⟩
  rw [hw0]
  have hz0 : w.heap.size + 2 ≤ w0.heap.size := by rw [← hw0]; simp
  have x0 : w0.heap[w.heap.size]? = some (.cells #[.pointer (some ⟨L.d, 0, none⟩)] 25 (0, 0)) := by rw [← hw0]; exact heap_alloc_of (heap_alloc_at rfl _) _
  have x1 : w0.heap[w.heap.size + 1]? = some (.cells #[.string name] 9 (0, 0)) := by rw [← hw0]; exact heap_alloc_at (by simp) _
  have hb0 : Below w.heap.size w w0 := by rw [← hw0]; exact (((Below.refl _ w).alloc (by simp) _).alloc (by simp) _)
  have X := Lib.hid (And.intro (x0) (x1))
  have Hb0 := Lib.hid hb0
  clear hw0 hb0 x0 x1
  refine wp_region_reg (by kernel_rfl) (by kernel_rfl) ?_
  obtain ⟨w1, hw1⟩ : ∃ w1 : World, w0.drew = w1 := ⟨_, rfl⟩
  rw [hw1]
  have HX := Lib.hid (show w1.heap[w.heap.size]? = _ ∧ w1.heap[w.heap.size + 1]? = _ by rw [← hw1]; exact X.out)
  have HB : Hid (Below w.heap.size w w1) := Lib.hid (by rw [← hw1]; exact Hb0.out.drew)
  have hz1 : w.heap.size + 2 ≤ w1.heap.size := by rw [← hw1]; exact hz0
  clear hw1
  have z0 := box_cell HX.out.1
  have z1 := box_cell HX.out.2
  refine reg_quiet 0 rfl (by kernel_rfl) (fun K hK => ?_)
  go_simp
  refine hK _ ?_; clear hK K
  refine reg_quiet 1 rfl (by kernel_rfl) (fun K hK => ?_)
  go_simp
  refine hK _ ?_; clear hK K
  refine reg_quiet 2 rfl (by kernel_rfl) (fun K hK => ?_)
  go_simp
  refine hK _ ?_; clear hK K
  refine reg_quiet 3 rfl (by kernel_rfl) (fun K hK => ?_)
  go_simp
  refine hK _ ?_; clear hK K
  refine reg_quiet 5 rfl (by kernel_rfl) (fun K hK => ?_)
  go_simp
  refine hK _ ?_; clear hK K
  refine reg_turns [4, 6] (by kernel_rfl) rfl ?_
  refine turns_cons [5, 0] rfl (by kernel_rfl) (fun K hK => ?_) ?_
  · go_simp
    refine (thered_at w1 L.d name 65 #[.pointer (some ⟨w.heap.size, 0, none⟩), .pointer (some ⟨w.heap.size + 1, 0, none⟩)]).mono ?_
    rintro e w2 ⟨y, rfl, hy0, hy1, hb2, hY⟩
    have hz2 := hb2.size
    have HY := Lib.hid hY
    try (have HN := Lib.hid (Below.heap hb2 HN.out (by omega)))
    have HX := Lib.hid (And.intro (Below.heap hb2 HX.out.1 (by omega)) (Below.heap hb2 HX.out.2 (by omega)))
    have HB := Lib.hid (HB.out.trans (hb2.mono (by omega)))
    have hz1 : w.heap.size + 2 ≤ w2.heap.size := by omega
    have z0 := box_cell HX.out.1
    have z1 := box_cell HX.out.2
    clear hY hb2
    rename World => w1
    refine hK _ _ (StayOk.cons rfl (by go_simp) (StayOk.cons rfl (by go_simp) (StayOk.nil))) ?_; clear hK K
    refine reg_turn 6 [0] rfl (by kernel_rfl) (by kernel_rfl) (fun K hK => ?_)
    go_simp
    obtain ⟨w2, hw2⟩ : ∃ w2 : World, w1.alloc (.cells #[.string name] 9) = w2 := ⟨_, rfl⟩
    obtain ⟨n, hn⟩ : ∃ n, w1.heap.size = n := ⟨_, rfl⟩
    rw [hw2, hn]
    have hNx : w2.heap[n]? = some (.cells #[.string name] 9 (0, 0)) := by rw [← hw2]; exact heap_alloc_at hn _
    have hb2 : Below w1.heap.size w1 w2 := by rw [← hw2]; exact (Below.refl _ w1).alloc (Nat.le_refl _) _
    have hz2 := hb2.size
    have HN := Lib.hid hNx
    have hnl := lt_of_heap hNx
    have hn0 : w.heap.size + 2 ≤ n := by omega
    try (have HY := Lib.hid (And.intro (Below.heap hb2 HY.out.1 (by omega)) (And.intro (Below.heap hb2 HY.out.2.1 (by omega)) (Below.heap hb2 HY.out.2.2 (by omega)))))
    have HX := Lib.hid (And.intro (Below.heap hb2 HX.out.1 (by omega)) (Below.heap hb2 HX.out.2 (by omega)))
    have HB := Lib.hid (HB.out.trans (hb2.mono (by omega)))
    have hz1 : w.heap.size + 2 ≤ w2.heap.size := by omega
    have z0 := box_cell HX.out.1
    have z1 := box_cell HX.out.2
    clear hw2 hn hNx hb2
    rename World => w1
    refine hK _ _ (StayOk.cons rfl (by go_simp) (StayOk.nil)) ?_; clear hK K
    refine reg_turn 7 [] rfl (by kernel_rfl) (by kernel_rfl) (fun K hK => ?_)
    go_simp
    refine (there_deed hR (H.out.below HB.out) HD.out HC.out enter_remove1 (box_cell HY.out.1) (box_cell HY.out.2.1) (box_cell HY.out.2.2) (by omega) (by omega) (by omega) (ss := [name]) (Lst.new (vs := [.string name]) HN.out) (fun q hq => by have : n = q := Option.some.inj hq; omega) hs Hss.out (by simp) (g := fun D' q _ => (0, D'.turns ⟨ByteArray.empty, none, name⟩)) (fun q => #[.pointer (some ⟨q, 0, none⟩), .pointer (some ⟨w.heap.size, 0, none⟩), .pointer (some ⟨w.heap.size + 1, 0, none⟩)]) (fun q => by simp) (fun w3 q hk3 h3 hq => remove1_at h3 HD.out.counted (hk3.cell z0 (by omega)) (hk3.cell z1 (by omega)) hs)).mono ?_
    rintro e w3 hd
    obtain ⟨p, L3, rfl, hst, hp⟩ := Dealt.before (step_below H.out HB.out) hd
    rw [show [name].all rightP = (rightP name) by simp] at hst ⊢
    have Hst := Lib.hid hst
    clear hst
    refine hK _ _ (StayOk.nil) ?_; clear hK K
    refine reg_quiet 8 rfl (by kernel_rfl) (fun K hK => ?_)
    go_simp
    refine hK _ ?_; clear hK K
    refine reg_done (by kernel_rfl) ?_
    go_wp2_with fail
    go_ret
    exact ⟨p, L3, rfl, Hst.out, hp⟩
  refine turns_cons [3, 2, 1, 0] rfl (by kernel_rfl) (fun K hK => ?_) ?_
  · go_simp
    obtain ⟨w2, hw2⟩ : ∃ w2 : World, w1.alloc (.cells #[.string name] 9) = w2 := ⟨_, rfl⟩
    obtain ⟨n, hn⟩ : ∃ n, w1.heap.size = n := ⟨_, rfl⟩
    rw [hw2, hn]
    have hNx : w2.heap[n]? = some (.cells #[.string name] 9 (0, 0)) := by rw [← hw2]; exact heap_alloc_at hn _
    have hb2 : Below w1.heap.size w1 w2 := by rw [← hw2]; exact (Below.refl _ w1).alloc (Nat.le_refl _) _
    have hz2 := hb2.size
    have HN := Lib.hid hNx
    have hnl := lt_of_heap hNx
    have hn0 : w.heap.size + 2 ≤ n := by omega
    try (have HY := Lib.hid (And.intro (Below.heap hb2 HY.out.1 (by omega)) (And.intro (Below.heap hb2 HY.out.2.1 (by omega)) (Below.heap hb2 HY.out.2.2 (by omega)))))
    have HX := Lib.hid (And.intro (Below.heap hb2 HX.out.1 (by omega)) (Below.heap hb2 HX.out.2 (by omega)))
    have HB := Lib.hid (HB.out.trans (hb2.mono (by omega)))
    have hz1 : w.heap.size + 2 ≤ w2.heap.size := by omega
    have z0 := box_cell HX.out.1
    have z1 := box_cell HX.out.2
    clear hw2 hn hNx hb2
    rename World => w1
    refine hK _ _ (StayOk.cons rfl (by go_simp) (StayOk.cons rfl (by go_simp) (StayOk.cons rfl (by go_simp) (StayOk.cons rfl (by go_simp) (StayOk.nil))))) ?_; clear hK K
    refine reg_turn 4 [0] rfl (by kernel_rfl) (by kernel_rfl) (fun K hK => ?_)
    go_simp
    refine (thered_at w1 L.d name 65 #[.pointer (some ⟨w.heap.size, 0, none⟩), .pointer (some ⟨w.heap.size + 1, 0, none⟩)]).mono ?_
    rintro e w2 ⟨y, rfl, hy0, hy1, hb2, hY⟩
    have hz2 := hb2.size
    have HY := Lib.hid hY
    try (have HN := Lib.hid (Below.heap hb2 HN.out (by omega)))
    have HX := Lib.hid (And.intro (Below.heap hb2 HX.out.1 (by omega)) (Below.heap hb2 HX.out.2 (by omega)))
    have HB := Lib.hid (HB.out.trans (hb2.mono (by omega)))
    have hz1 : w.heap.size + 2 ≤ w2.heap.size := by omega
    have z0 := box_cell HX.out.1
    have z1 := box_cell HX.out.2
    clear hY hb2
    rename World => w1
    refine hK _ _ (StayOk.cons rfl (by go_simp) (StayOk.nil)) ?_; clear hK K
    refine reg_turn 7 [] rfl (by kernel_rfl) (by kernel_rfl) (fun K hK => ?_)
    go_simp
    refine (there_deed hR (H.out.below HB.out) HD.out HC.out enter_remove1 (box_cell HY.out.1) (box_cell HY.out.2.1) (box_cell HY.out.2.2) (by omega) (by omega) (by omega) (ss := [name]) (Lst.new (vs := [.string name]) HN.out) (fun q hq => by have : n = q := Option.some.inj hq; omega) hs Hss.out (by simp) (g := fun D' q _ => (0, D'.turns ⟨ByteArray.empty, none, name⟩)) (fun q => #[.pointer (some ⟨q, 0, none⟩), .pointer (some ⟨w.heap.size, 0, none⟩), .pointer (some ⟨w.heap.size + 1, 0, none⟩)]) (fun q => by simp) (fun w3 q hk3 h3 hq => remove1_at h3 HD.out.counted (hk3.cell z0 (by omega)) (hk3.cell z1 (by omega)) hs)).mono ?_
    rintro e w3 hd
    obtain ⟨p, L3, rfl, hst, hp⟩ := Dealt.before (step_below H.out HB.out) hd
    rw [show [name].all rightP = (rightP name) by simp] at hst ⊢
    have Hst := Lib.hid hst
    clear hst
    refine hK _ _ (StayOk.nil) ?_; clear hK K
    refine reg_quiet 8 rfl (by kernel_rfl) (fun K hK => ?_)
    go_simp
    refine hK _ ?_; clear hK K
    refine reg_done (by kernel_rfl) ?_
    go_wp2_with fail
    go_ret
    exact ⟨p, L3, rfl, Hst.out, hp⟩
  exact turns_nil'
end Go.Proofs.YtbckbkcpfejllaaDoor
