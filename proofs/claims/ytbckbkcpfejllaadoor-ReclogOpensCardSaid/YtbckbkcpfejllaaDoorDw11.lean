/- The walks of there and Sync. -/
import Derived.Test.YtbckbkcpfejllaaDoorDw10
namespace Go.Proofs.YtbckbkcpfejllaaDoor
open Go.RowKit Go.Maps Go.WideMaps

def PD.at_ (D : PD) (name : ByteArray) (g : Nat → Int × PD) : Int × PD := match Dir.find D.files (bs name) with | none => (6, D) | some q => g q

theorem there_at (w : World) (d : Nat) (name : ByteArray) (f : Nat) (cap : Array Value) :
    Calls Tryd.prog 52 #[.pointer (some ⟨d, 0, none⟩), .string name, .func (.func f) #[] cap] w fun e w' => e = .returned (.func (.func 75) #[] #[.pointer (some ⟨w.heap.size, 0, none⟩), .pointer (some ⟨w.heap.size + 1, 0, none⟩), .pointer (some ⟨w.heap.size + 1 + 1, 0, none⟩)]) ∧
      ((w.alloc (.cells #[.pointer (some ⟨d, 0, none⟩)] 25)).alloc (.cells #[.string name] 9)).alloc (.cells #[.func (.func f) #[] cap] 90) = w' := by
  go_enter Tryd.func52, Tryd.ntmps52
  go_wp2_with fail
  go_ret
  exact ⟨rfl, rfl⟩

set_option maxRecDepth 100000 in
set_option maxHeartbeats 1000000 in
theorem there1_at {w : World} {L : Lay} {D : PD} (h : DiskAt w L D) {x0 x1 x2 : Nat} {name : ByteArray} {f : Nat} {cap : Array Value} (eg : ∀ args w, (callFunc f args).run Tryd.prog w = .ok (.enter f args) w)
    (c0 : w.cell? ⟨x0, 0, none⟩ = some (.pointer (some ⟨L.d, 0, none⟩))) (c1 : w.cell? ⟨x1, 0, none⟩ = some (.string name)) (c2 : w.cell? ⟨x2, 0, none⟩ = some (.func (.func f) #[] cap))
    (hs : name.size ≤ 1000000) {g : Nat → Nat → Int × PD} (hdo : ∀ q, Dir.find D.files (bs name) = some q → Calls Tryd.prog f (#[.pointer (some ⟨q, 0, none⟩)] ++ cap) w.drew (Dealt w.drew L (g q))) :
    Calls Tryd.prog 75 #[.pointer (some ⟨x0, 0, none⟩), .pointer (some ⟨x1, 0, none⟩), .pointer (some ⟨x2, 0, none⟩)] w (Dealt w L fun p => D.at_ name fun q => g q p) := by
  have k5 := h.cell 5
  simp only [List.getElem?_toArray, List.getElem?_cons_zero, List.getElem?_cons_succ] at k5
  have hlk := (h.hf.keep (w' := w.drew) rfl).look Tryd.underlying9 Tryd.underlying65 (zero_ptr w.drew) name (by unfold maxLen; omega) false
  have H := Lib.hid h
  have hst : Step w L w.drew L D := step_keep h ((Keeps.refl (fun _ => False) w).drew) (fun _ _ _ h => h) (fun _ _ h => h)
  have Hst := Lib.hid hst
  have hdl := lt_of_heap h.hd
  have Hdo := Lib.hid hdo
  clear h hdo hst
  cases hf : Dir.find D.files (bs name) with
  | none =>
    have hap : ∀ k, D.at_ name k = (6, D) := fun k => by simp only [PD.at_, hf]
    rw [hf] at hlk
    simp only [ptrV_none, Bool.false_eq_true, if_false] at hlk
    have Hap := Lib.hid hap
    clear hf hap
    go_enter Tryd.func75, Tryd.ntmps75
    go_wp2_with fail
    refine wp_region_reg (by kernel_rfl) (by kernel_rfl) ?_
    refine reg_quiet 0 rfl (by kernel_rfl) (fun K hK => ?_)
    go_simp
    refine hK _ ?_; clear hK K
    refine reg_quiet 1 rfl (by kernel_rfl) (fun K hK => ?_)
    go_simp
    refine hK _ ?_; clear hK K
    refine reg_quiet 2 rfl (by kernel_rfl) (fun K hK => ?_)
    go_simp
    refine hK _ ?_; clear hK K
    refine reg_quiet 3 rfl (by kernel_rfl) (fun K hK => ?_)
    go_simp
    refine hK _ ?_; clear hK K
    refine reg_quiet 4 rfl (by kernel_rfl) (fun K hK => ?_)
    go_simp
    refine hK _ ?_; clear hK K
    refine reg_quiet 5 rfl (by kernel_rfl) (fun K hK => ?_)
    go_simp
    refine hK _ ?_; clear hK K
    refine reg_quiet 6 rfl (by kernel_rfl) (fun K hK => ?_)
    go_simp
    refine hK _ ?_; clear hK K
    refine reg_done (by kernel_rfl) ?_
    go_wp2_with fail
    go_ret
    exact Dealt.of w.heap.size (Hap.out _) rfl Hst.out (Nat.le_refl _)
  | some q =>
    have hap : ∀ k, D.at_ name k = k q := fun k => by simp only [PD.at_, hf]
    rw [hf] at hlk
    simp only [ptrV_some, Bool.false_eq_true, if_false] at hlk
    have Hap := Lib.hid hap
    have Hdq := Lib.hid (Hdo.out q hf)
    clear hf hap
    go_enter Tryd.func75, Tryd.ntmps75
    go_wp2_with fail
    refine wp_region_reg (by kernel_rfl) (by kernel_rfl) ?_
    refine reg_quiet 0 rfl (by kernel_rfl) (fun K hK => ?_)
    go_simp
    refine hK _ ?_; clear hK K
    refine reg_quiet 1 rfl (by kernel_rfl) (fun K hK => ?_)
    go_simp
    refine hK _ ?_; clear hK K
    refine reg_quiet 2 rfl (by kernel_rfl) (fun K hK => ?_)
    go_simp
    refine hK _ ?_; clear hK K
    refine reg_quiet 3 rfl (by kernel_rfl) (fun K hK => ?_)
    go_simp
    refine hK _ ?_; clear hK K
    refine reg_quiet 4 rfl (by kernel_rfl) (fun K hK => ?_)
    go_simp
    refine hK _ ?_; clear hK K
    refine reg_quiet 5 rfl (by kernel_rfl) (fun K hK => ?_)
    go_simp
    refine hK _ ?_; clear hK K
    refine reg_quiet 6 rfl (by kernel_rfl) (fun K hK => ?_)
    go_simp
    refine hK _ ?_; clear hK K
    refine reg_done (by kernel_rfl) ?_
    go_wp2_with fail
    refine Hdq.out.mono ?_
    rintro e w1 ⟨p, L1, rfl, hst1, hp⟩
    have Hst1 := Lib.hid hst1
    clear hst1
    go_wp2_with fail
    go_ret
    exact Dealt.of p (Hap.out _) rfl (Hst.out.trans Hst1.out) hp
theorem enter_there1 (args : Array Value) (w : World) : (callFunc 75 args).run Tryd.prog w = .ok (.enter 75 args) w := by kernel_rfl
theorem enter_sync1 (args : Array Value) (w : World) : (callFunc 53 args).run Tryd.prog w = .ok (.enter 53 args) w := by kernel_rfl

/-- A deed on a file that must be there: what its closure pays, the deed pays. -/
theorem there_deed (hR : RightOk) {w : World} {L : Lay} {D : PD} (h : DiskAt w L D) (hD : D.Ok) (hC : 0 ≤ D.deeds ∧ D.deeds < 1000000000000) {x0 x1 x2 : Nat} {name : ByteArray} {f : Nat} {cap : Array Value} (eg : ∀ args w, (callFunc f args).run Tryd.prog w = .ok (.enter f args) w)
    (c0 : w.cell? ⟨x0, 0, none⟩ = some (.pointer (some ⟨L.d, 0, none⟩))) (c1 : w.cell? ⟨x1, 0, none⟩ = some (.string name)) (c2 : w.cell? ⟨x2, 0, none⟩ = some (.func (.func f) #[] cap)) (n0 : x0 ≠ L.d) (n1 : x1 ≠ L.d) (n2 : x2 ≠ L.d)
    {v : Value} {ss : List ByteArray} (hv : Lst w v (ss.map strV)) (hvd : ∀ b, v.ownBlock = some b → b ≠ L.d) (hs : name.size ≤ 1000000) (hss : ∀ s ∈ ss, s.size ≤ 1000000) (hl : ss.length ≤ 1000000) {g : PD → Nat → Nat → Int × PD} (args : Nat → Array Value) (hargs : ∀ q, #[.pointer (some ⟨q, 0, none⟩)] ++ cap = args q)
    (hdo : ∀ w1 q, Keeps (fun b => b = L.d) w w1 → DiskAt w1 L D.counted → Dir.find D.files (bs name) = some q → Calls Tryd.prog f (args q) w1 (Dealt w1 L (g D.counted q))) :
    Calls Tryd.prog 30 #[.pointer (some ⟨L.d, 0, none⟩), .func (.func 75) #[] #[.pointer (some ⟨x0, 0, none⟩), .pointer (some ⟨x1, 0, none⟩), .pointer (some ⟨x2, 0, none⟩)], v] w
      (Dealt w L fun p => D.deed (ss.all rightP) fun D' => D'.at_ name fun q => g D' q p) :=
  deed_at hR h hD hC enter_there1 hv hvd hss hl (g := fun D' p => D'.at_ name fun q => g D' q p) fun w1 hk h1 =>
    there1_at h1 eg (hk.cell c0 n0) (hk.cell c1 n1) (hk.cell c2 n2) hs fun q hq => by rw [hargs q]; exact hdo w1.drew q hk.drew (h1.keep (Nat.le_refl _) (fun _ _ _ => rfl)) hq

set_option maxRecDepth 100000 in
theorem sync1_at {w : World} {L : Lay} {D : PD} (h : DiskAt w L D) {q : Nat} (hq : L.role q = 3) :
    Calls Tryd.prog 53 #[.pointer (some ⟨q, 0, none⟩)] w (Dealt w L fun _ => (0, D.setF q ⟨(D.fs q).b, (D.fs q).b.length, (D.fs q).time⟩)) := by
  obtain ⟨g1, g2, g3⟩ := h.file q hq
  obtain ⟨a1, cap1, hv⟩ := g2.slv
  have y0 : w.cell? ⟨q, 0, none⟩ = some (.slice a1 (D.fs q).b.length cap1) := by rw [cell_at g1, ← hv]; rfl
  have y1 : w.cell? ⟨q, 1, none⟩ = some (.int .i64 (D.fs q).sure) := by rw [cell_at g1]; rfl
  have y2 : w.frozen? ⟨q, 1, none⟩ = false := frozen_at g1
  have hqd : q ≠ L.d := fun e => by rw [e, h.rd] at hq; cases hq
  have hok := h.okb q hq
  have hst : Step w L (w.setCell ⟨q, 1, none⟩ (.int .i64 (D.fs q).b.length)) (L.turnF q (L.vs q)) (D.setF q ⟨(D.fs q).b, (D.fs q).b.length, (D.fs q).time⟩) := by
    refine file_set h hq (f := ⟨(D.fs q).b, (D.fs q).b.length, (D.fs q).time⟩) rfl (Int.le_refl _) ((Keeps.refl _ w).setCell (p := ⟨q, 1, none⟩) (fun _ => Or.inr (Or.inl rfl)) _) (heap_setCell_of h.hd (Ne.symm hqd) _) (by rw [heap_setCell_at g1]; rfl) (g2.keep fun x hx => Below.heap_setCell _ _ _ _ ?_) (fun x hx => Or.inl hx) ⟨hok.1, Nat.le_refl _, hok.2.2⟩
    have := g3 x hx
    exact fun e => by rw [e, hq] at this; omega
  have Hst := Lib.hid hst
  clear hst h g1 g2 g3 hq hv hok
  go_enter Tryd.func53, Tryd.ntmps53
  go_wp2_with fail
  go_ret
  exact Dealt.of w.heap.size rfl rfl Hst.out (Nat.le_refl _)

set_option maxRecDepth 100000 in
theorem sync_at (hR : RightOk) {w : World} {L : Lay} {D : PD} (h : DiskAt w L D) (hD : D.Ok) (hC : 0 ≤ D.deeds ∧ D.deeds < 1000000000000) (name : ByteArray) (hs : name.size ≤ 1000000) :
    Calls Tryd.prog 23 #[.pointer (some ⟨L.d, 0, none⟩), .string name] w (Dealt w L fun _ => D.deed (rightP name) fun D' => D'.sync name) := by
  have H := Lib.hid h
  have HD := Lib.hid hD
  have HC := Lib.hid hC
  have hdl := lt_of_heap h.hd
  clear h hD hC
  go_enter Tryd.func23, Tryd.ntmps23
  go_wp2_with fail
  refine (there_at w L.d name 53 #[]).mono ?_
  rintro e w1 ⟨rfl, hw1⟩
  have hz1 : w.heap.size + 3 ≤ w1.heap.size := by rw [← hw1]; simp
  have x0 : w1.heap[w.heap.size]? = some (.cells #[.pointer (some ⟨L.d, 0, none⟩)] 25 (0, 0)) := by rw [← hw1]; exact heap_alloc_of (heap_alloc_of (heap_alloc_at rfl _) _) _
  have x1 : w1.heap[w.heap.size + 1]? = some (.cells #[.string name] 9 (0, 0)) := by rw [← hw1]; exact heap_alloc_of (heap_alloc_at (by simp) _) _
  have x2 : w1.heap[w.heap.size + 1 + 1]? = some (.cells #[.func (.func 53) #[] #[]] 90 (0, 0)) := by rw [← hw1]; exact heap_alloc_at (by simp) _
  have hb1 : Below w.heap.size w w1 := by rw [← hw1]; exact (((Below.refl _ w).alloc (Nat.le_refl _) _).alloc (by simp) _).alloc (by simp; omega) _
  have X := Lib.hid (And.intro x0 (And.intro x1 x2))
  have Hb1 := Lib.hid hb1
  clear hw1 x0 x1 x2 hb1
  go_wp2_with fail
  have hb2 : Below w.heap.size w (w1.alloc (.cells #[.string name] 9)) := Hb1.out.alloc (by omega) _
  obtain ⟨x0, x1, x2⟩ := X.out
  have y0 : (w1.alloc (.cells #[.string name] 9)).cell? ⟨w.heap.size, 0, none⟩ = some (.pointer (some ⟨L.d, 0, none⟩)) := by rw [cell_at (heap_alloc_of x0 _)]; rfl
  have y1 : (w1.alloc (.cells #[.string name] 9)).cell? ⟨w.heap.size + 1, 0, none⟩ = some (.string name) := by rw [cell_at (heap_alloc_of x1 _)]; rfl
  have y2 : (w1.alloc (.cells #[.string name] 9)).cell? ⟨w.heap.size + 1 + 1, 0, none⟩ = some (.func (.func 53) #[] #[]) := by rw [cell_at (heap_alloc_of x2 _)]; rfl
  have hdd := (there_deed hR (H.out.below hb2) HD.out HC.out enter_sync1 y0 y1 y2 (by omega) (by omega) (by omega) (ss := [name]) (Lst.new (vs := [.string name]) (heap_alloc_at rfl _)) (fun q hq => by have : w1.heap.size = q := Option.some.inj hq; omega) hs (fun s hs' => by rw [List.mem_singleton.1 hs']; exact hs) (by simp)
    (g := fun D' q _ => (0, D'.setF q ⟨(D'.fs q).b, (D'.fs q).b.length, (D'.fs q).time⟩)) (v := .slice (some ⟨w1.heap.size, 0, none⟩) 1 1) (fun q => #[.pointer (some ⟨q, 0, none⟩)]) (fun q => by simp) (fun w3 q hk3 h3 hq => sync1_at h3 (h3.okf _ (find_mem hq))))
  refine hdd.mono ?_
  rintro e w3 hd
  obtain ⟨p, L3, rfl, hst, hp⟩ := Dealt.before (step_below H.out hb2) hd
  rw [show [name].all rightP = rightP name by simp] at hst ⊢
  go_wp2_with fail
  go_ret
  exact ⟨p, L3, rfl, hst, hp⟩
end Go.Proofs.YtbckbkcpfejllaaDoor
