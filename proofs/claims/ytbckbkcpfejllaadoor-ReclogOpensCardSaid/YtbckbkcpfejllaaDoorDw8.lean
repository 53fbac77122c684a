/- The walk of deed: what every deed does ahead of its own work; ContainsFunc over names. -/
import Derived.Test.YtbckbkcpfejllaaDoorDw7
import Derived.Test.YtbckbkcpfejllaaDoorPt0
namespace Go.Proofs.YtbckbkcpfejllaaDoor
open Go.RowKit Go.Maps Go.WideMaps

/-- What is asked of path.Right. -/
def RightOk : Prop := ∀ (s : ByteArray) (w : World), s.size ≤ 1000000 → Calls Tryd.prog 64 #[.string s] w fun e w' => e = .returned (.bool (rightP s)) ∧ Below w.heap.size w w'

theorem deed1_at (hR : RightOk) (s : ByteArray) (w : World) (hs : s.size ≤ 1000000) : Calls Tryd.prog 63 #[.string s] w fun e w' => e = .returned (.bool (!rightP s)) ∧ Below w.heap.size w w' := by
  have h := hR s w hs
  have H := Lib.hid h
  clear h
  generalize rightP s = c at *
  cases c
  all_goals
    go_enter Tryd.func63, Tryd.ntmps63
    go_wp2_with fail
    refine H.out.mono ?_
    rintro e w1 ⟨rfl, hb⟩
    go_wp2_with fail
    go_ret
    exact ⟨rfl, hb⟩

/-! ### a slice whose cells are known -/
def Lst (w : World) (v : Value) (vs : List Value) : Prop :=
  ∃ a cap, v = .slice a vs.length cap ∧ vs.length ≤ cap ∧ (a = none → cap = 0) ∧ ∀ j (h : j < vs.length), ∃ b off, a = some ⟨b, off, none⟩ ∧ w.cell? ⟨b, off + j, none⟩ = some vs[j]
theorem Lst.keep {w w' : World} {v : Value} {vs : List Value} (h : Lst w v vs) (hb : ∀ b, v.ownBlock = some b → b < w.heap.size → w'.heap[b]? = w.heap[b]?) : Lst w' v vs := by
  obtain ⟨a, cap, rfl, h1, h3, h4⟩ := h
  refine ⟨a, cap, rfl, h1, h3, fun j hj => ?_⟩
  obtain ⟨b, off, rfl, hc⟩ := h4 j hj
  refine ⟨b, off, rfl, ?_⟩
  rw [World.cell?_of_block (w := w) (hb b rfl (World.block_lt_of_cell? w _ hc))]
  exact hc
theorem Lst.below {w w' : World} {v : Value} {vs : List Value} (h : Lst w v vs) (hb : Below w.heap.size w w') : Lst w' v vs := h.keep fun b _ hl => hb.block b hl
theorem Lst.new {w : World} {g : Nat} {vs : List Value} {t : TypeId} {fz : Nat × Nat} (h : w.heap[g]? = some (.cells vs.toArray t fz)) : Lst w (.slice (some ⟨g, 0, none⟩) vs.length vs.length) vs :=
  ⟨_, _, rfl, Nat.le_refl _, (fun h => by cases h), fun j hj => ⟨g, 0, rfl, by rw [cell_at h]; simp [hj]⟩⟩
theorem Lst.nil (w : World) : Lst w (.slice none 0 0) [] := ⟨none, 0, rfl, Nat.le_refl _, fun _ => rfl, fun j hj => by cases hj⟩

def strV (s : ByteArray) : Value := .string s
/-- The place of the first name that is no path. -/
def badAt : List ByteArray → Nat → Int
  | [], _ => -1
  | s :: r, k => if rightP s then badAt r (k + 1) else k
theorem badAt_ge (l : List ByteArray) (k : Nat) : decide (badAt l k ≥ 0) = !(l.all rightP) := by
  induction l generalizing k with
  | nil => rfl
  | cons s r ih =>
    unfold badAt
    cases h : rightP s
    · simp [h]
    · simp only [if_true, List.all_cons, h, Bool.true_and]; exact ih (k + 1)

set_option maxRecDepth 100000 in
theorem indexFunc_at (hR : RightOk) {w : World} {v : Value} {ss : List ByteArray} (h : Lst w v (ss.map strV)) (hs : ∀ s ∈ ss, s.size ≤ 1000000) (hl : ss.length ≤ 1000000) :
    Calls Tryd.prog 80 #[v, .func (.func 63) #[] #[]] w fun e w' => e = .returned (.int .i64 (badAt ss 0)) ∧ Below w.heap.size w w' := by
  obtain ⟨a, cap, rfl, h1, h3, h4⟩ := h
  rw [List.length_map] at *
  have H4 := Lib.hid h4
  have Hs := Lib.hid hs
  clear h4 hs
  generalize hn : ss.length = n at *
  have Hn := Lib.hid hn
  clear hn
  go_enter Tryd.func80, Tryd.ntmps80
  go_wp2
  go_loopw [5, 8] (fun _ t wr => ∃ k : Nat, k ≤ n ∧ t = .int .i64 k ∧ badAt ss 0 = badAt (ss.drop k) k ∧ Below w.heap.size w wr) (fun _ t _ => n - (intOf t).toNat)
  case atStart => exact ⟨0, Nat.zero_le _, rfl, rfl, Below.refl _ _⟩
  case round =>
    obtain ⟨k, hk, rfl, hbad, hb⟩ := hrel
    have Hbad := Lib.hid hbad
    clear hbad
    by_cases hlt : k < n
    · have hlen : k < ss.length := by rw [Hn.out]; exact hlt
      obtain ⟨b, off, rfl, hc⟩ := H4.out k (by rw [List.length_map]; exact hlen)
      rw [List.getElem_map] at hc
      have hc' : wr.cell? ⟨b, off + k, none⟩ = some (.string ss[k]) := (hb.cell (p := ⟨b, off + k, none⟩) (World.block_lt_of_cell? w _ hc)).trans hc
      have hd := deed1_at hR ss[k] wr (Hs.out _ (List.getElem_mem hlen))
      have hst : badAt ss 0 = if rightP ss[k] then badAt (ss.drop (k + 1)) (k + 1) else k := by
        rw [Hbad.out, List.drop_eq_getElem_cons hlen]; rfl
      have Hd := Lib.hid hd
      have Hst := Lib.hid hst
      clear hd hst hc
      generalize ss[k] = s at *
      cases hr : rightP s
      · rw [hr] at Hd Hst
        clear hr
        go_wp2_with fail
        refine Hd.out.mono ?_
        rintro e w1 ⟨rfl, hb1⟩
        go_wp2_with fail
        go_ret
        exact ⟨by rw [Hst.out]; rfl, hb.trans (hb1.mono hb.size)⟩
      · rw [hr] at Hd Hst
        clear hr
        go_wp2_with fail
        refine Hd.out.mono ?_
        rintro e w1 ⟨rfl, hb1⟩
        go_wp2_with fail
        go_roundw
        case rel => exact ⟨k + 1, by omega, by go_num, by rw [Hst.out]; rfl, hb.trans (hb1.mono hb.size)⟩
        case measure => simp [intOf]; omega
    · go_wp2_with fail
      go_ret
      refine ⟨?_, hb⟩
      rw [Hbad.out, List.drop_eq_nil_of_le (by rw [Hn.out]; omega)]
      rfl

theorem containsFunc_at (hR : RightOk) {w : World} {v : Value} {ss : List ByteArray} (h : Lst w v (ss.map strV)) (hs : ∀ s ∈ ss, s.size ≤ 1000000) (hl : ss.length ≤ 1000000) :
    Calls Tryd.prog 62 #[v, .func (.func 63) #[] #[]] w fun e w' => e = .returned (.bool (!(ss.all rightP))) ∧ Below w.heap.size w w' := by
  have hc := indexFunc_at hR h hs hl
  have hf := badAt_ge ss 0
  obtain ⟨a, cap, rfl⟩ : ∃ a cp, v = .slice a ss.length cp := by
    obtain ⟨a, cp, rfl, _⟩ := h
    exact ⟨a, cp, by rw [List.length_map]⟩
  clear h
  have Hc := Lib.hid hc
  have Hf := Lib.hid hf
  clear hc hf
  go_enter Tryd.func62, Tryd.ntmps62
  go_wp2_with fail
  refine Hc.out.mono ?_
  rintro e w1 ⟨rfl, hb⟩
  go_wp2_with fail
  go_ret
  exact ⟨by rw [← Hf.out]; rfl, hb⟩

/-! ### deed -/
set_option maxRecDepth 100000 in
set_option maxHeartbeats 1000000 in
theorem deed_at (hR : RightOk) {w : World} {L : Lay} {D : PD} (h : DiskAt w L D) (hD : D.Ok) (hC : 0 ≤ D.deeds ∧ D.deeds < 1000000000000) {f : Nat} {cap : Array Value} (eg : ∀ args w, (callFunc f args).run Tryd.prog w = .ok (.enter f args) w)
    {v : Value} {ss : List ByteArray} (hv : Lst w v (ss.map strV)) (hvd : ∀ b, v.ownBlock = some b → b ≠ L.d) (hs : ∀ s ∈ ss, s.size ≤ 1000000) (hl : ss.length ≤ 1000000) {g : PD → Nat → Int × PD}
    (hdo : ∀ w1, Keeps (fun b => b = L.d) w w1 → DiskAt w1 L D.counted → Calls Tryd.prog f cap w1 (Dealt w1 L (g D.counted))) :
    Calls Tryd.prog 30 #[.pointer (some ⟨L.d, 0, none⟩), .func (.func f) #[] cap, v] w (Dealt w L fun p => D.deed (ss.all rightP) fun D' => g D' p) := by
  have hvs : ∃ a cp, v = .slice a ss.length cp := by
    obtain ⟨a, cp, rfl, _⟩ := hv
    exact ⟨a, cp, by rw [List.length_map]⟩
  obtain ⟨a0, cp0, rfl⟩ := hvs
  have c2 := h.cell 2
  have c3 := h.cell 3
  have c4 := h.cell 4
  have f2 := h.free 2
  have f3 := h.free 3
  have f4 := h.free 4
  simp only [List.getElem?_toArray, List.getElem?_cons_zero, List.getElem?_cons_succ] at c2 c3 c4
  have hdl := lt_of_heap h.hd
  have H := Lib.hid h
  have HD := Lib.hid hD
  have Hv := Lib.hid hv
  have Hvd := Lib.hid hvd
  have Hs := Lib.hid hs
  have Hdo := Lib.hid hdo
  have ha0 := hD.a0
  have ha1 := hD.a1
  obtain ⟨he0, he1⟩ := hC
  clear h hv hvd hs hdo hD
  have hdown : (D.deed (ss.all rightP)) = (D.deed (ss.all rightP)) := rfl
  clear hdown
  cases hdn : D.down
  · rw [hdn] at c4
    by_cases hz : D.armed = 0
    · have hde : ∀ (r : Bool) (k : PD → Int × PD), D.deed r k = (8, { D with down := true }) := fun r k => by simp only [PD.deed, hdn, hz]; rfl
      have Hde := Lib.hid hde
      rw [hz] at c3
      have hst : Step w L (w.setCell ⟨L.d, 4, none⟩ (.bool true)) L { D with down := true } :=
        step_turn H.out ((Keeps.refl (fun b => b = L.d) w).setCell (p := ⟨L.d, 4, none⟩) (fun _ => rfl) _) (by rw [heap_setCell_at H.out.hd]; rfl) rfl rfl rfl rfl (Int.le_refl _)
      have Hst := Lib.hid hst
      clear hde hz hdn hst
      go_enter Tryd.func30, Tryd.ntmps30
      go_wp2_with fail
      go_ret
      exact Dealt.of w.heap.size (Hde.out _ _) rfl (Hst.out) (Nat.le_refl _)
    · have hz1 : ((D.armed : Int) == 0) = false := by simpa using hz
      have hde : ∀ (r : Bool) (k : PD → Int × PD), D.deed r k = if r then k D.counted else (5, D.counted) := fun r k => by simp only [PD.deed, hdn, hz]; rfl
      have Hde := Lib.hid hde
      have hpos : 0 < D.armed ∨ D.armed ≤ -1 := by omega
      clear hde hz
      rcases hpos with hp | hp
      · have hpd : decide (0 < D.armed) = true := by simpa using hp
        have hst : Step w L ((w.setCell ⟨L.d, 3, none⟩ (.int .i64 (D.armed - 1))).setCell ⟨L.d, 2, none⟩ (.int .i64 (D.deeds + 1))) L D.counted :=
          step_turn H.out (((Keeps.refl (fun b => b = L.d) w).setCell (p := ⟨L.d, 3, none⟩) (fun _ => rfl) _).setCell (p := ⟨L.d, 2, none⟩) (fun _ => rfl) _) (by rw [heap_setCell_at (heap_setCell_at H.out.hd _)]; simp only [PD.counted]; rw [if_pos hp]; simp [hdn]) rfl rfl rfl rfl (Int.le_refl _)
        have hk : Keeps (fun b => b = L.d) w ((w.setCell ⟨L.d, 3, none⟩ (.int .i64 (D.armed - 1))).setCell ⟨L.d, 2, none⟩ (.int .i64 (D.deeds + 1))) :=
          (((Keeps.refl (fun b => b = L.d) w).setCell (p := ⟨L.d, 3, none⟩) (fun _ => rfl) _).setCell (p := ⟨L.d, 2, none⟩) (fun _ => rfl) _)
        have Hst := Lib.hid hst
        have Hk := Lib.hid hk
        clear hst hk hdn
        go_enter Tryd.func30, Tryd.ntmps30
        go_wp2_with fail
        refine (containsFunc_at hR (Hv.out.keep fun b hb hlt => Hk.out.block b hlt (Hvd.out b hb)) Hs.out hl).mono ?_
        rintro e w2 ⟨rfl, hb⟩
        have Hst2 := Lib.hid (Hst.out.trans (step_below Hst.out.at_ hb))
        have Hk2 := Lib.hid (Hk.out.trans (Keeps.of_below hb) (fun _ _ h => h.elim))
        cases hr : ss.all rightP
        · have Hr := Lib.hid hr
          clear hr
          go_wp2_with fail
          go_ret
          exact Dealt.of (c := 5) (D' := D.counted) w.heap.size ((Hde.out _ _).trans (by simp [Hr.out])) rfl Hst2.out (Nat.le_refl _)
        · have Hr := Lib.hid hr
          clear hr
          go_wp2_with fail
          refine (Hdo.out w2 Hk2.out Hst2.out.at_).mono ?_
          rintro e w3 ⟨p, L3, rfl, hst3, hp⟩
          have Hst3 := Lib.hid hst3
          clear hst3
          go_wp2_with fail
          go_ret
          exact Dealt.of (c := (g D.counted p).1) (D' := (g D.counted p).2) p ((Hde.out _ _).trans (by simp [Hr.out])) rfl (Hst2.out.trans Hst3.out) (Nat.le_trans Hst2.out.keeps.size hp)
      · have hpd : decide (0 < D.armed) = false := by simp; omega
        have hst : Step w L (w.setCell ⟨L.d, 2, none⟩ (.int .i64 (D.deeds + 1))) L D.counted :=
          step_turn H.out ((Keeps.refl (fun b => b = L.d) w).setCell (p := ⟨L.d, 2, none⟩) (fun _ => rfl) _) (by rw [heap_setCell_at H.out.hd _]; simp only [PD.counted]; rw [if_neg (by omega)]; simp [hdn]) rfl rfl rfl rfl (Int.le_refl _)
        have hk : Keeps (fun b => b = L.d) w (w.setCell ⟨L.d, 2, none⟩ (.int .i64 (D.deeds + 1))) :=
          (Keeps.refl (fun b => b = L.d) w).setCell (p := ⟨L.d, 2, none⟩) (fun _ => rfl) _
        have Hst := Lib.hid hst
        have Hk := Lib.hid hk
        clear hst hk hdn
        go_enter Tryd.func30, Tryd.ntmps30
        go_wp2_with fail
        refine (containsFunc_at hR (Hv.out.keep fun b hb hlt => Hk.out.block b hlt (Hvd.out b hb)) Hs.out hl).mono ?_
        rintro e w2 ⟨rfl, hb⟩
        have Hst2 := Lib.hid (Hst.out.trans (step_below Hst.out.at_ hb))
        have Hk2 := Lib.hid (Hk.out.trans (Keeps.of_below hb) (fun _ _ h => h.elim))
        cases hr : ss.all rightP
        · have Hr := Lib.hid hr
          clear hr
          go_wp2_with fail
          go_ret
          exact Dealt.of (c := 5) (D' := D.counted) w.heap.size ((Hde.out _ _).trans (by simp [Hr.out])) rfl Hst2.out (Nat.le_refl _)
        · have Hr := Lib.hid hr
          clear hr
          go_wp2_with fail
          refine (Hdo.out w2 Hk2.out Hst2.out.at_).mono ?_
          rintro e w3 ⟨p, L3, rfl, hst3, hp⟩
          have Hst3 := Lib.hid hst3
          clear hst3
          go_wp2_with fail
          go_ret
          exact Dealt.of (c := (g D.counted p).1) (D' := (g D.counted p).2) p ((Hde.out _ _).trans (by simp [Hr.out])) rfl (Hst2.out.trans Hst3.out) (Nat.le_trans Hst2.out.keeps.size hp)
  · rw [hdn] at c4
    have hde : ∀ (r : Bool) (k : PD → Int × PD), D.deed r k = (8, D) := fun r k => by simp only [PD.deed, hdn]; rfl
    have Hde := Lib.hid hde
    clear hde hdn
    go_enter Tryd.func30, Tryd.ntmps30
    go_wp2_with fail
    go_ret
    exact Dealt.of w.heap.size (Hde.out _ _) rfl (step_below H.out (Below.refl _ _)) (Nat.le_refl _)
end Go.Proofs.YtbckbkcpfejllaaDoor
