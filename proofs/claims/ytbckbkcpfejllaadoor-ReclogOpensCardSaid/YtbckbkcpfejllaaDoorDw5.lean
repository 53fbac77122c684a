/- The walks of does and turns: a change of the directory. -/
import Derived.Test.YtbckbkcpfejllaaDoorDw4
namespace Go.Proofs.YtbckbkcpfejllaaDoor
open Go.RowKit Go.Maps Go.WideMaps

def Chg.val (c : Chg) : Value := .agg #[.string c.name, ptrV c.to, .string c.gone]
def Did (w : World) (b : Nat) (l : Dir) (e : Ending) (w' : World) : Prop :=
  e = .returned (.tuple #[]) ∧ MapP Tryd.prog 9 w' b l ∧ Keeps (fun k => k = b) w w'
theorem keeps_grown {w w' : World} {b : Nat} (o : Obj) (hg : (w.alloc o).grownBy w' (some b)) : Keeps (fun k => k = b) w w' :=
  ((Keeps.refl _ w).alloc o).grown hg (fun k hk _ => by cases hk; rfl)

set_option maxRecDepth 100000 in
theorem does_at {w : World} {b : Nat} {l : Dir} (h : MapP Tryd.prog 9 w b l) (c : Chg) (hn : c.name.size ≤ 1000000) (hg : c.gone.size ≤ 1000000) (ht : isE c.name = false → c.to.isSome) (hl : l.length ≤ 1000000) :
    Calls Tryd.prog 56 #[c.val, .map (some b)] w (Did w b (c.does l)) := by
  obtain ⟨name, to, gone⟩ := c
  simp only at hn hg ht
  have hb := h.lt
  have h0 : MapP Tryd.prog 9 (w.alloc (.cells #[.string name, ptrV to, .string gone] 93)) b l := h.keep (Below.heap_alloc _ _ _ hb)
  simp only [Chg.val]
  have hbox : ∀ w' : World, (w.alloc (.cells #[.string name, ptrV to, .string gone] 93)).grownBy w' (some b) → w'.heap[w.heap.size]? = some (.cells #[.string name, ptrV to, .string gone] 93 (0, 0)) := fun w' hg =>
    (hg.block w.heap.size (by simp) (by intro e; cases e; omega)).trans (heap_alloc_new w _)
  have hto : ∃ v, ptrV to = v ∧ v.oneCell' = true := ⟨_, rfl, by cases to <;> rfl⟩
  have hpt : to = none ∨ ∃ p, to = some p := by cases to <;> simp
  cases eg : isE gone <;> cases en : isE name
  · have ht' := ht en
    rcases hpt with rfl | ⟨p, rfl⟩
    · cases ht'
    obtain ⟨w1, hrun1, m1, g1, s1⟩ := h0.drop Tryd.underlying9 Tryd.underlying65 gone (by unfold maxLen; omega) 0
    have hb1 := hbox _ g1
    have hlen : (Dir.del l (bs gone)).length ≤ l.length := List.length_filter_le _ _
    obtain ⟨w2, hrun2, m2, g2, s2⟩ := m1.put Tryd.underlying9 Tryd.underlying65 (by unfold maxLen; omega) name (by unfold maxLen; omega) p
    have c0 : w1.cell? ⟨w.heap.size, 0, none⟩ = some (.string name) := by rw [cell_at hb1]; rfl
    have c1 : w1.cell? ⟨w.heap.size, 1, none⟩ = some (.pointer (some ⟨p, 0, none⟩)) := by rw [cell_at hb1]; rfl
    have hfin : Did w b (Chg.does ⟨name, some p, gone⟩ l) (.returned (.tuple #[])) w2 :=
      ⟨rfl, by simp only [Chg.does, eg, en]; exact m2, (keeps_grown _ g1).grown g2 (fun k hk _ => by cases hk; rfl)⟩
    have Hfin := Lib.hid hfin
    have eg1 : gone.toList.isEmpty = false := eg
    have en1 : name.toList.isEmpty = false := en
    simp only [ptrV_some] at hrun1 hrun2
    clear hfin h0 h ht ht' hbox hto eg en hb1 m1 m2 g1 g2 s1 s2
    go_enter Tryd.func56, Tryd.ntmps56
    go_wp2
    go_end0
    exact Hfin.out
  · obtain ⟨w1, hrun1, m1, g1, s1⟩ := h0.drop Tryd.underlying9 Tryd.underlying65 gone (by unfold maxLen; omega) 0
    have hb1 := hbox _ g1
    have c0 : w1.cell? ⟨w.heap.size, 0, none⟩ = some (.string name) := by rw [cell_at hb1]; rfl
    have hfin : Did w b (Chg.does ⟨name, to, gone⟩ l) (.returned (.tuple #[])) w1 :=
      ⟨rfl, by simp only [Chg.does, eg, en]; exact m1, keeps_grown _ g1⟩
    have Hfin := Lib.hid hfin
    have eg1 : gone.toList.isEmpty = false := eg
    have en1 : name.toList.isEmpty = true := en
    clear hfin h0 h ht hbox hto eg en hb1 m1 g1 s1
    rcases hpt with rfl | ⟨p, rfl⟩
    all_goals
      simp only [ptrV_some, ptrV_none] at hrun1
      go_enter Tryd.func56, Tryd.ntmps56
      go_wp2
      go_end0
      exact Hfin.out
  · have ht' := ht en
    rcases hpt with rfl | ⟨p, rfl⟩
    · cases ht'
    obtain ⟨w1, hrun1, m1, g1, s1⟩ := h0.put Tryd.underlying9 Tryd.underlying65 (by unfold maxLen; omega) name (by unfold maxLen; omega) p
    have hfin : Did w b (Chg.does ⟨name, some p, gone⟩ l) (.returned (.tuple #[])) w1 :=
      ⟨rfl, by simp only [Chg.does, eg, en]; exact m1, keeps_grown _ g1⟩
    have Hfin := Lib.hid hfin
    have eg1 : gone.toList.isEmpty = true := eg
    have en1 : name.toList.isEmpty = false := en
    simp only [ptrV_some] at hrun1
    clear hfin h0 h ht ht' hbox hto eg en m1 g1 s1
    go_enter Tryd.func56, Tryd.ntmps56
    go_wp2
    go_end0
    exact Hfin.out
  · have hfin : Did w b (Chg.does ⟨name, to, gone⟩ l) (.returned (.tuple #[])) (w.alloc (.cells #[.string name, ptrV to, .string gone] 93)) :=
      ⟨rfl, by simp only [Chg.does, eg, en, if_true]; exact h0, (Keeps.refl _ w).alloc _⟩
    have Hfin := Lib.hid hfin
    have eg1 : gone.toList.isEmpty = true := eg
    have en1 : name.toList.isEmpty = true := en
    clear hfin h0 h ht hbox hto eg en
    rcases hpt with rfl | ⟨p, rfl⟩
    all_goals
      go_enter Tryd.func56, Tryd.ntmps56
      go_wp2
      go_end0
      exact Hfin.out

end Go.Proofs.YtbckbkcpfejllaaDoor
