/- reclog: deeds one behind the other, the first error ends them: the walk. -/
import Derived.Test.YtbckbkcpfejllaaDoorFs
namespace Go.Proofs.YtbckbkcpfejllaaDoor
open Go.RowKit Go.Maps Go.WideMaps

/-- A deed as a function's value: f with what it is bound to, or has captured. -/
def funV (x : Nat × Array Value × Array Value) : Value := .func (.func x.1) x.2.1 x.2.2
set_option maxRecDepth 100000 in
theorem all_at {w : World} {v : Value} {fs : List (Nat × Array Value × Array Value)} (hv : Lst w v (fs.map funV)) (hl : fs.length ≤ 100)
    (eg : ∀ x ∈ fs, ∀ args w, (callFunc x.1 args).run Tryd.prog w = .ok (.enter x.1 args) w)
    (S : Nat → World → Prop) (Q : Int → World → Prop) (h0 : S 0 w) (hS : ∀ j w', S j w' → Lst w' v (fs.map funV))
    (hstep : ∀ j (hj : j < fs.length) w', S j w' → Calls Tryd.prog fs[j].1 (fs[j].2.1 ++ fs[j].2.2) w' fun e w'' => ∃ c : Int, e = .returned (.int .i64 c) ∧ (c = 0 → S (j + 1) w'') ∧ (c ≠ 0 → Q c w''))
    (hend : ∀ w', S fs.length w' → Q 0 w') :
    Calls Tryd.prog 43 #[v] w fun e w' => ∃ c : Int, e = .returned (.int .i64 c) ∧ Q c w' := by
  obtain ⟨va, vc, rfl⟩ : ∃ x y, v = .slice x fs.length y := by obtain ⟨x, y, e, _⟩ := hv; exact ⟨x, y, by rw [e, List.length_map]⟩
  obtain ⟨n, hn⟩ : ∃ n, fs.length = n := ⟨_, rfl⟩
  rw [hn] at hl hS hend ⊢
  have Hn := Lib.hid hn
  have H0 := Lib.hid h0
  have HS := Lib.hid hS
  have Hst := Lib.hid hstep
  have He := Lib.hid hend
  have Hg := Lib.hid eg
  clear hv hn h0 hS hstep hend eg
  go_enter Tryd.func43, Tryd.ntmps43
  go_wp2_with fail
  go_loopw [8] (fun i wr => ∃ j : Nat, j ≤ n ∧ i = .int .i64 j ∧ S j wr) (fun i _ => n - (intOf i).toNat)
  case atStart => exact ⟨0, Nat.zero_le _, rfl, H0.out⟩
  case round =>
    obtain ⟨j, hj, rfl, hs⟩ := hrel
    by_cases hlt : j < n
    · have hjl : j < fs.length := by rw [Hn.out]; exact hlt
      obtain ⟨a0, _, e0, _, _, hc⟩ := HS.out j wr hs
      injection e0 with e1 e2 e3
      subst e1 e3
      clear e2
      obtain ⟨ab, ao, rfl, hcell⟩ := hc j (by rw [List.length_map]; exact hjl)
      rw [List.getElem_map] at hcell
      have hst := Hst.out j hjl wr hs
      have hg := Hg.out _ (List.getElem_mem hjl)
      obtain ⟨⟨f, bd, cp⟩, hfe⟩ : ∃ x, fs[j] = x := ⟨_, rfl⟩
      rw [hfe] at hcell hst hg
      simp only [funV] at hcell
      have Hst1 := Lib.hid hst
      clear hfe hst hc hs
      go_wp2_with fail
      refine Hst1.out.mono ?_
      rintro e0 w2 ⟨c, rfl, hc0, hc1⟩
      by_cases hz : c = 0
      · have H2 := Lib.hid (hc0 hz)
        subst hz
        clear hc0 hc1
        go_wp2_with fail
        go_roundw
        case rel => exact ⟨j + 1, by omega, by go_num, H2.out⟩
        case measure => simp [intOf]; omega
      · have H2 := Lib.hid (hc1 hz)
        have g : (c == 0) = false := by simpa using hz
        clear hc0 hc1
        go_wp2_with fail
        go_ret
        exact ⟨c, rfl, H2.out⟩
    · obtain rfl : j = n := by omega
      have H2 := Lib.hid (He.out wr hs)
      clear hs
      go_wp2_with fail
      go_ret
      exact ⟨0, rfl, H2.out⟩
end Go.Proofs.YtbckbkcpfejllaaDoor
