/- DiskRenames holds at every input: a file that is written beside, synced and renamed onto another one is there behind any crash as it was or as it is then. No condition on the argument. -/
import Derived.Test.YtbckbkcpfejllaaDoorLa4
import Derived.Test.YtbckbkcpfejllaaDoorAo
import Derived.Test.YtbckbkcpfejllaaDoorJo
import Derived.Test.YtbckbkcpfejllaaDoorRenF
namespace Go.Proofs.YtbckbkcpfejllaaDoor
open Go.ChangeShapes Go.WideShapes Go.ChangeAt Go.RowKit Go.Deep

set_option maxRecDepth 100000 in
theorem renames_lifted (os : Os) (started : os.Started) (H : Type) (enc : TypeId × Value → H) :
    ReturnsInHanded {} Tryd.checked os 6 .any (fun w args => (Rows.diskRenamesSpec.pre enc Tryd.prog Tryd.f6 Rows.diskRenamesRow.domain false w args ∧ laidMetH Tryd.prog Rows.diskRenamesRow.laid w) ∧ sizedMet enc Tryd.prog Tryd.f6 (OpenSpec.ofChange Rows.diskRenamesSpec) false w args)
      (Rows.diskRenamesSpec.post enc Tryd.prog Tryd.f6 false true false false) := by
  refine returnsInHanded_of_change_and (C := Tryd.checked) (X := fun w _ => laidMetH Tryd.prog Rows.diskRenamesRow.laid w) (fun _ _ _ hh h => h.of_heap hh) ownKnob_none started (by as_aux_lemma => kernel_rfl) Tryd.func6
    (ChangeSpec.witness_shaped (enc := enc) (C := Tryd.checked) (os := os) (X := fun w _ => laidMetH Tryd.prog Rows.diskRenamesRow.laid w) false (World.laidAll Tryd.prog os Rows.diskRenamesRow.laid) #[.agg #[.slice none 0 0, .slice none 0 0, .int .u8 0, .int .i64 0, .slice none 0 0]] 8 (World.laidAll_os _ _ _)
      (World.shaped_of_ZipB (by as_aux_lemma => kernel_rfl) (by as_aux_lemma => kernel_rfl)) (by as_aux_lemma => kernel_rfl) (by as_aux_lemma => kernel_rfl) (by as_aux_lemma => kernel_rfl)
      (by rw [MakeChecks.laidMetH_plain _ _ _ (by as_aux_lemma => kernel_rfl)]; exact laidMet_laidAll _ (by as_aux_lemma => kernel_rfl) (by as_aux_lemma => kernel_rfl))) ?_
  intro W base args ds gs before hval0 hW _ _ _ _
  have hval : ∀ (j : Nat) t v, Tryd.f6.params[j]? = some t → args[j]? = some v → Value.okWide Tryd.prog W .any base t v := hval0
  have hW' := hW
  obtain ⟨p, q, hA0, hV, rfl, _, _⟩ := hW
  have hA : DataW.TrodAll enc Tryd.prog W 0 (fun _ => true) true Tryd.f6.params.toList args.toList ds p := hA0
  obtain ⟨rfl, rfl⟩ := trodVars_none hV
  rw [Tryd.params6] at hA hval
  obtain ⟨v0, vs0, d0, ds0, p0, q0, hargs, rfl, rfl, h0, r0⟩ := trodAll_cons hA
  obtain ⟨rfl, rfl, rfl⟩ := trodAll_nil r0
  obtain rfl : args = #[v0] := by cases args; simp_all
  have hback : ∀ W', Below W.heap.size W W' → DataW.TrodAll enc Tryd.prog W' 0 (fun b => decide (b < W.heap.size)) true [60] [v0] [d0] (p0 ++ ([]) ++ []) := fun W' hb => by
    have hall : ([60].all fun u => Tryd.prog.readableRec u && decide (u < Tryd.prog.types.size)) = true := by kernel_rfl
    rw [List.append_nil]
    exact trodAll_below hb (fun t ht => by simpa using List.all_eq_true.1 hall t ht) (fun x hx => by simpa using hW'.lt x (by simpa using hx)) hA
  have hv0 : ∃ cs, v0 = .agg cs := by
    have := hval 0 60 v0 rfl rfl
    simp only [Value.okWide, Tryd.underlying60] at this
    exact ⟨_, this.choose_spec.1⟩
  obtain ⟨cs0, rfl⟩ := hv0
  obtain ⟨_, hf0⟩ := h0
  obtain ⟨wv, wb, tv, tb, arm, dir, kv, tails, e0, hw, ht, ha, hd, hk, hki⟩ := rd_renamed hf0
  obtain rfl : cs0 = #[wv, tv, .int .u8 arm, .int .i64 dir, kv] := by have : cs0.toList = _ := e0; cases cs0; simp_all
  have hwalk := renames_at W hw ht ha hd hk hki
  refine hwalk.mono fun e W' ⟨he, hbe⟩ => ?_
  subst he
  exact ⟨_, rfl, law_post hW' (trodAll_cons_mk (shut_bool Tryd.underlying4 _) trodAll_mk0) (hback W' hbe) rfl hbe⟩

theorem renames_holds : Rows.DiskRenamesSaid :=
  OpenClaim.holds_of_wide 6 Tryd.f6 rfl rfl rfl rfl rfl rfl rfl ⟨rfl, rfl, rfl, rfl, rfl⟩ rfl rfl rfl rfl rfl (by as_aux_lemma => kernel_rfl) Tryd.func6 renames_closed
    (of_decide_eq_true (by as_aux_lemma => kernel_rfl)) (by unfold Func.isWrapper; first | (rw [if_pos (by decide +kernel)]; kernel_rfl) | (rw [if_neg (by decide +kernel)]; exact ⟨rfl, rfl⟩))
    (fun os started H enc _ => renames_lifted os started H enc)
theorem renames_card : Rows.DiskRenamesCardSaid :=
  Claim7.holds_tied_plain_at .later [] [.data, .pinned] true (true, "337fccfe727d82d6d03d3b97c45aa4983b5fe816d0963e5a6f0f34996c494079") true renames_holds (fun _ h => by cases h) (by as_aux_lemma => kernel_rfl) (fun _ h => by cases h) diskRenames_row_tie rfl ⟨rfl, rfl⟩ (by as_aux_lemma => kernel_rfl) rfl
    (fun f fn hf hfn => by
      obtain rfl : f = 6 := Option.some.inj ((show Tryd.prog.funcNamed Rows.diskRenamesRow.func = some 6 by as_aux_lemma => kernel_rfl).symm.trans hf) |>.symm
      obtain rfl : fn = Tryd.f6 := (Option.some.inj (Tryd.func6.symm.trans hfn)).symm
      exact ⟨by as_aux_lemma => kernel_rfl, fun j t ht => by
        rw [Tryd.params6] at ht
        have hm : t ∈ [60] := by simpa using Array.mem_of_getElem? ht
        have hall : ([60].all fun u => !Tryd.prog.wantsStandIn u) = true := by kernel_rfl
        exact (show Tryd.prog.wantsStandIn t = false by simpa using List.all_eq_true.1 hall t hm)⟩)
    (by as_aux_lemma => kernel_rfl)
end Go.Proofs.YtbckbkcpfejllaaDoor
