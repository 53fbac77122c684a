/- ReclogSure holds at every input: behind any acts, crashes and openings a log has the first ones of its records, all that were sure. No condition on the argument. -/
import Derived.Test.YtbckbkcpfejllaaGreatDoorRe
import Derived.Test.YtbckbkcpfejllaaGreatDoorJo
import Derived.Test.YtbckbkcpfejllaaGreatDoorRsuF
namespace Go.Proofs.YtbckbkcpfejllaaGreatDoor
open Go.ChangeShapes Go.WideShapes Go.ChangeAt Go.RowKit Go.Deep

set_option maxRecDepth 100000 in
theorem rsure_lifted (os : Os) (started : os.Started) (H : Type) (enc : TypeId × Value → H) :
    ReturnsInHanded {} Tryz.checked os 8 .any (fun w args => (Rows.reclogSureSpec.pre enc Tryz.prog Tryz.f8 Rows.reclogSureRow.domain false w args ∧ laidMetH Tryz.prog Rows.reclogSureRow.laid w) ∧ sizedMet enc Tryz.prog Tryz.f8 (OpenSpec.ofChange Rows.reclogSureSpec) false w args)
      (Rows.reclogSureSpec.post enc Tryz.prog Tryz.f8 false true false false) := by
  refine returnsInHanded_of_change_and (C := Tryz.checked) (X := fun w _ => laidMetH Tryz.prog Rows.reclogSureRow.laid w) (fun _ _ _ hh h => h.of_heap hh) ownKnob_none started (by as_aux_lemma => kernel_rfl) Tryz.func8
    (ChangeSpec.witness_shaped (enc := enc) (C := Tryz.checked) (os := os) (X := fun w _ => laidMetH Tryz.prog Rows.reclogSureRow.laid w) false (World.laidAll Tryz.prog os Rows.reclogSureRow.laid) #[.slice none 0 0] 8 (World.laidAll_os _ _ _)
      (World.shaped_of_ZipB (by as_aux_lemma => kernel_rfl) (by as_aux_lemma => kernel_rfl)) (by as_aux_lemma => kernel_rfl) (by as_aux_lemma => kernel_rfl) (by as_aux_lemma => kernel_rfl)
      (by rw [MakeChecks.laidMetH_plain _ _ _ (by as_aux_lemma => kernel_rfl)]; exact laidMet_laidAll _ (by as_aux_lemma => kernel_rfl) (by as_aux_lemma => kernel_rfl))) ?_
  intro W base args ds gs before hval0 hW _ _ _ _
  have hval : ∀ (j : Nat) t v, Tryz.f8.params[j]? = some t → args[j]? = some v → Value.okWide Tryz.prog W .any base t v := hval0
  have hW' := hW
  obtain ⟨p, q, hA0, hV, rfl, _, _⟩ := hW
  have hA : DataW.TrodAll enc Tryz.prog W 0 (fun _ => true) true Tryz.f8.params.toList args.toList ds p := hA0
  obtain ⟨rfl, rfl⟩ := trodVars_none hV
  rw [Tryz.params8] at hA hval
  obtain ⟨v0, vs0, d0, ds0, p0, q0, hargs, rfl, rfl, h0, r0⟩ := trodAll_cons hA
  obtain ⟨rfl, rfl, rfl⟩ := trodAll_nil r0
  obtain rfl : args = #[v0] := by cases args; simp_all
  have hback : ∀ W', Below W.heap.size W W' → DataW.TrodAll enc Tryz.prog W' 0 (fun b => decide (b < W.heap.size)) true [65] [v0] [d0] (p0 ++ ([]) ++ []) := fun W' hb => by
    have hall : ([65].all fun u => Tryz.prog.readableRec u && decide (u < Tryz.prog.types.size)) = true := by kernel_rfl
    rw [List.append_nil]
    exact trodAll_below hb (fun t ht => by simpa using List.all_eq_true.1 hall t ht) (fun x hx => by simpa using hW'.lt x (by simpa using hx)) hA
  obtain ⟨_, _, _, hv0⟩ := okWide_slice Tryz.underlying65 (hval 0 65 v0 rfl rfl)
  obtain ⟨_, hf0⟩ := h0
  obtain ⟨v, l, e0, ha⟩ := rd_racts hf0
  obtain rfl : v0 = v := by rw [hv0] at e0 ⊢; simpa [Value.cells] using e0
  have hwalk := rsure_at W ha
  refine hwalk.mono fun e W' ⟨he, hbe⟩ => ?_
  subst he
  exact ⟨_, rfl, law_post hW' (trodAll_cons_mk (shut_bool Tryz.underlying4 _) trodAll_mk0) (hback W' hbe) rfl hbe⟩

theorem rsure_holds : Rows.ReclogSureSaid :=
  OpenClaim.holds_of_wide 8 Tryz.f8 rfl rfl rfl rfl rfl rfl rfl ⟨rfl, rfl, rfl, rfl, rfl⟩ rfl rfl rfl rfl rfl (by as_aux_lemma => kernel_rfl) Tryz.func8 rsure_closed
    (of_decide_eq_true (by as_aux_lemma => kernel_rfl)) (by unfold Func.isWrapper; first | (rw [if_pos (by decide +kernel)]; kernel_rfl) | (rw [if_neg (by decide +kernel)]; exact ⟨rfl, rfl⟩))
    (fun os started H enc _ => rsure_lifted os started H enc)
theorem rsure_card : Rows.ReclogSureCardSaid :=
  Claim7.holds_tied_plain_at .later [] [.data, .pinned] true (true, "74afe28eb566922dd56c786a868c7362e16c80cd67ad75b114c0f44fb834567e") true rsure_holds (fun _ h => by cases h) (by as_aux_lemma => kernel_rfl) (fun _ h => by cases h) reclogSure_row_tie rfl ⟨rfl, rfl⟩ (by as_aux_lemma => kernel_rfl) rfl
    (fun f fn hf hfn => by
      obtain rfl : f = 8 := Option.some.inj ((show Tryz.prog.funcNamed Rows.reclogSureRow.func = some 8 by as_aux_lemma => kernel_rfl).symm.trans hf) |>.symm
      obtain rfl : fn = Tryz.f8 := (Option.some.inj (Tryz.func8.symm.trans hfn)).symm
      exact ⟨by as_aux_lemma => kernel_rfl, fun j t ht => by
        rw [Tryz.params8] at ht
        have hm : t ∈ [65] := by simpa using Array.mem_of_getElem? ht
        have hall : ([65].all fun u => !Tryz.prog.wantsStandIn u) = true := by kernel_rfl
        exact (show Tryz.prog.wantsStandIn t = false by simpa using List.all_eq_true.1 hall t hm)⟩)
    (by as_aux_lemma => kernel_rfl)
end Go.Proofs.YtbckbkcpfejllaaGreatDoor
