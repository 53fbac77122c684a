/- ReclogOpens holds at every input: what is opened of any file, and what becomes of it, is as the document's answer says. No condition on the argument. -/
import Derived.Test.YtbckbkcpfejllaaDoorRp
import Derived.Test.YtbckbkcpfejllaaDoorOr
import Derived.Test.YtbckbkcpfejllaaDoorJo
import Derived.Test.YtbckbkcpfejllaaDoorOpeF
namespace Go.Proofs.YtbckbkcpfejllaaDoor
open Go.ChangeShapes Go.WideShapes Go.ChangeAt Go.RowKit Go.Deep

set_option maxRecDepth 100000 in
theorem opens_lifted (os : Os) (started : os.Started) (H : Type) (enc : TypeId × Value → H) :
    ReturnsInHanded {} Tryd.checked os 3 .any (fun w args => (Rows.reclogOpensSpec.pre enc Tryd.prog Tryd.f3 Rows.reclogOpensRow.domain false w args ∧ laidMetH Tryd.prog Rows.reclogOpensRow.laid w) ∧ sizedMet enc Tryd.prog Tryd.f3 (OpenSpec.ofChange Rows.reclogOpensSpec) false w args)
      (Rows.reclogOpensSpec.post enc Tryd.prog Tryd.f3 false true false false) := by
  refine returnsInHanded_of_change_and (C := Tryd.checked) (X := fun w _ => laidMetH Tryd.prog Rows.reclogOpensRow.laid w) (fun _ _ _ hh h => h.of_heap hh) ownKnob_none started (by as_aux_lemma => kernel_rfl) Tryd.func3
    (ChangeSpec.witness_shaped (enc := enc) (C := Tryd.checked) (os := os) (X := fun w _ => laidMetH Tryd.prog Rows.reclogOpensRow.laid w) false (World.laidAll Tryd.prog os Rows.reclogOpensRow.laid) #[.agg #[.slice none 0 0, .int .u8 0, .bool false, .bool false]] 8 (World.laidAll_os _ _ _)
      (World.shaped_of_ZipB (by as_aux_lemma => kernel_rfl) (by as_aux_lemma => kernel_rfl)) (by as_aux_lemma => kernel_rfl) (by as_aux_lemma => kernel_rfl) (by as_aux_lemma => kernel_rfl)
      (by rw [MakeChecks.laidMetH_plain _ _ _ (by as_aux_lemma => kernel_rfl)]; exact laidMet_laidAll _ (by as_aux_lemma => kernel_rfl) (by as_aux_lemma => kernel_rfl))) ?_
  intro W base args ds gs before hval0 hW _ _ _ _
  have hval : ∀ (j : Nat) t v, Tryd.f3.params[j]? = some t → args[j]? = some v → Value.okWide Tryd.prog W .any base t v := hval0
  have hW' := hW
  obtain ⟨p, q, hA0, hV, rfl, _, _⟩ := hW
  have hA : DataW.TrodAll enc Tryd.prog W 0 (fun _ => true) true Tryd.f3.params.toList args.toList ds p := hA0
  obtain ⟨rfl, rfl⟩ := trodVars_none hV
  rw [Tryd.params3] at hA hval
  obtain ⟨v0, vs0, d0, ds0, p0, q0, hargs, rfl, rfl, h0, r0⟩ := trodAll_cons hA
  obtain ⟨rfl, rfl, rfl⟩ := trodAll_nil r0
  obtain rfl : args = #[v0] := by cases args; simp_all
  have hback : ∀ W', Below W.heap.size W W' → DataW.TrodAll enc Tryd.prog W' 0 (fun b => decide (b < W.heap.size)) true [24] [v0] [d0] (p0 ++ ([]) ++ []) := fun W' hb => by
    have hall : ([24].all fun u => Tryd.prog.readableRec u && decide (u < Tryd.prog.types.size)) = true := by kernel_rfl
    rw [List.append_nil]
    exact trodAll_below hb (fun t ht => by simpa using List.all_eq_true.1 hall t ht) (fun x hx => by simpa using hW'.lt x (by simpa using hx)) hA
  have hv0 : ∃ cs, v0 = .agg cs := by
    have := hval 0 24 v0 rfl rfl
    simp only [Value.okWide, Tryd.underlying24] at this
    exact ⟨_, this.choose_spec.1⟩
  obtain ⟨cs0, rfl⟩ := hv0
  obtain ⟨_, hf0⟩ := h0
  obtain ⟨bv, b, k, there, spare, e0, hb, hk⟩ := rd_opened hf0
  obtain rfl : cs0 = #[bv, .int .u8 k, .bool there, .bool spare] := by have : cs0.toList = _ := e0; cases cs0; simp_all
  have hwalk := opens_at W hb (UInt8.ofNat k) there spare
  rw [show ((UInt8.ofNat k).toNat : Int) = (k : Int) by simp; omega] at hwalk
  refine hwalk.mono fun e W' ⟨he, hbe⟩ => ?_
  subst he
  exact ⟨_, rfl, law_post hW' (trodAll_cons_mk (shut_bool Tryd.underlying4 _) trodAll_mk0) (hback W' hbe) rfl hbe⟩

theorem opens_holds : Rows.ReclogOpensSaid :=
  OpenClaim.holds_of_wide 3 Tryd.f3 rfl rfl rfl rfl rfl rfl rfl ⟨rfl, rfl, rfl, rfl, rfl⟩ rfl rfl rfl rfl rfl (by as_aux_lemma => kernel_rfl) Tryd.func3 opens_closed
    (of_decide_eq_true (by as_aux_lemma => kernel_rfl)) (by unfold Func.isWrapper; first | (rw [if_pos (by decide +kernel)]; kernel_rfl) | (rw [if_neg (by decide +kernel)]; exact ⟨rfl, rfl⟩))
    (fun os started H enc _ => opens_lifted os started H enc)
theorem opens_card : Rows.ReclogOpensCardSaid :=
  Claim7.holds_tied_plain_at .later [] [.data, .pinned] true (true, "337fccfe727d82d6d03d3b97c45aa4983b5fe816d0963e5a6f0f34996c494079") true opens_holds (fun _ h => by cases h) (by as_aux_lemma => kernel_rfl) (fun _ h => by cases h) reclogOpens_row_tie rfl ⟨rfl, rfl⟩ (by as_aux_lemma => kernel_rfl) rfl
    (fun f fn hf hfn => by
      obtain rfl : f = 3 := Option.some.inj ((show Tryd.prog.funcNamed Rows.reclogOpensRow.func = some 3 by as_aux_lemma => kernel_rfl).symm.trans hf) |>.symm
      obtain rfl : fn = Tryd.f3 := (Option.some.inj (Tryd.func3.symm.trans hfn)).symm
      exact ⟨by as_aux_lemma => kernel_rfl, fun j t ht => by
        rw [Tryd.params3] at ht
        have hm : t ∈ [24] := by simpa using Array.mem_of_getElem? ht
        have hall : ([24].all fun u => !Tryd.prog.wantsStandIn u) = true := by kernel_rfl
        exact (show Tryd.prog.wantsStandIn t = false by simpa using List.all_eq_true.1 hall t hm)⟩)
    (by as_aux_lemma => kernel_rfl)
end Go.Proofs.YtbckbkcpfejllaaDoor
