/- ReclogSpare holds at every input: a spare file that a crash left is gone behind the next opening; the log is as it was. No condition on the arguments. -/
import Derived.Test.YtbckbkcpfejllaaGreatDoorRc
import Derived.Test.YtbckbkcpfejllaaGreatDoorAr
import Derived.Test.YtbckbkcpfejllaaGreatDoorJo
import Derived.Test.YtbckbkcpfejllaaGreatDoorSpaF
namespace Go.Proofs.YtbckbkcpfejllaaGreatDoor
open Go.ChangeShapes Go.WideShapes Go.ChangeAt Go.RowKit Go.Deep

set_option maxRecDepth 100000 in
theorem spare_lifted (os : Os) (started : os.Started) (H : Type) (enc : TypeId × Value → H) :
    ReturnsInHanded {} Tryz.checked os 6 .any (fun w args => (Rows.reclogSpareSpec.pre enc Tryz.prog Tryz.f6 Rows.reclogSpareRow.domain false w args ∧ laidMetH Tryz.prog Rows.reclogSpareRow.laid w) ∧ sizedMet enc Tryz.prog Tryz.f6 (OpenSpec.ofChange Rows.reclogSpareSpec) false w args)
      (Rows.reclogSpareSpec.post enc Tryz.prog Tryz.f6 false true false false) := by
  refine returnsInHanded_of_change_and (C := Tryz.checked) (X := fun w _ => laidMetH Tryz.prog Rows.reclogSpareRow.laid w) (fun _ _ _ hh h => h.of_heap hh) ownKnob_none started (by as_aux_lemma => kernel_rfl) Tryz.func6
    (ChangeSpec.witness_shaped (enc := enc) (C := Tryz.checked) (os := os) (X := fun w _ => laidMetH Tryz.prog Rows.reclogSpareRow.laid w) false (World.laidAll Tryz.prog os Rows.reclogSpareRow.laid) #[.slice none 0 0, .slice none 0 0, .int .u8 0] 8 (World.laidAll_os _ _ _)
      (World.shaped_of_ZipB (by as_aux_lemma => kernel_rfl) (by as_aux_lemma => kernel_rfl)) (by as_aux_lemma => kernel_rfl) (by as_aux_lemma => kernel_rfl) (by as_aux_lemma => kernel_rfl)
      (by rw [MakeChecks.laidMetH_plain _ _ _ (by as_aux_lemma => kernel_rfl)]; exact laidMet_laidAll _ (by as_aux_lemma => kernel_rfl) (by as_aux_lemma => kernel_rfl))) ?_
  intro W base args ds gs before hval0 hW _ _ _ _
  have hval : ∀ (j : Nat) t v, Tryz.f6.params[j]? = some t → args[j]? = some v → Value.okWide Tryz.prog W .any base t v := hval0
  have hW' := hW
  obtain ⟨p, q, hA0, hV, rfl, _, _⟩ := hW
  have hA : DataW.TrodAll enc Tryz.prog W 0 (fun _ => true) true Tryz.f6.params.toList args.toList ds p := hA0
  obtain ⟨rfl, rfl⟩ := trodVars_none hV
  rw [Tryz.params6] at hA hval
  obtain ⟨v0, vs0, d0, ds0, p0, q0, hargs, rfl, rfl, h0, r0⟩ := trodAll_cons hA
  obtain ⟨v1, vs1, d1, ds1, p1, q1, rfl, rfl, rfl, h1, r1⟩ := trodAll_cons r0
  obtain ⟨v2, vs2, d2, ds2, p2, q2, rfl, rfl, rfl, h2, r2⟩ := trodAll_cons r1
  obtain ⟨rfl, rfl, rfl⟩ := trodAll_nil r2
  obtain rfl : args = #[v0, v1, v2] := by cases args; simp_all
  have hback : ∀ W', Below W.heap.size W W' → DataW.TrodAll enc Tryz.prog W' 0 (fun b => decide (b < W.heap.size)) true [53, 23, 5] [v0, v1, v2] [d0, d1, d2] (p0 ++ (p1 ++ (p2 ++ ([]))) ++ []) := fun W' hb => by
    have hall : ([53, 23, 5].all fun u => Tryz.prog.readableRec u && decide (u < Tryz.prog.types.size)) = true := by kernel_rfl
    rw [List.append_nil]
    exact trodAll_below hb (fun t ht => by simpa using List.all_eq_true.1 hall t ht) (fun x hx => by simpa using hW'.lt x (by simpa using hx)) hA
  obtain ⟨sa, sl, sc, rfl⟩ := okWide_slice Tryz.underlying53 (hval 0 53 v0 rfl rfl)
  obtain ⟨ta, tl, tc, rfl⟩ := okWide_slice Tryz.underlying23 (hval 1 23 v1 rfl rfl)
  obtain ⟨a2, rfl, rfl, rfl, w2⟩ := open_int Tryz.underlying5 (hval 2 5 v2 rfl rfl) h2
  have x2 := wf_u8 w2
  obtain ⟨n2, rfl⟩ : ∃ n : Nat, a2 = n := ⟨a2.toNat, by omega⟩
  obtain ⟨_, hf0⟩ := h0
  obtain ⟨_, hf1⟩ := h1
  obtain ⟨va, la, hca, hra⟩ := rd_recs hf0
  obtain ⟨vb, lb, hcb, hrb⟩ := rd_bytes hf1
  obtain rfl : Value.slice sa sl sc = va := by simpa [Value.cells] using hca
  obtain rfl : Value.slice ta tl tc = vb := by simpa [Value.cells] using hcb
  have hwalk := spare_at W hra hrb n2 (by omega)
  refine hwalk.mono fun e W' ⟨he, hbe⟩ => ?_
  subst he
  exact ⟨_, rfl, law_post hW' (trodAll_cons_mk (shut_bool Tryz.underlying4 _) trodAll_mk0) (hback W' hbe) rfl hbe⟩

theorem spare_holds : Rows.ReclogSpareSaid :=
  OpenClaim.holds_of_wide 6 Tryz.f6 rfl rfl rfl rfl rfl rfl rfl ⟨rfl, rfl, rfl, rfl, rfl⟩ rfl rfl rfl rfl rfl (by as_aux_lemma => kernel_rfl) Tryz.func6 spare_closed
    (of_decide_eq_true (by as_aux_lemma => kernel_rfl)) (by unfold Func.isWrapper; first | (rw [if_pos (by decide +kernel)]; kernel_rfl) | (rw [if_neg (by decide +kernel)]; exact ⟨rfl, rfl⟩))
    (fun os started H enc _ => spare_lifted os started H enc)
theorem spare_card : Rows.ReclogSpareCardSaid :=
  Claim7.holds_tied_plain_at .later [] [.data, .pinned] true (true, "74afe28eb566922dd56c786a868c7362e16c80cd67ad75b114c0f44fb834567e") true spare_holds (fun _ h => by cases h) (by as_aux_lemma => kernel_rfl) (fun _ h => by cases h) reclogSpare_row_tie rfl ⟨rfl, rfl⟩ (by as_aux_lemma => kernel_rfl) rfl
    (fun f fn hf hfn => by
      obtain rfl : f = 6 := Option.some.inj ((show Tryz.prog.funcNamed Rows.reclogSpareRow.func = some 6 by as_aux_lemma => kernel_rfl).symm.trans hf) |>.symm
      obtain rfl : fn = Tryz.f6 := (Option.some.inj (Tryz.func6.symm.trans hfn)).symm
      exact ⟨by as_aux_lemma => kernel_rfl, fun j t ht => by
        rw [Tryz.params6] at ht
        have hm : t ∈ [53, 23, 5] := by simpa using Array.mem_of_getElem? ht
        have hall : ([53, 23, 5].all fun u => !Tryz.prog.wantsStandIn u) = true := by kernel_rfl
        exact (show Tryz.prog.wantsStandIn t = false by simpa using List.all_eq_true.1 hall t hm)⟩)
    (by as_aux_lemma => kernel_rfl)
end Go.Proofs.YtbckbkcpfejllaaGreatDoor
