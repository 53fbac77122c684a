/- A law's row, its last step: the call has returned true, and what lay is as it lay. -/
import Derived.Test.YtbckbkcpfejllaaDoorTie
import Derived.Test.YtbckbkcpfejllaaDoorCards
import Derived.WalkKit
import Derived.Below
import Derived.ProofKit
import Derived.OpenShut
import Derived.LaidMore
import Derived.Lay
import Derived.SevenTiedAt
import Derived.Stop.Joined
import Derived.Carry
namespace Go.Proofs.YtbckbkcpfejllaaDoor
open Go.ChangeShapes Go.WideShapes Go.ChangeAt Go.RowKit

theorem ownKnob_none : ownKnob Tryd.prog.godebug = none := by kernel_rfl
theorem law_post {H : Type} {enc : TypeId × Value → H} {P : Program} {f : Func} {s : ChangeSpec} {W W' : World} {args : Array Value} {v : Value} {ds gs : List (DataW H)} {before : List MemPlace}
    (hW : DataW.Whole enc P f.params.toList s.vars false W args.toList ds gs before)
    (hres : DataW.TrodAll enc P W' W.heap.size (fun _ => false) false f.resultTypes.toList (v.resultList f.resultTypes.size) (s.fn H (ds ++ gs)).results [])
    (hargs : DataW.TrodAll enc P W' 0 (fun b => decide (b < W.heap.size)) true f.params.toList args.toList (s.fn H (ds ++ gs)).args before)
    (hvars : DataW.TrodVars enc P W' (fun b => decide (b < W.heap.size)) s.vars (s.fn H (ds ++ gs)).vars [])
    (hb : Below W.heap.size W W') : s.post enc P f false true false false W args v W' :=
  ⟨ds, gs, before, [], before, [], hW, hres, hargs, hvars, World.keptBut_mono (fun _ hp => ⟨hp, Or.inr (Or.inl hp)⟩) (hb.frame (· ∈ before)), fun h => by cases h⟩
theorem laidOut : laidOutB Tryd.prog = true := by kernel_rfl
/-- All arguments read behind the call as they did. -/
theorem trodAll_below {H : Type} {enc : TypeId × Value → H} {W W' : World} (hb : Below W.heap.size W W') : ∀ {ts : List TypeId} {vs : List Value} {ds : List (DataW H)} {ps : List MemPlace},
    (∀ t ∈ ts, Tryd.prog.readableRec t = true ∧ t < Tryd.prog.types.size) → (∀ x ∈ ps, x.block < W.heap.size) → DataW.TrodAll enc Tryd.prog W 0 (fun _ => true) true ts vs ds ps → DataW.TrodAll enc Tryd.prog W' 0 (fun b => decide (b < W.heap.size)) true ts vs ds ps
  | [], vs, ds, ps, _, _, h => by
    cases vs with
    | nil => obtain ⟨_, rfl, rfl⟩ := trodAll_nil h; exact trodAll_mk0
    | cons v vs => exact absurd (trodAll_nil h).1 (by simp)
  | t :: ts, vs, ds, ps, hr, hlt, h => by
    obtain ⟨v, vs', d, ds', p, q, rfl, rfl, rfl, h0, h1⟩ := trodAll_cons h
    exact trodAll_cons_mk (Below.trod laidOut (hr t (by simp)).1 (hr t (by simp)).2 h0 hb (fun x hx => hlt x (by simp [hx]))) (trodAll_below hb (fun t ht => hr t (by simp [ht])) (fun x hx => hlt x (by simp [hx])) h1)
end Go.Proofs.YtbckbkcpfejllaaDoor
