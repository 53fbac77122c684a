/- ReclogSure: what was synced is there, in order: the walk. -/
import Derived.Test.YtbckbkcpfejllaaGreatDoorRd
namespace Go.Proofs.YtbckbkcpfejllaaGreatDoor
open Go.RowKit Go.Maps Go.WideMaps

/-- What holds at the head of each round. -/
def Sq (w0 : World) (d k p s : Nat) (av ov : Value) (mb : Bool) (w : World) : Prop :=
  ∃ (D : PD) (A O : List Bs) (G : Nat → Prop), Lgd w0 d p nL 7 G w D (4 + 20 * k) ∧ RecG (fun q => G q ∧ w0.heap.size ≤ q) w av A ∧ (mb = true → RecG (fun q => G q ∧ w0.heap.size ≤ q) w ov O ∧ Small O ∧ LM D A s O ∧ D.down = true ∧ O.length ≤ k) ∧ (mb = false → LS D A s) ∧ Few nLN D ∧ s ≤ A.length ∧ A.length ≤ k ∧ Small A
theorem Lst.take {w : World} {a : Option Addr} {n c : Nat} {vs : List Value} (h : Lst w (.slice a n c) vs) {m : Nat} (hm : m ≤ vs.length) : Lst w (.slice a m c) (vs.take m) := by
  obtain ⟨a', c', e, h1, h2, h3⟩ := h
  obtain ⟨rfl, rfl, rfl⟩ := Value.slice.inj e
  have hl : (vs.take m).length = m := by rw [List.length_take]; omega
  refine ⟨a, c, by rw [hl], by omega, h2, fun j hj => ?_⟩
  obtain ⟨b, o, e1, e2⟩ := h3 j (by omega)
  exact ⟨b, o, e1, by rw [e2, List.getElem_take]⟩
theorem bin_low {w w' : World} {v : Value} {xs : Bs} {N : Nat} (h : Bin w v xs) (hN : xs ≠ [] → ∀ q, v.ownBlock = some q → q < N) (hw : ∀ q, q < N → w'.heap[q]? = w.heap[q]?) : Bin w' v xs := by
  obtain ⟨a, cap, rfl, h1, h2, h3⟩ := h
  refine ⟨a, cap, rfl, h1, h2, fun j hj => ?_⟩
  obtain ⟨b, o, rfl, e⟩ := h3 j hj
  refine ⟨b, o, rfl, ?_⟩
  have hb := hw b (hN (fun h => by rw [h] at hj; cases hj) b rfl)
  unfold World.cell? at e ⊢
  rw [hb]
  exact e
theorem Sq.any {w0 : World} {d k p s : Nat} {av ov : Value} {w : World} (h : Sq w0 d k p s av ov false w) (ov' : Value) : Sq w0 d k p s av ov' false w := by
  obtain ⟨D, A, O, G, h1, h2, _, h4⟩ := h
  exact ⟨D, A, O, G, h1, h2, (fun e => by cases e), h4⟩
theorem ob_next {D : PD} {A O : List Bs} {s k : Nat} (h : Small O ∧ LM D A s O ∧ D.down = true ∧ O.length ≤ k) : Small O ∧ LM D A s O ∧ D.down = true ∧ O.length ≤ k + 1 := ⟨h.1, h.2.1, h.2.2.1, Nat.le_succ_of_le h.2.2.2⟩
theorem Lgd.more {w0 w : World} {d p k m : Nat} {name : ByteArray} {kind : UInt8} {G : Nat → Prop} {D : PD} (h : Lgd w0 d p name kind G w D k) (hm : k ≤ m) : Lgd w0 d p name kind G w D m := ⟨h.has.more hm, h.low, h.gp, h.log, h.below⟩
theorem RecG.on {G : Nat → Prop} {w w' : World} {v : Value} {l : List Bs} (h : RecG G w v l) (_hlt : ∀ q, G q → q < w.heap.size) (hb : Below w.heap.size w w') : RecG G w' v l :=
  h.kept ((Keeps.of_below hb).mono fun _ _ h => h.elim)
theorem RecG.did {G H : Nat → Prop} {w w' : World} {v : Value} {l : List Bs} (h : RecG H w v l) (hk : Keeps (fun b => ¬ G b) w w') (hH : ∀ q, H q → G q) : RecG H w' v l := h.kept (hk.mono fun b _ hn hF => hn (hH b hF))
theorem row_log {w : World} {v : Value} {n p d : Nat} {cs : List Value} {name : ByteArray} {kind : UInt8} (h : Row w 23 1 v n cs) (hp : LogAt w p d name kind) : v.ownBlock ≠ some p := by
  rcases h.2 with ⟨rfl, _⟩ | ⟨g, cap, cur, rfl, h1, _⟩
  · intro h; cases h
  · intro h
    obtain rfl : g = p := Option.some.inj h
    rw [hp] at h1
    have := (Obj.cells.inj (Option.some.inj h1)).2.1
    exact absurd this (by decide)
/-- Blocks of G that lie behind the walk's beginning, and none of the log's, are turned; new ones are laid. -/
theorem Lgd.grow {w0 w w' : World} {d p k : Nat} {name : ByteArray} {kind : UInt8} {G S : Nat → Prop} {D : PD} (h : Lgd w0 d p name kind G w D k) (hk : Keeps S w w') (hS : ∀ q, S q → G q ∧ w0.heap.size ≤ q ∧ q ≠ p) : Lgd w0 d p name kind (fun b => G b ∨ (w.heap.size ≤ b ∧ b < w'.heap.size)) w' D k :=
  ⟨h.has.grow (hk.mono fun q _ hq => (hS q hq).1), fun b hb => Or.inl (h.low b hb), Or.inl h.gp, hk.heap h.log fun hp => (hS p hp).2.2 rfl, h.below.trans (hk.below h.below.size fun b hb hs => by have := (hS b hs).2.1; omega)⟩
set_option maxRecDepth 100000 in
set_option maxHeartbeats 4000000 in
theorem rsure_at (w : World) {v : Value} {l : List RAct} (h : RActs w v l) :
    Calls Tryz.prog 8 #[v] w fun e w' => e = .returned (.bool true) ∧ Below w.heap.size w w' := by
  obtain ⟨xa, xc, rfl, hcap, hj⟩ := h
  by_cases h60 : 60 < l.length
  · clear hj
    go_enter Tryz.func8, Tryz.ntmps8
    go_wp2_with fail
    go_ret
    exact ⟨rfl, Below.refl _ w⟩
  have HJ := Lib.hid hj
  clear hj
  go_enter Tryz.func8, Tryz.ntmps8
  go_wp2_with fail
  refine (has_new 16777216 (by omega) (by omega) w).mono ?_
  rintro e0 w3 ⟨rfl, h3, hb3⟩
  obtain ⟨d, hd⟩ : ∃ d, w.heap.size + 2 = d := ⟨_, rfl⟩
  rw [hd] at h3 ⊢
  have H3 := Lib.hid h3
  have Hb3 := Lib.hid hb3
  clear h3 hb3 hd
  go_wp2_with fail
  refine (log_open H3.out (by omega) nL (by decide) 7).mono ?_
  rintro e0 w4 ⟨c, q, pv, v', G, rfl, hq, hc, h4, hG, hk4, _, hok⟩
  rw [spare_nL] at hq hc h4 hok
  obtain ⟨D4, e4, hu4, hg4⟩ := logU_new (N := nLN) (k := 7) (spare := nN) isE_nL ne_nL right_nL ms_nL 16777216 (by decide) q
  rw [e4] at hc h4
  obtain rfl : c = 0 := hc
  obtain ⟨p, rfl, _, hp4, hGp, hrg, _⟩ := hok rfl
  rw [hg4] at hrg
  obtain ⟨ga, gc, rfl⟩ : ∃ a c, v' = .slice a 0 c := by obtain ⟨vs, r1, _⟩ := hrg; exact r1.slv
  have H4 := Lib.hid (show Sq w d 0 p 0 (.slice none 0 0) (.slice none 0 0) false w4 from
    ⟨D4, [], [], G, ⟨h4, hG, hGp, hp4, below_kept Hb3.out (Nat.le_refl _) hk4 fun b hb => hb⟩, ⟨[], Row.nil _ _ _, rfl, fun j h => absurd h (by simp), fun q h => by cases h⟩, (fun h => by cases h), fun _ => hu4.st, hu4.few, Nat.le_refl _, Nat.le_refl _, ⟨by simp, by simp⟩⟩)
  clear hq h4 hG hk4 hok hp4 hGp e4 hu4 hg4 hrg
  go_wp2_with fail
  obtain ⟨n, hn⟩ : ∃ n, l.length = n := ⟨_, rfl⟩
  rw [hn] at hcap h60 ⊢
  have Hn := Lib.hid hn
  clear hn
  go_loopw [5, 8, 9, 10, 11, 12] (fun gv av sv ov mv iv wr => ∃ (k p s : Nat) (mb : Bool), k ≤ n ∧ gv = .pointer (some ⟨p, 0, none⟩) ∧ sv = .int .i64 s ∧ mv = .bool mb ∧ iv = .int .i64 k ∧ Sq w d k p s av ov mb wr) (fun _ _ _ _ _ iv _ => n - (intOf iv).toNat)
  case atStart => exact ⟨0, p, 0, false, Nat.zero_le _, rfl, rfl, rfl, rfl, H4.out⟩
  case round =>
    clear H4
    obtain ⟨k, p, s, mb, hkn, rfl, rfl, rfl, rfl, hsq⟩ := hrel
    have HQ := Lib.hid hsq
    clear hsq
    by_cases hlt : k < n
    · have hkl : k < l.length := by rw [Hn.out]; exact hlt
      obtain ⟨ab, ao, xbv, xtv, rfl, hx⟩ := HJ.out k hkl
      obtain ⟨x, hxe⟩ : ∃ x, l[k] = x := ⟨_, rfl⟩
      rw [hxe] at hx
      have hbw : Below w.heap.size w wr := by obtain ⟨_, _, _, _, h1, _⟩ := HQ.out; exact h1.below
      have hxb : x.b ≠ [] → ∀ q, xbv.ownBlock = some q → q < w.heap.size := fun hne q hq => hx.bin.lt hne q hq
      have hxt : x.tails ≠ [] → ∀ q, xtv.ownBlock = some q → q < w.heap.size := fun hne q hq => hx.lst.lt (fun e => hne (List.map_eq_nil_iff.1 e)) q hq
      have hx := hx.below hbw (Nat.le_refl _)
      obtain ⟨c0, c1, c2, c3, xbin, xlst, xok⟩ := hx
      obtain ⟨xba, xbc, rfl⟩ : ∃ a c, xbv = .slice a x.b.length c := by obtain ⟨a, c, e, _⟩ := xbin; exact ⟨a, c, e⟩
      obtain ⟨xta, xtc, rfl⟩ : ∃ a c, xtv = .slice a x.tails.length c := by obtain ⟨a, c, e, _⟩ := xlst; rw [List.length_map] at e; exact ⟨a, c, e⟩
      have HX := Lib.hid (And.intro xbin (And.intro xlst (And.intro xok (And.intro hxb hxt))))
      obtain ⟨D, A, O, G, g1, ⟨vs, r1, r2, r3, r4⟩, g3, g4, g5, g6, g7, g8⟩ := HQ.out
      obtain ⟨ra, rc, rfl⟩ := r1.slv
      have hrc : A.length ≤ rc := by
        rcases r1.2 with ⟨e, e0⟩ | ⟨g, cap, cur, e, h1, h2, _⟩
        · omega
        · obtain ⟨_, _, rfl⟩ := Value.slice.inj e
          exact h2
      have HD := Lib.hid (And.intro g1 (And.intro g3 (And.intro g4 (And.intro g5 g8))))
      have HR := Lib.hid (And.intro r1 (And.intro r2 (And.intro r3 r4)))
      clear xbin xlst xok hxe hbw hxb hxt g1 g3 g4 g5 g8 r1 r2 r3 r4 HQ
      have hA60 : A.length ≤ 60 := HD.out.2.2.2.2.1
      obtain ⟨wb, hwb⟩ : ∃ wb : World, wr.alloc (.cells #[.int .i64 x.what, .int .i64 x.n, .slice xba x.b.length xbc, .slice xta x.tails.length xtc] 67) = wb := ⟨_, rfl⟩
      have hbb : Below wr.heap.size wr wb := by rw [← hwb]; exact (Below.refl _ wr).alloc (Nat.le_refl _) _
      obtain ⟨G1, hG1⟩ : ∃ G1 : Nat → Prop, G1 = fun b => G b ∨ (wr.heap.size ≤ b ∧ b < wb.heap.size) := ⟨_, rfl⟩
      have hxw : wb.heap[wr.heap.size]? = some (.cells #[.int .i64 x.what, .int .i64 x.n, .slice xba x.b.length xbc, .slice xta x.tails.length xtc] 67 (0, 0)) := by rw [← hwb]; exact heap_alloc_new wr _
      have HB := Lib.hid (show Below wr.heap.size wr wb ∧ Lgd w d p nL 7 G1 wb D (4 + 20 * k) ∧ RecG (fun q => G1 q ∧ w.heap.size ≤ q) wb (.slice ra A.length rc) A ∧ (mb = true → RecG (fun q => G1 q ∧ w.heap.size ≤ q) wb u10 O) ∧ wb.heap[wr.heap.size]? = some (.cells #[.int .i64 x.what, .int .i64 x.n, .slice xba x.b.length xbc, .slice xta x.tails.length xtc] 67 (0, 0)) ∧ G1 wr.heap.size from
        ⟨hbb, by rw [hG1]; exact HD.out.1.wide hbb, ((show RecG (fun q => G q ∧ w.heap.size ≤ q) wr (.slice ra A.length rc) A from ⟨vs, HR.out⟩).on (fun q hq => HD.out.1.has.lt hq.1) hbb).mono fun q hq => ⟨by rw [hG1]; exact Or.inl hq.1, hq.2⟩,
          fun e => ((HD.out.2.1 e).1.on (fun q hq => HD.out.1.has.lt hq.1) hbb).mono fun q hq => ⟨by rw [hG1]; exact Or.inl hq.1, hq.2⟩, hxw, by rw [hG1]; exact Or.inr ⟨Nat.le_refl _, lt_of_heap hxw⟩⟩)
      have HW := Lib.hid hwb
      clear hbb hwb hxw hG1
      by_cases h5 : 500 < x.b.length
      · go_wp2_with fail
        go_ret
        exact ⟨rfl, HD.out.1.below.alloc HD.out.1.below.size _⟩
      by_cases h20 : 20 < x.tails.length
      · go_wp2_with fail
        go_ret
        exact ⟨rfl, HD.out.1.below.alloc HD.out.1.below.size _⟩
      obtain ⟨ch, hch5, hch⟩ := tmod6 x.what
      obtain rfl | rfl | rfl | rfl | h34 : ch = 0 ∨ ch = 1 ∨ ch = 2 ∨ ch = 5 ∨ (ch = 3 ∨ ch = 4) := by omega
      · cases mb with
        | true =>
          go_wp2_with fail
          rw [HW.out]
          have H6 := Lib.hid (show Sq w d (k + 1) p s (.slice ra A.length rc) _ true wb from
            ⟨D, A, O, G1, HB.out.2.1.more (by omega), HB.out.2.2.1, fun e => ⟨HB.out.2.2.2.1 e, ob_next (HD.out.2.1 e).2⟩, HD.out.2.2.1, HD.out.2.2.2.1, g6, by omega, HD.out.2.2.2.2⟩)
          go_roundw
          case rel => exact ⟨k + 1, p, s, true, by omega, rfl, rfl, rfl, by go_num, H6.out⟩
          case measure => simp [intOf]; omega
        | false =>
          obtain ⟨i0, hi, hz0, hz1, hz2⟩ := info_parts info_u8
          have HI := Lib.hid (And.intro hi (And.intro hz0 (And.intro hz1 hz2)))
          clear hi hz0 hz1 hz2
          obtain ⟨i1, hi, hz0, hz1, hz2⟩ := info_parts info_sl
          have HI1 := Lib.hid (And.intro hi (And.intro hz0 (And.intro hz1 hz2)))
          clear hi hz0 hz1 hz2
          go_wp2_with fail
          rw [HW.out]
          refine (log_append (R := fun c D' => (c = 0 ∧ LS D' (A ++ [x.b]) s ∧ Few nLN D') ∨ (c = 8 ∧ LS D' A s ∧ Few nLN D')) HB.out.2.1.has (by omega) HB.out.2.1.log (by decide) (HX.out.1.keep fun q _ hq => HB.out.1.block q hq) (by omega) (fun q _ => su_append (HD.out.2.2.1 (by simp)) HD.out.2.2.2.1 HD.out.2.2.2.2 HB.out.2.1.has (by omega) x.b (by omega) q)).mono ?_
          rintro e w6 ⟨c, D6, rfl, hr6, h6, hk6⟩
          have hl6 := HB.out.2.1.did h6 hk6
          have hr6' : RecG (fun q => G1 q ∧ w.heap.size ≤ q) w6 (.slice ra A.length rc) A := HB.out.2.2.1.did hk6 fun q hq => hq.1
          rcases hr6 with ⟨rfl, hs6, hf6⟩ | ⟨rfl, hs6, hf6⟩
          · obtain ⟨us, u1, u2, u3, u4⟩ := hr6'
            have hrf : ∀ w7, Keeps (fun b => (Value.slice (some ⟨w6.heap.size, 0, none⟩) 0 0).ownBlock = some b) (w6.alloc (.cells #[] 5)) w7 → ∀ o, Row (w7.alloc o) 23 1 (.slice ra A.length rc) A.length us := fun w7 hk o => u1.keep fun q hq => by
              have hq6 : q < w6.heap.size := u1.lt q hq
              have hz := hk.size
              simp at hz
              rw [Below.heap_alloc _ _ _ (by omega), hk.block q (by simp; omega) (fun h => by have : w6.heap.size = q := Option.some.inj h; omega), Below.heap_alloc _ _ _ hq6]
            have hbx : Bin (w6.alloc (.cells #[] 5)) (.slice xba x.b.length xbc) x.b := (bin_low HX.out.1 HX.out.2.2.2.1 fun q hq => (hk6.block q (by have := HB.out.1.size; have := HB.out.2.1.below.size; omega) fun hn => hn (hl6.low q hq)).trans (HB.out.1.block q (by have := HD.out.1.below.size; omega))).alloc _
            have hx6 : (w6.alloc (.cells #[] 5)).heap[wr.heap.size]? = some (.cells #[.int .i64 x.what, .int .i64 x.n, .slice xba x.b.length xbc, .slice xta x.tails.length xtc] 67 (0, 0)) := heap_alloc_of (hk6.heap HB.out.2.2.2.2.1 fun hn => hn HB.out.2.2.2.2.2) _
            have z2 : (w6.alloc (.cells #[] 5)).cell? ⟨wr.heap.size, 2, none⟩ = some (.slice xba x.b.length xbc) := (cell_at hx6).trans rfl
            clear hx6
            have H6 := Lib.hid (And.intro hl6 (And.intro hs6 (And.intro hf6 (And.intro hrf (And.intro hbx (And.intro u1 (And.intro u2 (And.intro u3 u4))))))))
            clear hl6 hs6 hf6 hrf hbx h6 hk6 u1 u2 u3 u4
            go_wp2_with (first
              | (at_builtin; refine wpList_append_row _ rfl _ _ 23 23 rfl rfl _ rfl (Row.fresh0 w6 5 1) (by decide) i0 (.int .u8 0) 1 Tryz.underlying23 HI.out.1 HI.out.2.1 HI.out.2.2.1 HI.out.2.2.2 rfl x.b.length _ (H6.out.2.2.2.2.1.src Tryz.underlying23) (by unfold maxLen; omega) (by omega) ?_; intro b7 c7 w7 hr7 hk7 hw7 hn7 hz7; simp only [Nat.zero_add, List.nil_append] at hr7 hw7 ⊢; have H7 := Lib.hid (And.intro hr7 (And.intro hk7 hw7)); clear hr7 hk7 hw7 hn7 hz7)
              | (at_builtin; refine wpList_append_row _ rfl _ _ 53 53 rfl rfl _ rfl (H6.out.2.2.2.1 w7 H7.out.2.1 _) (by decide) i1 (.slice none 0 0) 24 Tryz.underlying53 HI1.out.1 HI1.out.2.1 HI1.out.2.2.1 HI1.out.2.2.2 rfl 1 [_] (src_at (by exact heap_alloc_new w7 _) Tryz.underlying53 1 1 rfl (by simp [Value.oneCell'])) (by unfold maxLen; omega) (by omega) ?_; intro b8 c8 w8 hr8 hk8 hw8 hn8 hz8; have H8 := Lib.hid (And.intro hr8 (And.intro hk8 hw8)); clear hr8 hk8 hw8 hn8 hz8)
              | fail)
            obtain ⟨f1, f2, f3, _, _, u1, u2, u3, u4⟩ := H6.out
            obtain ⟨k1, k2, k3⟩ := H7.out
            obtain ⟨m1, m2, m3⟩ := H8.out
            have hGlt : ∀ q, G1 q → q < w6.heap.size := fun q hq => f1.has.lt hq
            have hz7 : w6.heap.size + 1 ≤ w7.heap.size := by have := k2.size; simpa using this
            have hold : ∀ q, q < w6.heap.size → w7.heap[q]? = w6.heap[q]? := fun q hq => by
              rw [k2.block q (by simp; omega) (fun h => by have : w6.heap.size = q := Option.some.inj h; omega), Below.heap_alloc _ _ _ hq]
            have hrec := recG_snoc (G := fun q => G1 q ∧ w.heap.size ≤ q) (W := w6.heap.size) (w5 := w7) u2 (fun j a b => ⟨(u3 j a b).1.keep fun q hq _ => hold q (hGlt q ((u3 j a b).2 q hq).1.1), (u3 j a b).2⟩) u4 (fun q hq => hGlt q hq.1) (by omega)
              (Bown.bin (xs := x.b) k1) (fun q hq => ⟨(k3 q hq).elim (fun h => by have : w6.heap.size = q := Option.some.inj h; omega) (fun h => by simp at h; omega), k1.lt q hq⟩) _ m1 m2 m3
            have hkk : Keeps (fun q => (Value.slice ra A.length rc).ownBlock = some q) w6 w8 :=
              (((((Keeps.refl (fun q => (Value.slice ra A.length rc).ownBlock = some q) w6).alloc _).trans k2 fun b hb h => by have : w6.heap.size = b := Option.some.inj h; omega).alloc _)).trans m2 fun _ _ h => h
            have hl8 := f1.grow hkk fun q hq => ⟨(u4 q hq).1, (u4 q hq).2, fun e => row_log u1 f1.log (e ▸ hq)⟩
            have hnw := f1.below.size
            have H9 := Lib.hid (show Sq w d (k + 1) p s (.slice b8 (A.length + 1) c8) (.slice none 0 0) false w8 from
              ⟨D6, A ++ [x.b], O, _, hl8.more (by omega), hrec.mono (fun q hq => hq.elim (fun h => ⟨Or.inl h.1, h.2⟩) (fun h => ⟨Or.inr h, by omega⟩)), (fun e => by cases e), fun _ => f2, f3, by rw [List.length_append]; omega, by rw [List.length_append, List.length_singleton]; omega,
                ⟨by rw [List.length_append, List.length_singleton]; omega, fun y hy => (List.mem_append.1 hy).elim (HD.out.2.2.2.2.2 y) (fun h => by obtain rfl := List.mem_singleton.1 h; omega)⟩⟩)
            clear f1 f2 f3 u1 u2 u3 u4 k1 k2 k3 m1 m2 m3 hGlt hz7 hold hrec hkk hl8 hnw
            go_roundw
            case rel => exact ⟨k + 1, p, s, false, by omega, rfl, rfl, rfl, by go_num, H9.out.any _⟩
            case measure => simp [intOf]; omega
          · have H6 := Lib.hid (show Sq w d (k + 1) p s (.slice ra A.length rc) (.slice none 0 0) false w6 from
              ⟨D6, A, O, G1, hl6.more (by omega), hr6', (fun e => by cases e), fun _ => hs6, hf6, g6, by omega, HD.out.2.2.2.2⟩)
            clear hl6 hr6' hs6 hf6 h6 hk6
            go_wp2_with fail
            go_roundw
            case rel => exact ⟨k + 1, p, s, false, by omega, rfl, rfl, rfl, by go_num, H6.out.any _⟩
            case measure => simp [intOf]; omega
      · cases mb with
        | true =>
          go_wp2_with fail
          rw [HW.out]
          have H6 := Lib.hid (show Sq w d (k + 1) p s (.slice ra A.length rc) _ true wb from
            ⟨D, A, O, G1, HB.out.2.1.more (by omega), HB.out.2.2.1, fun e => ⟨HB.out.2.2.2.1 e, ob_next (HD.out.2.1 e).2⟩, HD.out.2.2.1, HD.out.2.2.2.1, g6, by omega, HD.out.2.2.2.2⟩)
          go_roundw
          case rel => exact ⟨k + 1, p, s, true, by omega, rfl, rfl, rfl, by go_num, H6.out⟩
          case measure => simp [intOf]; omega
        | false =>
          go_wp2_with fail
          rw [HW.out]
          refine (log_sync HB.out.2.1.has (by omega) HB.out.2.1.log HB.out.2.1.gp (by decide)).mono ?_
          rintro e w6 ⟨c, D6, rfl, hc6, h6, hk6⟩
          have hl6 := HB.out.2.1.did h6 hk6
          have hr6' : RecG (fun q => G1 q ∧ w.heap.size ≤ q) w6 (.slice ra A.length rc) A := HB.out.2.2.1.did hk6 fun q hq => hq.1
          rcases su_sync (HD.out.2.2.1 (by simp)) HD.out.2.2.2.1 with ⟨e1, e2, e3⟩ | ⟨e1, e2, e3⟩
          · rw [← hc6] at e1 e2 e3
            obtain rfl : c = 0 := e1
            have H6 := Lib.hid (show Sq w d (k + 1) p A.length (.slice ra A.length rc) (.slice none 0 0) false w6 from
              ⟨D6, A, O, G1, hl6.more (by omega), hr6', (fun e => by cases e), fun _ => e2, e3, Nat.le_refl _, by omega, HD.out.2.2.2.2⟩)
            clear hl6 hr6' e2 e3 h6 hk6 hc6
            go_wp2_with fail
            go_roundw
            case rel => exact ⟨k + 1, p, A.length, false, by omega, rfl, rfl, rfl, by go_num, H6.out.any _⟩
            case measure => simp [intOf]; omega
          · rw [← hc6] at e1 e2 e3
            obtain rfl : c = 8 := e1
            have H6 := Lib.hid (show Sq w d (k + 1) p s (.slice ra A.length rc) (.slice none 0 0) false w6 from
              ⟨D6, A, O, G1, hl6.more (by omega), hr6', (fun e => by cases e), fun _ => e2, e3, g6, by omega, HD.out.2.2.2.2⟩)
            clear hl6 hr6' e2 e3 h6 hk6 hc6
            go_wp2_with fail
            go_roundw
            case rel => exact ⟨k + 1, p, s, false, by omega, rfl, rfl, rfl, by go_num, H6.out.any _⟩
            case measure => simp [intOf]; omega
      · cases mb with
        | true =>
          go_wp2_with fail
          rw [HW.out]
          have H6 := Lib.hid (show Sq w d (k + 1) p s (.slice ra A.length rc) _ true wb from
            ⟨D, A, O, G1, HB.out.2.1.more (by omega), HB.out.2.2.1, fun e => ⟨HB.out.2.2.2.1 e, ob_next (HD.out.2.1 e).2⟩, HD.out.2.2.1, HD.out.2.2.2.1, g6, by omega, HD.out.2.2.2.2⟩)
          go_roundw
          case rel => exact ⟨k + 1, p, s, true, by omega, rfl, rfl, rfl, by go_num, H6.out⟩
          case measure => simp [intOf]; omega
        | false =>
          obtain ⟨i1, hi, hz0, hz1, hz2⟩ := info_parts info_sl
          have HI1 := Lib.hid (And.intro hi (And.intro hz0 (And.intro hz1 hz2)))
          clear hi hz0 hz1 hz2
          obtain ⟨m, hm, hix⟩ := index_in x.n A.length (by omega)
          have hmc : m ≤ rc := by omega
          obtain ⟨us, u1, u2, u3, u4⟩ := HB.out.2.2.1
          have hsrc : Src Tryz.prog 1 53 (.slice ra m rc) m (us.take m) (wb.alloc (.cells #[] 23)) := by
            have hml : (us.take m).length = m := by rw [List.length_take]; omega
            have h := ((row_lst u1 u2).take (m := m) (by omega)).below ((Below.refl _ wb).alloc (Nat.le_refl _) (.cells #[] 23))
            have h2 := h.src (P := Tryz.prog) (tx := 53) (fun u hu => RecsIn.one u2 (fun j a b => (u3 j a b).1) u (List.mem_of_mem_take hu)) Tryz.underlying53
            rw [hml] at h2
            exact h2
          have hwz : wb.heap.size = wr.heap.size + 1 := by rw [← HW.out]; simp
          have hfr : Row (wb.alloc (.cells #[] 23)) 23 1 (.slice (some ⟨wr.heap.size + 1, 0, none⟩) 0 0) 0 [] := by
            have := Row.fresh0 wb 23 1
            rwa [hwz] at this
          have HF := Lib.hid (And.intro hwz hfr)
          clear hwz hfr
          have HS := Lib.hid (And.intro hsrc (And.intro u1 (And.intro u2 (And.intro u3 u4))))
          clear hsrc u1 u2 u3 u4
          go_wp2_with (first
            | (at_builtin; rw [HW.out]; refine wpList_append_row _ rfl _ _ 53 53 rfl rfl _ rfl HF.out.2 (by decide) i1 (.slice none 0 0) 24 Tryz.underlying53 HI1.out.1 HI1.out.2.1 HI1.out.2.2.1 HI1.out.2.2.2 rfl m _ HS.out.1 (by unfold maxLen; omega) (by omega) ?_; intro b7 c7 w7 hr7 hk7 hw7 hn7 hz7; simp only [Nat.zero_add, List.nil_append] at hr7 hw7 ⊢; have H7 := Lib.hid (And.intro hr7 (And.intro hk7 hw7)); clear hr7 hk7 hw7 hn7 hz7)
            | fail)
          all_goals
            obtain ⟨_, u1, u2, u3, u4⟩ := HS.out
            obtain ⟨k1, k2, k3⟩ := H7.out
            have hwz := HF.out.1
            have hml : (A.take m).length = m := by rw [List.length_take]; omega
            have hz7 : wb.heap.size + 1 ≤ w7.heap.size := by have := k2.size; simpa using this
            have hold : ∀ q, q < wb.heap.size → w7.heap[q]? = wb.heap[q]? := fun q hq => by
              rw [k2.block q (by simp; omega) (fun h => by have : wr.heap.size + 1 = q := Option.some.inj h; omega), Below.heap_alloc _ _ _ hq]
            have hb7 : Below wb.heap.size wb w7 := (((Keeps.refl (fun _ => False) wb).alloc (.cells #[] 23)).below (Nat.le_refl _) fun _ _ h => h).trans (k2.below (by simp) fun b hb h => by have : wr.heap.size + 1 = b := Option.some.inj h; omega)
            have hGlt : ∀ q, G1 q → q < wb.heap.size := fun q hq => HB.out.2.1.has.lt hq
            have hrec := recG_new (G := fun q => G1 q ∧ w.heap.size ≤ q) (W := wb.heap.size) (w5 := wb) u2 (fun j a b => ⟨(u3 j a b).1, fun q hq => ((u3 j a b).2 q hq).1⟩) (fun q hq => hGlt q hq.1) (Nat.le_refl _) hm k1 hold (fun q hq => (k3 q hq).elim (fun h => by have : wr.heap.size + 1 = q := Option.some.inj h; omega) (fun h => by simp at h; omega))
            have hl7 := HB.out.2.1.wide hb7
            have hnw := HB.out.2.1.below.size
            have hrec2 := hrec.mono (G' := fun q => (G1 q ∨ (wb.heap.size ≤ q ∧ q < w7.heap.size)) ∧ w.heap.size ≤ q) fun q hq => hq.elim (fun h => ⟨Or.inl h.1, h.2⟩) (fun h => ⟨Or.inr h, by omega⟩)
            have hall2 : RecG (fun q => (G1 q ∨ (wb.heap.size ≤ q ∧ q < w7.heap.size)) ∧ w.heap.size ≤ q) w7 (.slice _ A.length rc) A := (HB.out.2.2.1.on (fun q hq => hGlt q hq.1) hb7).mono fun q hq => ⟨Or.inl hq.1, hq.2⟩
            have H9 := Lib.hid (And.intro hl7 (And.intro hrec2 (And.intro hall2 hml)))
            clear u1 u2 u3 u4 k1 k2 k3 hwz hml hz7 hold hb7 hGlt hrec hl7 hnw hrec2 hall2
            refine (log_rewrite H9.out.1.has (by omega) H9.out.1.log H9.out.1.gp (by decide) H9.out.2.1.recsIn (by have := H9.out.2.2.2; omega) (HD.out.2.2.2.2.take m).long).mono ?_
            rintro e w8 ⟨c, D8, rfl, ⟨q8, hq8, hc8⟩, h8, hk8⟩
            rw [spare_nL] at hc8
            have hl8 := H9.out.1.did h8 hk8
            have ho8 := H9.out.2.1.did hk8 fun q hq => hq.1
            have ha8 := H9.out.2.2.1.did hk8 fun q hq => hq.1
            rcases su_rewrite (HD.out.2.2.1 (by simp)) HD.out.2.2.2.1 H9.out.1.has (by omega) (HD.out.2.2.2.2.take m) q8 hq8 with ⟨e1, e2, e3⟩ | ⟨e1, e2, e3, e4⟩
            · rw [← hc8] at e1 e2 e3
              obtain rfl : c = 0 := e1
              have H10 := Lib.hid (show Sq w d (k + 1) p m (.slice b7 m c7) (.slice none 0 0) false w8 from
                ⟨D8, A.take m, O, _, hl8.more (by omega), ho8, (fun e => by cases e), fun _ => by have h := e2; rw [H9.out.2.2.2] at h; exact h, e3, by rw [H9.out.2.2.2]; exact Nat.le_refl _, by rw [H9.out.2.2.2]; omega, HD.out.2.2.2.2.take m⟩)
              clear hl8 ho8 ha8 e2 e3 h8 hk8 hc8
              go_wp2_with fail
              go_roundw
              case rel => exact ⟨k + 1, p, m, false, by omega, rfl, rfl, rfl, by go_num, H10.out.any _⟩
              case measure => simp [intOf]; omega
            · rw [← hc8] at e1 e2 e3 e4
              obtain rfl : c = 8 := e1
              have H10 := Lib.hid (show Sq w d (k + 1) p s (.slice _ A.length rc) (.slice b7 m c7) true w8 from
                ⟨D8, A, A.take m, _, hl8.more (by omega), ha8, fun _ => ⟨ho8, HD.out.2.2.2.2.take m, e2, e3, by rw [H9.out.2.2.2]; omega⟩, (fun e => by cases e), e4, g6, by omega, HD.out.2.2.2.2⟩)
              clear hl8 ho8 ha8 e2 e3 e4 h8 hk8 hc8
              go_wp2_with fail
              go_roundw
              case rel => exact ⟨k + 1, p, s, true, by omega, rfl, rfl, rfl, by go_num, H10.out⟩
              case measure => simp [intOf]; omega
      · go_wp2_with fail
        rw [HW.out]
        refine (done_arm HB.out.2.1.has (by omega) x.n (by have := HX.out.2.2.1.n.2; omega)).mono ?_
        rintro e w6 ⟨rfl, h6, hk6⟩
        have H6 := Lib.hid (show Sq w d (k + 1) p s (.slice ra A.length rc) _ mb w6 from
          ⟨_, A, O, G1, (HB.out.2.1.did h6 hk6).more (by omega), HB.out.2.2.1.did hk6 fun q hq => hq.1, fun e => ⟨(HB.out.2.2.2.1 e).did hk6 fun q hq => hq.1, ob_next (HD.out.2.1 e).2⟩, HD.out.2.2.1, few_arm HD.out.2.2.2.1 _, g6, by omega, HD.out.2.2.2.2⟩)
        clear h6 hk6
        go_wp2_with fail
        go_roundw
        case rel => exact ⟨k + 1, p, s, mb, by omega, rfl, rfl, rfl, by go_num, H6.out⟩
        case measure => simp [intOf]; omega
      · rcases h34 with rfl | rfl
        case' inl =>
          by_cases hmb : mb = true
          case' pos =>
            subst hmb
            go_wp2_with fail
            rw [HW.out]
            refine (has_down HB.out.2.1.has).mono ?_
            rintro e w6 ⟨rfl, rfl⟩
            rw [(HD.out.2.1 (by simp)).2.2.2.1]
            have H6 := Lib.hid (show Sq w d (k + 1) p s (.slice ra A.length rc) _ true wb from
              ⟨D, A, O, G1, HB.out.2.1.more (by omega), HB.out.2.2.1, fun _ => ⟨HB.out.2.2.2.1 (by simp), ob_next (HD.out.2.1 (by simp)).2⟩, HD.out.2.2.1, HD.out.2.2.2.1, g6, by omega, HD.out.2.2.2.2⟩)
            go_wp2_with fail
            go_roundw
            case rel => exact ⟨k + 1, p, s, true, by omega, rfl, rfl, rfl, by go_num, H6.out⟩
            case measure => simp [intOf]; omega
          have hmf : mb = false := by simpa using hmb
          clear hmb
          go_wp2_with fail
          rw [HW.out]
          refine (has_down HB.out.2.1.has).mono ?_
          rintro e w6 ⟨rfl, rfl⟩
          cases hdn : D.down
          case' true =>
            have H6 := Lib.hid (show Sq w d (k + 1) p s (.slice ra A.length rc) (.slice none 0 0) false wb from
              ⟨D, A, O, G1, HB.out.2.1.more (by omega), HB.out.2.2.1, (fun e => by cases e), fun _ => HD.out.2.2.1 hmf, HD.out.2.2.2.1, g6, by omega, HD.out.2.2.2.2⟩)
            clear hdn
            go_wp2_with fail
            go_roundw
            case rel => exact ⟨k + 1, p, s, false, by omega, rfl, rfl, by simp [], by go_num, H6.out.any _⟩
            case measure => simp [intOf]; omega
          have hrd := ready_again (O := O) (HD.out.2.2.1 hmf) g6 HD.out.2.2.2.1 hdn HD.out.2.2.2.2
          have Hrd := Lib.hid hrd
          clear hrd hdn
          go_wp2_with fail
          refine (done_arm HB.out.2.1.has (by omega) (-1) (by omega)).mono ?_
          rintro e w7 ⟨rfl, h7, hk7⟩
          rw [show max (-1 : Int) (-1) = -1 by decide] at h7
          obtain ⟨D1, hD1⟩ : ∃ D1 : PD, D1 = { D with armed := -1 } := ⟨_, rfl⟩
          have HY := Lib.hid (show Lgd w d p nL 7 G1 w7 D1 (4 + 20 * k + 2) ∧ Ready D1 A s O mb ∧ RecG (fun q => G1 q ∧ w.heap.size ≤ q) w7 (.slice ra A.length rc) A ∧ (mb = true → RecG (fun q => G1 q ∧ w.heap.size ≤ q) w7 u10 O) from
            ⟨by rw [hD1]; exact HB.out.2.1.did h7 hk7, by rw [hD1, hmf]; exact Hrd.out, HB.out.2.2.1.did hk7 fun q hq => hq.1, fun e => (HB.out.2.2.2.1 e).did hk7 fun q hq => hq.1⟩)
          clear h7 hk7 hD1 Hrd
          go_wp2_with fail
        case' inr =>
          go_wp2_with fail
          rw [HW.out]
          refine (done_restart HB.out.2.1.has (by omega) (tails := x.tails) HX.out.2.2.1.n.1 HX.out.2.2.1.n.2 (HX.out.2.1.below HB.out.1) (by omega) HX.out.2.2.1.tails (fun hne q hq => HB.out.2.1.low q (HX.out.2.2.2.2 hne q hq))).mono ?_
          rintro e w7 ⟨rfl, h7, hk7⟩
          obtain ⟨D1, hD1⟩ : ∃ D1 : PD, D1 = D.restart x.n x.tails := ⟨_, rfl⟩
          have HY := Lib.hid (show Lgd w d p nL 7 G1 w7 D1 (4 + 20 * k + 2) ∧ Ready D1 A s O mb ∧ RecG (fun q => G1 q ∧ w.heap.size ≤ q) w7 (.slice ra A.length rc) A ∧ (mb = true → RecG (fun q => G1 q ∧ w.heap.size ≤ q) w7 u10 O) from
            ⟨by rw [hD1]; exact HB.out.2.1.did h7 hk7, by rw [hD1]; exact ready_restart HD.out.2.2.1 (fun e => (HD.out.2.1 e).2.2.1) g6 HD.out.2.2.2.1 HD.out.2.2.2.2 (fun e => (HD.out.2.1 e).2.1) h7 (by omega), HB.out.2.2.1.did hk7 fun q hq => hq.1, fun e => (HB.out.2.2.2.1 e).did hk7 fun q hq => hq.1⟩)
          clear h7 hk7 hD1
          go_wp2_with fail
        all_goals
          refine (log_open HY.out.1.has (by omega) nL (by decide) 7).mono ?_
          rintro e0 w8 ⟨c8, q8, pv8, v8, G8, rfl, _, hc8, h8, hG8, hk8, _, hok8⟩
          rw [spare_nL] at hc8 h8 hok8
          obtain ⟨D8, e8, ho8, hu8, hf8, hgot⟩ := HY.out.2.1 q8
          rw [e8] at hc8 h8
          obtain rfl : c8 = 0 := hc8
          obtain ⟨p8, rfl, _, hp8, hGp8, hrg8, _⟩ := hok8 rfl
          obtain ⟨got, hgt⟩ : ∃ got, openGot D1 nL nN 7 = got := ⟨_, rfl⟩
          rw [hgt] at ho8 hgot hrg8
          obtain ⟨oa, oc, rfl⟩ : ∃ a c, v8 = .slice a got.length c := by obtain ⟨_, r, _⟩ := hrg8; exact r.slv
          have hgs : Small got := by
            rcases hgot with ⟨j, _, _, e⟩ | ⟨e, e2⟩
            · rw [e]; exact HD.out.2.2.2.2.take j
            · rw [e2]; exact (HD.out.2.1 e).2.1
          have hgl : got.length ≤ 60 := hgs.1
          have hl8 : Lgd w d p8 nL 7 G8 w8 D8 (4 + 20 * k + 6) := ⟨h8, fun b hb => hG8 b (HY.out.1.low b hb), hGp8, hp8, below_kept HY.out.1.below (Nat.le_refl _) hk8 HY.out.1.low⟩
          have ha8 : RecG (fun q => G8 q ∧ w.heap.size ≤ q) w8 (.slice _ A.length rc) A := (HY.out.2.2.1.did hk8 fun q hq => hq.1).mono fun q hq => ⟨hG8 q hq.1, hq.2⟩
          have hoo8 : mb = true → RecG (fun q => G8 q ∧ w.heap.size ≤ q) w8 u10 O := fun e => ((HY.out.2.2.2 e).did hk8 fun q hq => hq.1).mono fun q hq => ⟨hG8 q hq.1, hq.2⟩
          have H8 := Lib.hid (And.intro hl8 (And.intro ha8 (And.intro hoo8 (And.intro hrg8.recsIn (And.intro ho8 (And.intro hu8 (And.intro hf8 (And.intro hgot hgs))))))))
          clear h8 hG8 hk8 hok8 hp8 hGp8 hrg8 hgt hl8 ha8 hoo8 ho8 hu8 hf8 hgot hgs e8
          go_wp2_with fail
          refine (starts_at H8.out.2.2.2.1 H8.out.2.1.recsIn (by omega)).mono ?_
          rintro e0 w9 ⟨rfl, hb9⟩
          have Hb9 := Lib.hid hb9
          clear hb9
          cases hst : startsP got A s
          case' false =>
            have hO : mb = true ∧ got = O := by
              rcases H8.out.2.2.2.2.2.2.2.1 with ⟨j, j1, j2, e⟩ | h
              · exfalso
                have hl : got.length = j := by rw [e, List.length_take]; omega
                have : startsP got A s = true := by
                  simp only [startsP, Bool.and_eq_true, decide_eq_true_eq]
                  exact ⟨by omega, by omega, by rw [hl]; exact e⟩
                rw [hst] at this
                cases this
              · exact h
            obtain ⟨hmb, rfl⟩ := hO
            first
              | exact absurd (hmf.symm.trans hmb) (by decide)
              |
                have hOk := (HD.out.2.1 hmb).2.2.2.2
                have ho8 := H8.out.2.2.1 hmb
                obtain ⟨ya, yc, rfl⟩ : ∃ a c, u10 = .slice a got.length c := by obtain ⟨_, r, _⟩ := ho8; exact r.slv
                have Ho8 := Lib.hid ho8
                clear ho8 hst
                go_wp2_with fail
                refine (same5_at (H8.out.2.2.2.1.below Hb9.out) (Ho8.out.recsIn.below Hb9.out) (by omega)).mono ?_
                rintro e0 w10 ⟨rfl, hb10⟩
                rw [decide_eq_true (rfl : got = got)]
                have Hb10 := Lib.hid (Hb9.out.trans (hb10.mono Hb9.out.size))
                clear hb10
                go_wp2_with fail
                refine (log_sync (H8.out.1.on Hb10.out).has (by omega) (H8.out.1.on Hb10.out).log (H8.out.1.on Hb10.out).gp (by decide)).mono ?_
                rintro e w11 ⟨c, D11, rfl, hc11, h11, hk11⟩
                obtain ⟨D11', e11, g11, f11⟩ := su_resync H8.out.2.2.2.2.1 H8.out.2.2.2.2.2.1 H8.out.2.2.2.2.2.2.1
                rw [e11] at hc11
                obtain ⟨rfl, rfl⟩ := Prod.mk.inj hc11
                have H11 := Lib.hid (show Sq w d (k + 1) p8 got.length (.slice ya got.length yc) (.slice none 0 0) false w11 from
                  ⟨_, got, [], G8, ((H8.out.1.on Hb10.out).did h11 hk11).more (by omega), (Ho8.out.on (fun q hq => H8.out.1.has.lt hq.1) Hb10.out).did hk11 fun q hq => hq.1, (fun e => by cases e), fun _ => g11, f11, Nat.le_refl _, by omega, H8.out.2.2.2.2.2.2.2.2⟩)
                clear h11 hk11 hc11 e11 g11 f11
                go_wp2_with fail
                go_roundw
                case rel => exact ⟨k + 1, p8, got.length, false, by omega, rfl, rfl, rfl, by go_num, H11.out.any _⟩
                case measure => simp [intOf]; omega
          have hs3 : s ≤ got.length ∧ got.length ≤ A.length ∧ got = A.take got.length := by
            simpa [startsP, Bool.and_eq_true, decide_eq_true_eq] using hst
          have Hs3 := Lib.hid hs3.2.2
          have hgA : got.length ≤ A.length := hs3.2.1
          have hgc : got.length ≤ rc := by omega
          clear hs3 hst
          go_wp2_with fail
          all_goals
            refine (log_sync (H8.out.1.on Hb9.out).has (by omega) (H8.out.1.on Hb9.out).log (H8.out.1.on Hb9.out).gp (by decide)).mono ?_
            rintro e w11 ⟨c, D11, rfl, hc11, h11, hk11⟩
            obtain ⟨D11', e11, g11, f11⟩ := su_resync H8.out.2.2.2.2.1 H8.out.2.2.2.2.2.1 H8.out.2.2.2.2.2.2.1
            rw [e11] at hc11
            obtain ⟨rfl, rfl⟩ := Prod.mk.inj hc11
            have hrec := ((H8.out.2.1.on (fun q hq => H8.out.1.has.lt hq.1) Hb9.out).did hk11 fun q hq => hq.1).take hgA
            rw [← Hs3.out] at hrec
            have H11 := Lib.hid (show Sq w d (k + 1) p8 got.length (.slice _ got.length rc) (.slice none 0 0) false w11 from
              ⟨_, got, [], G8, ((H8.out.1.on Hb9.out).did h11 hk11).more (by omega), hrec, (fun e => by cases e), fun _ => g11, f11, Nat.le_refl _, by omega, H8.out.2.2.2.2.2.2.2.2⟩)
            clear h11 hk11 hc11 e11 g11 f11 hrec
            go_wp2_with fail
            go_roundw
            case rel => exact ⟨k + 1, p8, got.length, false, by omega, rfl, rfl, rfl, by go_num, H11.out.any _⟩
            case measure => simp [intOf]; omega
    · obtain rfl : k = n := by omega
      have hbw : Below w.heap.size w wr := by obtain ⟨_, _, _, _, h1, _⟩ := HQ.out; exact h1.below
      have Hbw := Lib.hid hbw
      clear hbw
      go_wp2_with fail
      refine (awake5_at wr).mono ?_
      rintro e0 w13 ⟨rfl, hb13⟩
      have H13 := Lib.hid (Hbw.out.trans (hb13.mono Hbw.out.size))
      clear hb13
      go_wp2_with fail
      go_ret
      exact ⟨rfl, H13.out⟩
end Go.Proofs.YtbckbkcpfejllaaGreatDoor
