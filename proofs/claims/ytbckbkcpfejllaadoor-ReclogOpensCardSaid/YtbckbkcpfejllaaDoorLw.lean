/- reclog: a log on a disk: Append, Sync, Rewrite, Open: the walk. -/
import Derived.Test.YtbckbkcpfejllaaDoorAl
import Derived.Test.YtbckbkcpfejllaaDoorLs
namespace Go.Proofs.YtbckbkcpfejllaaDoor
open Go.RowKit Go.Maps Go.WideMaps

/-- A log lies at p: on the disk at d, in the file of that name, of that kind. -/
def LogAt (w : World) (p d : Nat) (name : ByteArray) (kind : UInt8) : Prop := w.heap[p]? = some (.cells #[.pointer (some ⟨d, 0, none⟩), .string name, .int .u8 kind.toNat] 71 (0, 0))
set_option maxRecDepth 100000 in
theorem log_append {F : Nat → Prop} {d k p : Nat} {w : World} {D : PD} {R : Int → PD → Prop} {name : ByteArray} {kind : UInt8} (h : Has F d w D k) (hk : k + 2 ≤ 100000) (hp : LogAt w p d name kind) (hs : name.size ≤ 1000000) {v : Value} {b : Bs} (hb : Bin w v b) (hl : b.length ≤ 4096)
    (hR : ∀ q, ¬ D.has q → R (D.deed (rightP name) fun D' => D'.append name (frameP b) q).1 (D.deed (rightP name) fun D' => D'.append name (frameP b) q).2) :
    Calls Tryd.prog 17 #[.pointer (some ⟨p, 0, none⟩), v] w (Told F d w k R) := by
  have hf := frame_good hb hl
  obtain ⟨va, vc, rfl⟩ : ∃ a c, v = .slice a b.length c := by obtain ⟨a, c, e, _⟩ := hb; exact ⟨a, c, e⟩
  have Hf := Lib.hid hf
  have H := Lib.hid h
  have Hp := Lib.hid hp
  have HR := Lib.hid hR
  clear hf h hp hR hb
  go_enter Tryd.func17, Tryd.ntmps17
  go_wp2_with fail
  refine Hf.out.mono ?_
  rintro e w1 ⟨a1, c1, rfl, hown, hb1, hf1⟩
  have hx1 : w1.heap[p]? = _ := (hb1.block p (lt_of_heap Hp.out)).trans Hp.out
  have z0 : w1.drew.cell? ⟨p, 0, none⟩ = some (.pointer (some ⟨d, 0, none⟩)) := (cell_at hx1).trans rfl
  have z1 : w1.drew.cell? ⟨p, 1, none⟩ = some (.string name) := (cell_at hx1).trans rfl
  have H1 := Lib.hid (H.out.below hb1)
  have Hb1 := Lib.hid hb1
  have Hown := Lib.hid (And.intro hown hf1)
  clear hx1 hown hf1 hb1
  go_wp2_with fail
  refine wp_region_reg (by kernel_rfl) (by kernel_rfl) ?_
  refine reg_quiet 0 rfl (by kernel_rfl) (fun K hK => ?_)
  go_simp
  refine hK _ ?_; clear hK K
  refine reg_quiet 1 rfl (by kernel_rfl) (fun K hK => ?_)
  go_simp
  refine hK _ ?_; clear hK K
  refine reg_quiet 2 rfl (by kernel_rfl) (fun K hK => ?_)
  go_simp
  refine hK _ ?_; clear hK K
  refine reg_quiet 3 rfl (by kernel_rfl) (fun K hK => ?_)
  go_simp
  refine hK _ ?_; clear hK K
  refine reg_quiet 4 rfl (by kernel_rfl) (fun K hK => ?_)
  go_simp
  refine hK _ ?_; clear hK K
  refine reg_quiet 5 rfl (by kernel_rfl) (fun K hK => ?_)
  go_simp
  refine hK _ ?_; clear hK K
  refine reg_quiet 6 rfl (by kernel_rfl) (fun K hK => ?_)
  go_simp
  refine hK _ ?_; clear hK K
  refine reg_quiet 7 rfl (by kernel_rfl) (fun K hK => ?_)
  go_simp
  refine hK _ ?_; clear hK K
  refine reg_quiet 8 rfl (by kernel_rfl) (fun K hK => ?_)
  go_simp
  refine hK _ ?_; clear hK K
  refine reg_turn 9 [] rfl (by kernel_rfl) (by kernel_rfl) (fun K hK => ?_)
  go_simp
  refine (told_append H1.out.drew hk name hs (b := frameP b) (Bin.keep (w := w1) (Bown.bin (xs := frameP b) (by have := Hown.out.1; exact this)) fun _ _ _ => rfl) (by rw [len_frameP]; omega) (fun _ q hq => Or.inr ⟨Hown.out.2 q hq, Hown.out.1.lt q hq⟩) (R := R) HR.out).mono ?_
  rintro e w2 ⟨c, D2, rfl, hr2, h2, hk2⟩
  have HA := Lib.hid (And.intro hr2 (And.intro h2 hk2))
  clear hr2 h2 hk2
  refine hK _ _ (StayOk.nil) ?_; clear hK K
  refine reg_quiet 10 rfl (by kernel_rfl) (fun K hK => ?_)
  go_simp
  refine hK _ ?_; clear hK K
  refine reg_done (by kernel_rfl) ?_
  go_wp2_with fail
  go_ret
  exact ⟨c, D2, rfl, HA.out.1, HA.out.2.1.less fun q hq => Or.inl hq, (Keeps.of_below Hb1.out).mono (T := fun q => ¬ F q) (fun _ _ h => h.elim) |>.drew |>.trans HA.out.2.2 (fun q hq hn hF => hn (Or.inl hF))⟩

/-- It tells c; the disk is D' then; R of both; a budget m. -/
def ToldN (F : Nat → Prop) (d : Nat) (w : World) (m : Nat) (R : Int → PD → Prop) (e : Ending) (w' : World) : Prop :=
  ∃ c D', e = .returned (.int .i64 c) ∧ R c D' ∧ Has F d w' D' m ∧ Keeps (fun b => ¬ F b) w w'
theorem told_before {F G : Nat → Prop} {d m : Nat} {w w1 w' : World} {R : Int → PD → Prop} {e : Ending} (hb : Below w.heap.size w w1) (hF : ∀ b, F b → G b) (h : ToldN G d w1 m R e w') : ToldN F d w m R e w' := by
  obtain ⟨c, D', h1, h2, h3, h4⟩ := h
  exact ⟨c, D', h1, h2, h3.less hF, ((Keeps.of_below hb).mono (T := fun q => ¬ F q) fun _ _ h => h.elim).trans h4 fun q _ hn hF' => hn (hF q hF')⟩
theorem ToldN.imp {F : Nat → Prop} {d m n : Nat} {w : World} {R S : Int → PD → Prop} {e : Ending} {w' : World} (h : ToldN F d w m R e w') (hm : m ≤ n) (hR : ∀ c D', R c D' → S c D') : ToldN F d w n S e w' := by
  obtain ⟨c, D', h1, h2, h3, h4⟩ := h
  exact ⟨c, D', h1, hR c D' h2, h3.more hm, h4⟩
/-- Deeds one behind the other; the first error ends them. -/
def Ch : List (PD → Int → PD → Prop) → PD → Int → PD → Prop
  | [], D, c, D' => c = 0 ∧ D' = D
  | g :: r, D, c, D' => ∃ c1 D1, g D c1 D1 ∧ ((c1 = 0 ∧ Ch r D1 c D') ∨ (c1 ≠ 0 ∧ c = c1 ∧ D' = D1))
theorem all_told {F : Nat → Prop} {d k : Nat} {w : World} {D : PD} {v : Value} {fs : List (Nat × Array Value × Array Value)} (gs : List (PD → Int → PD → Prop)) (Inv : World → Prop) (hI : Inv w) (hInv : ∀ w1 w2, Inv w1 → Keeps (fun b => ¬ F b) w1 w2 → Inv w2)
    (hv : Lst w v (fs.map funV)) (hvF : ∀ q, v.ownBlock = some q → F q) (hl : fs.length ≤ 100) (hg : gs.length = fs.length)
    (eg : ∀ x ∈ fs, ∀ args w, (callFunc x.1 args).run Tryd.prog w = .ok (.enter x.1 args) w) (h : Has F d w D k) (hk : k + 2 * fs.length ≤ 100000)
    (hstep : ∀ j (hj : j < fs.length) (hj' : j < gs.length) w' D' m, Inv w' → Has F d w' D' m → m + 2 ≤ 100000 → Calls Tryd.prog fs[j].1 (fs[j].2.1 ++ fs[j].2.2) w' (Told F d w' m fun c D'' => gs[j] D' c D'')) :
    Calls Tryd.prog 43 #[v] w (ToldN F d w (k + 2 * fs.length) fun c D' => Ch gs D c D') := by
  refine (all_at hv hl eg (fun j w' => ∃ D', Has F d w' D' (k + 2 * j) ∧ Inv w' ∧ Lst w' v (fs.map funV) ∧ Keeps (fun b => ¬ F b) w w' ∧ ∀ c D'', Ch (gs.drop j) D' c D'' → Ch gs D c D'')
    (fun c w' => ∃ D', Ch gs D c D' ∧ Has F d w' D' (k + 2 * fs.length) ∧ Keeps (fun b => ¬ F b) w w')
    ⟨D, h, hI, hv, Keeps.refl _ w, fun c D'' h => h⟩ (fun j w' ⟨_, _, _, h, _⟩ => h) ?_ ?_).mono ?_
  · rintro j hj w' ⟨D', h1, h2, h3, h4, h5⟩
    have hj' : j < gs.length := by omega
    refine (hstep j hj hj' w' D' (k + 2 * j) h2 h1 (by omega)).mono ?_
    rintro e w'' ⟨c, D'', rfl, h6, h7, h8⟩
    have hd : gs.drop j = gs[j] :: gs.drop (j + 1) := List.drop_eq_getElem_cons hj'
    have hkk : Keeps (fun b => ¬ F b) w w'' := h4.trans h8 fun _ _ h => h
    refine ⟨c, rfl, fun hc => ⟨D'', h7.more (by omega), hInv _ _ h2 h8, ?_, hkk, fun c' D3 h9 => h5 _ _ ?_⟩, fun hc => ⟨D'', h5 _ _ ?_, h7.more (by omega), hkk⟩⟩
    · obtain ⟨a, cap, e1, e2, e3, e4⟩ := h3
      refine ⟨a, cap, e1, e2, e3, fun i hi => ?_⟩
      obtain ⟨b, o, e5, e6⟩ := e4 i hi
      refine ⟨b, o, e5, h8.cell e6 fun hn => hn (hvF b ?_)⟩
      rw [e1, e5]; rfl
    · rw [hd]; exact ⟨c, D'', h6, Or.inl ⟨hc, h9⟩⟩
    · rw [hd]; exact ⟨c, D'', h6, Or.inr ⟨hc, rfl, rfl⟩⟩
  · rintro w' ⟨D', h1, _, _, h4, h5⟩
    exact ⟨D', h5 _ _ (by rw [List.drop_of_length_le (by omega)]; exact ⟨rfl, rfl⟩), h1, h4⟩
  · rintro e w' ⟨c, rfl, D', h1, h2, h3⟩
    exact ⟨c, D', rfl, h1, h2, h3⟩
theorem enter_sync1' (args : Array Value) (w : World) : (callFunc 44 args).run Tryd.prog w = .ok (.enter 44 args) w := by kernel_rfl
theorem enter_syncDir (args : Array Value) (w : World) : (callFunc 24 args).run Tryd.prog w = .ok (.enter 24 args) w := by kernel_rfl
set_option maxRecDepth 100000 in
theorem logsync1_at {F : Nat → Prop} {d k p x : Nat} {w : World} {D : PD} {R : Int → PD → Prop} {name : ByteArray} {kind : UInt8} (h : Has F d w D k) (hk : k + 2 ≤ 100000) (hp : LogAt w p d name kind) (hx : w.cell? ⟨x, 0, none⟩ = some (.pointer (some ⟨p, 0, none⟩))) (hs : name.size ≤ 1000000)
    (hR : R (D.deed (rightP name) fun D' => D'.sync name).1 (D.deed (rightP name) fun D' => D'.sync name).2) :
    Calls Tryd.prog 44 #[.pointer (some ⟨x, 0, none⟩)] w (Told F d w k R) := by
  have z0 : w.drew.cell? ⟨p, 0, none⟩ = some (.pointer (some ⟨d, 0, none⟩)) := (cell_at hp).trans rfl
  have z1 : w.drew.cell? ⟨p, 1, none⟩ = some (.string name) := (cell_at hp).trans rfl
  have z2 : w.drew.cell? ⟨x, 0, none⟩ = some (.pointer (some ⟨p, 0, none⟩)) := hx
  have H := Lib.hid h
  have HR := Lib.hid hR
  clear h hp hx hR
  go_enter Tryd.func44, Tryd.ntmps44
  go_wp2_with fail
  refine wp_region_reg (by kernel_rfl) (by kernel_rfl) ?_
  refine reg_quiet 0 rfl (by kernel_rfl) (fun K hK => ?_)
  go_simp
  refine hK _ ?_; clear hK K
  refine reg_quiet 1 rfl (by kernel_rfl) (fun K hK => ?_)
  go_simp
  refine hK _ ?_; clear hK K
  refine reg_quiet 2 rfl (by kernel_rfl) (fun K hK => ?_)
  go_simp
  refine hK _ ?_; clear hK K
  refine reg_quiet 3 rfl (by kernel_rfl) (fun K hK => ?_)
  go_simp
  refine hK _ ?_; clear hK K
  refine reg_quiet 4 rfl (by kernel_rfl) (fun K hK => ?_)
  go_simp
  refine hK _ ?_; clear hK K
  refine reg_quiet 5 rfl (by kernel_rfl) (fun K hK => ?_)
  go_simp
  refine hK _ ?_; clear hK K
  refine reg_quiet 6 rfl (by kernel_rfl) (fun K hK => ?_)
  go_simp
  refine hK _ ?_; clear hK K
  refine reg_quiet 7 rfl (by kernel_rfl) (fun K hK => ?_)
  go_simp
  refine hK _ ?_; clear hK K
  refine reg_turn 8 [] rfl (by kernel_rfl) (by kernel_rfl) (fun K hK => ?_)
  go_simp
  refine (told_sync H.out.drew hk name hs (R := R) HR.out).mono ?_
  rintro e w2 ⟨c, D2, rfl, hr2, h2, hk2⟩
  have HA := Lib.hid (And.intro hr2 (And.intro h2 hk2))
  clear hr2 h2 hk2
  refine hK _ _ (StayOk.nil) ?_; clear hK K
  refine reg_quiet 9 rfl (by kernel_rfl) (fun K hK => ?_)
  go_simp
  refine hK _ ?_; clear hK K
  refine reg_done (by kernel_rfl) ?_
  go_wp2_with fail
  go_ret
  exact ⟨c, D2, rfl, HA.out.1, HA.out.2.1, ((Keeps.refl (fun q => ¬ F q) w).drew).trans HA.out.2.2 (fun _ _ h => h)⟩
theorem LogAt.kept {F : Nat → Prop} {w w' : World} {p d : Nat} {name : ByteArray} {kind : UInt8} (h : LogAt w p d name kind) (hk : Keeps (fun b => ¬ F b) w w') (hp : F p) : LogAt w' p d name kind := hk.heap h fun hn => hn hp
set_option maxRecDepth 100000 in
theorem log_sync {F : Nat → Prop} {d k p : Nat} {w : World} {D : PD} {name : ByteArray} {kind : UInt8} (h : Has F d w D k) (hk : k + 4 ≤ 100000) (hp : LogAt w p d name kind) (hFp : F p) (hs : name.size ≤ 1000000) :
    Calls Tryd.prog 18 #[.pointer (some ⟨p, 0, none⟩)] w (ToldN F d w (k + 4) fun c D' => (c, D') = logSyncP D name) := by
  have Hp := Lib.hid hp
  have H := Lib.hid h
  have hpl := lt_of_heap hp
  clear h hp
  go_enter Tryd.func18, Tryd.ntmps18
  have z0 : (w.alloc (.cells #[.pointer (some ⟨p, 0, none⟩)] 30)).cell? ⟨p, 0, none⟩ = some (.pointer (some ⟨d, 0, none⟩)) := (cell_at (heap_alloc_of Hp.out _)).trans rfl
  go_wp2_with fail
  obtain ⟨w1, hw1⟩ : ∃ w1 : World, (w.alloc (.cells #[.pointer (some ⟨p, 0, none⟩)] 30)).alloc (.cells #[.func (.func 44) #[] #[.pointer (some ⟨w.heap.size, 0, none⟩)], .func (.func 24) #[.pointer (some ⟨d, 0, none⟩)] #[]] 47) = w1 := ⟨_, rfl⟩
  have hb1 : Below w.heap.size w w1 := by rw [← hw1]; exact ((Below.refl _ w).alloc (Nat.le_refl _) _).alloc (by simp) _
  have hsz : w1.heap.size = w.heap.size + 1 + 1 := by rw [← hw1]; simp
  have hx : w1.cell? ⟨w.heap.size, 0, none⟩ = some (.pointer (some ⟨p, 0, none⟩)) := by rw [← hw1]; exact cell_at (heap_alloc_of (heap_alloc_new w _) _)
  have hy : w1.heap[w.heap.size + 1]? = some (.cells (List.map funV [(44, #[], #[.pointer (some ⟨w.heap.size, 0, none⟩)]), (24, #[.pointer (some ⟨d, 0, none⟩)], #[])]).toArray 47 (0, 0)) := by rw [← hw1]; exact heap_alloc_at (by simp) _
  have hp1 : LogAt w1 p d name kind := (hb1.block p hpl).trans Hp.out
  rw [hw1]
  refine (all_told (F := fun b => F b ∨ (w.heap.size ≤ b ∧ b < w1.heap.size)) [fun D c D' => (c, D') = D.deed (rightP name) fun D' => D'.sync name, fun D c D' => (c, D') = D.deed true fun D' => D'.syncDir]
    (fun w' => LogAt w' p d name kind ∧ w'.cell? ⟨w.heap.size, 0, none⟩ = some (.pointer (some ⟨p, 0, none⟩))) ⟨hp1, hx⟩ (fun w1 w2 h hk => ⟨h.1.kept hk (Or.inl hFp), hk.cell h.2 fun hn => hn (Or.inr ⟨Nat.le_refl _, by omega⟩)⟩)
    (Lst.new hy) (fun q hq => by obtain rfl : w.heap.size + 1 = q := Option.some.inj hq; exact Or.inr ⟨by omega, by omega⟩) (by simp) rfl ?_ (H.out.below hb1) (by simp; omega) ?_).mono ?_
  · intro x hx args w'
    rcases List.mem_cons.1 hx with rfl | hx
    · exact enter_sync1' _ _
    · obtain rfl := List.mem_singleton.1 hx
      exact enter_syncDir _ _
  · intro j hj hj' w' D' m hi hh hm
    match j, hj, hj' with
    | 0, _, _ => exact logsync1_at hh hm hi.1 hi.2 hs rfl
    | 1, _, _ => exact told_syncDir hh hm rfl
  · rintro e w2 ht
    have ht2 := (told_before (F := F) hb1 (fun b hb => Or.inl hb) ht).imp (n := k + 4) (by simp) (S := fun c D' => (c, D') = logSyncP D name) (by
      rintro c D' ⟨c1, D1, h1, h2⟩
      unfold logSyncP
      rw [← h1]
      rcases h2 with ⟨rfl, c2, D2, h3, h4⟩ | ⟨h3, rfl, rfl⟩
      · rw [then_ok, ← h3]
        rcases h4 with ⟨rfl, rfl, rfl⟩ | ⟨_, rfl, rfl⟩ <;> rfl
      · rw [then_err h3])
    obtain ⟨c, D', rfl, h1, h2, h3⟩ := ht2
    have HA := Lib.hid (And.intro h1 (And.intro h2 h3))
    clear h1 h2 h3 ht hw1 hb1 hsz hx hy hp1
    go_wp2_with fail
    go_ret
    exact ⟨c, D', rfl, HA.out.1, HA.out.2.1, HA.out.2.2⟩

def spareN (name : ByteArray) : ByteArray := name ++ ⟨#[46, 110, 101, 119]⟩
theorem size_spareN (name : ByteArray) : (spareN name).size = name.size + 4 := by simp [spareN, ByteArray.size_append]; rfl
theorem RecsIn.below {w w' : World} {v : Value} {l : List Bs} (h : RecsIn w v l) (hb : Below w.heap.size w w') : RecsIn w' v l := by
  obtain ⟨vs, ⟨a, cap, e1, e2, e3, e4⟩, h2, h3⟩ := h
  refine ⟨vs, ⟨a, cap, e1, e2, e3, fun j hj => ?_⟩, h2, fun j a b => (h3 j a b).keep fun q _ hq => hb.block q hq⟩
  obtain ⟨b, o, e5, e6⟩ := e4 j hj
  exact ⟨b, o, e5, (hb.cell (p := ⟨b, o + j, none⟩) (World.block_lt_of_cell? w _ e6)).trans e6⟩
theorem log_append_nil (w : World) (v : Value) : Calls Tryd.prog 17 #[.pointer none, v] w fun e w' => e = .returned (.int .i64 8) ∧ w = w' := by
  go_enter Tryd.func17, Tryd.ntmps17
  go_wp2
  all_goals (go_ret; exact ⟨rfl, rfl⟩)
theorem log_sync_nil (w : World) : Calls Tryd.prog 18 #[.pointer none] w fun e w' => e = .returned (.int .i64 8) ∧ Below w.heap.size w w' := by
  go_enter Tryd.func18, Tryd.ntmps18
  go_wp2_with fail
  go_ret
  exact ⟨rfl, (Below.refl _ w).alloc (Nat.le_refl _) _⟩
theorem log_rewrite_nil (w : World) (v : Value) : Calls Tryd.prog 19 #[.pointer none, v] w fun e w' => e = .returned (.int .i64 8) ∧ Below w.heap.size w w' := by
  go_enter Tryd.func19, Tryd.ntmps19
  go_wp2_with fail
  go_ret
  exact ⟨rfl, (Below.refl _ w).alloc (Nat.le_refl _) _⟩
theorem enter_rw1 (args : Array Value) (w : World) : (callFunc 46 args).run Tryd.prog w = .ok (.enter 46 args) w := by kernel_rfl
theorem enter_rw2 (args : Array Value) (w : World) : (callFunc 47 args).run Tryd.prog w = .ok (.enter 47 args) w := by kernel_rfl
theorem enter_rw3 (args : Array Value) (w : World) : (callFunc 48 args).run Tryd.prog w = .ok (.enter 48 args) w := by kernel_rfl
section
variable {F : Nat → Prop} {d k p x y z : Nat} {w : World} {D : PD} {R : Int → PD → Prop} {name fresh : ByteArray} {kind : UInt8}
set_option maxRecDepth 100000 in
theorem rw1_at (h : Has F d w D k) (hk : k + 2 ≤ 100000) (hp : LogAt w p d name kind) (hx : w.cell? ⟨x, 0, none⟩ = some (.pointer (some ⟨p, 0, none⟩))) (hy : w.cell? ⟨y, 0, none⟩ = some (.string fresh)) {a : Option Addr} {c : Nat} {b : Bs} (hz : w.cell? ⟨z, 0, none⟩ = some (.slice a b.length c)) (hb : Bin w (.slice a b.length c) b)
    (hl : b.length ≤ 1000000) (hs : fresh.size ≤ 1000000) (hv : ∀ q, (Value.slice a b.length c).ownBlock = some q → F q)
    (hR : ∀ p, ¬ D.has p → R (D.deed (rightP fresh) fun D' => D'.fresh fresh b p).1 (D.deed (rightP fresh) fun D' => D'.fresh fresh b p).2) :
    Calls Tryd.prog 46 #[.pointer (some ⟨x, 0, none⟩), .pointer (some ⟨y, 0, none⟩), .pointer (some ⟨z, 0, none⟩)] w (Told F d w k R) := by
  have z0 : w.drew.cell? ⟨p, 0, none⟩ = some (.pointer (some ⟨d, 0, none⟩)) := (cell_at hp).trans rfl
  have z2 : w.drew.cell? ⟨x, 0, none⟩ = some (.pointer (some ⟨p, 0, none⟩)) := hx
  have z3 : w.drew.cell? ⟨y, 0, none⟩ = some (.string fresh) := hy
  have z4 : w.drew.cell? ⟨z, 0, none⟩ = some (.slice a b.length c) := hz
  have H := Lib.hid h
  have HR := Lib.hid hR
  have Hb := Lib.hid hb
  have Hv := Lib.hid hv
  clear h hp hx hy hz hR hb hv
  go_enter Tryd.func46, Tryd.ntmps46
  go_wp2_with fail
  refine wp_region_reg (by kernel_rfl) (by kernel_rfl) ?_
  refine reg_quiet 0 rfl (by kernel_rfl) (fun K hK => ?_)
  go_simp
  refine hK _ ?_; clear hK K
  refine reg_quiet 1 rfl (by kernel_rfl) (fun K hK => ?_)
  go_simp
  refine hK _ ?_; clear hK K
  refine reg_quiet 2 rfl (by kernel_rfl) (fun K hK => ?_)
  go_simp
  refine hK _ ?_; clear hK K
  refine reg_quiet 3 rfl (by kernel_rfl) (fun K hK => ?_)
  go_simp
  refine hK _ ?_; clear hK K
  refine reg_quiet 4 rfl (by kernel_rfl) (fun K hK => ?_)
  go_simp
  refine hK _ ?_; clear hK K
  refine reg_quiet 5 rfl (by kernel_rfl) (fun K hK => ?_)
  go_simp
  refine hK _ ?_; clear hK K
  refine reg_turn 6 [] rfl (by kernel_rfl) (by kernel_rfl) (fun K hK => ?_)
  go_simp
  refine (told_write H.out.drew hk fresh hs (Bin.keep (w := w) Hb.out fun _ _ _ => rfl) hl (fun _ => Hv.out) (R := R) HR.out).mono ?_
  rintro e w2 ⟨c, D2, rfl, hr2, h2, hk2⟩
  have HA := Lib.hid (And.intro hr2 (And.intro h2 hk2))
  clear hr2 h2 hk2
  refine hK _ _ (StayOk.nil) ?_; clear hK K
  refine reg_quiet 7 rfl (by kernel_rfl) (fun K hK => ?_)
  go_simp
  refine hK _ ?_; clear hK K
  refine reg_done (by kernel_rfl) ?_
  go_wp2_with fail
  go_ret
  exact ⟨_, D2, rfl, HA.out.1, HA.out.2.1, ((Keeps.refl (fun q => ¬ F q) w).drew).trans HA.out.2.2 (fun _ _ h => h)⟩
set_option maxRecDepth 100000 in
theorem rw2_at (h : Has F d w D k) (hk : k + 2 ≤ 100000) (hp : LogAt w p d name kind) (hx : w.cell? ⟨x, 0, none⟩ = some (.pointer (some ⟨p, 0, none⟩))) (hy : w.cell? ⟨y, 0, none⟩ = some (.string fresh)) (hs : fresh.size ≤ 1000000)
    (hR : R (D.deed (rightP fresh) fun D' => D'.sync fresh).1 (D.deed (rightP fresh) fun D' => D'.sync fresh).2) :
    Calls Tryd.prog 47 #[.pointer (some ⟨x, 0, none⟩), .pointer (some ⟨y, 0, none⟩)] w (Told F d w k R) := by
  have z0 : w.drew.cell? ⟨p, 0, none⟩ = some (.pointer (some ⟨d, 0, none⟩)) := (cell_at hp).trans rfl
  have z2 : w.drew.cell? ⟨x, 0, none⟩ = some (.pointer (some ⟨p, 0, none⟩)) := hx
  have z3 : w.drew.cell? ⟨y, 0, none⟩ = some (.string fresh) := hy
  have H := Lib.hid h
  have HR := Lib.hid hR
  clear h hp hx hy hR
  go_enter Tryd.func47, Tryd.ntmps47
  go_wp2_with fail
  refine wp_region_reg (by kernel_rfl) (by kernel_rfl) ?_
  refine reg_quiet 0 rfl (by kernel_rfl) (fun K hK => ?_)
  go_simp
  refine hK _ ?_; clear hK K
  refine reg_quiet 1 rfl (by kernel_rfl) (fun K hK => ?_)
  go_simp
  refine hK _ ?_; clear hK K
  refine reg_quiet 2 rfl (by kernel_rfl) (fun K hK => ?_)
  go_simp
  refine hK _ ?_; clear hK K
  refine reg_quiet 3 rfl (by kernel_rfl) (fun K hK => ?_)
  go_simp
  refine hK _ ?_; clear hK K
  refine reg_quiet 4 rfl (by kernel_rfl) (fun K hK => ?_)
  go_simp
  refine hK _ ?_; clear hK K
  refine reg_turn 5 [] rfl (by kernel_rfl) (by kernel_rfl) (fun K hK => ?_)
  go_simp
  refine (told_sync H.out.drew hk fresh hs (R := R) HR.out).mono ?_
  rintro e w2 ⟨c, D2, rfl, hr2, h2, hk2⟩
  have HA := Lib.hid (And.intro hr2 (And.intro h2 hk2))
  clear hr2 h2 hk2
  refine hK _ _ (StayOk.nil) ?_; clear hK K
  refine reg_quiet 6 rfl (by kernel_rfl) (fun K hK => ?_)
  go_simp
  refine hK _ ?_; clear hK K
  refine reg_done (by kernel_rfl) ?_
  go_wp2_with fail
  go_ret
  exact ⟨_, D2, rfl, HA.out.1, HA.out.2.1, ((Keeps.refl (fun q => ¬ F q) w).drew).trans HA.out.2.2 (fun _ _ h => h)⟩
set_option maxRecDepth 100000 in
theorem rw3_at (h : Has F d w D k) (hk : k + 2 ≤ 100000) (hp : LogAt w p d name kind) (hx : w.cell? ⟨x, 0, none⟩ = some (.pointer (some ⟨p, 0, none⟩))) (hy : w.cell? ⟨y, 0, none⟩ = some (.string fresh)) (hn : name.size ≤ 1000000) (hs : fresh.size ≤ 1000000)
    (hR : R (D.deed (rightP fresh && rightP name) fun D' => D'.rename fresh name).1 (D.deed (rightP fresh && rightP name) fun D' => D'.rename fresh name).2) :
    Calls Tryd.prog 48 #[.pointer (some ⟨x, 0, none⟩), .pointer (some ⟨y, 0, none⟩)] w (Told F d w k R) := by
  have z0 : w.drew.cell? ⟨p, 0, none⟩ = some (.pointer (some ⟨d, 0, none⟩)) := (cell_at hp).trans rfl
  have z1 : w.drew.cell? ⟨p, 1, none⟩ = some (.string name) := (cell_at hp).trans rfl
  have z2 : w.drew.cell? ⟨x, 0, none⟩ = some (.pointer (some ⟨p, 0, none⟩)) := hx
  have z3 : w.drew.cell? ⟨y, 0, none⟩ = some (.string fresh) := hy
  have H := Lib.hid h
  have HR := Lib.hid hR
  clear h hp hx hy hR
  go_enter Tryd.func48, Tryd.ntmps48
  go_wp2_with fail
  refine wp_region_reg (by kernel_rfl) (by kernel_rfl) ?_
  refine reg_quiet 0 rfl (by kernel_rfl) (fun K hK => ?_)
  go_simp
  refine hK _ ?_; clear hK K
  refine reg_quiet 1 rfl (by kernel_rfl) (fun K hK => ?_)
  go_simp
  refine hK _ ?_; clear hK K
  refine reg_quiet 2 rfl (by kernel_rfl) (fun K hK => ?_)
  go_simp
  refine hK _ ?_; clear hK K
  refine reg_quiet 3 rfl (by kernel_rfl) (fun K hK => ?_)
  go_simp
  refine hK _ ?_; clear hK K
  refine reg_quiet 4 rfl (by kernel_rfl) (fun K hK => ?_)
  go_simp
  refine hK _ ?_; clear hK K
  refine reg_quiet 5 rfl (by kernel_rfl) (fun K hK => ?_)
  go_simp
  refine hK _ ?_; clear hK K
  refine reg_quiet 6 rfl (by kernel_rfl) (fun K hK => ?_)
  go_simp
  refine hK _ ?_; clear hK K
  refine reg_quiet 7 rfl (by kernel_rfl) (fun K hK => ?_)
  go_simp
  refine hK _ ?_; clear hK K
  refine reg_quiet 8 rfl (by kernel_rfl) (fun K hK => ?_)
  go_simp
  refine hK _ ?_; clear hK K
  refine reg_turn 9 [] rfl (by kernel_rfl) (by kernel_rfl) (fun K hK => ?_)
  go_simp
  refine (told_rename H.out.drew hk fresh name hs hn (R := R) HR.out).mono ?_
  rintro e w2 ⟨c, D2, rfl, hr2, h2, hk2⟩
  have HA := Lib.hid (And.intro hr2 (And.intro h2 hk2))
  clear hr2 h2 hk2
  refine hK _ _ (StayOk.nil) ?_; clear hK K
  refine reg_quiet 10 rfl (by kernel_rfl) (fun K hK => ?_)
  go_simp
  refine hK _ ?_; clear hK K
  refine reg_done (by kernel_rfl) ?_
  go_wp2_with fail
  go_ret
  exact ⟨_, D2, rfl, HA.out.1, HA.out.2.1, ((Keeps.refl (fun q => ¬ F q) w).drew).trans HA.out.2.2 (fun _ _ h => h)⟩
end
set_option maxRecDepth 100000 in
/-- The first record is too long. -/
theorem frames_long {w : World} {a : Option Addr} {n c : Nat} {v : Value} {r : Bs} {l : List Bs} (hr : RecsIn w v (r :: l)) (hl : l.length ≤ 100) (hrl : 4096 < r.length) :
    Calls Tryd.prog 45 #[.slice a n c, v] w fun e w' => e = .returned (.tuple #[.slice none 0 0, .int .i64 3]) ∧ Below w.heap.size w w' := by
  obtain ⟨vs, ⟨va, vc, rfl, h1, h2, hc⟩, h3, h4⟩ := hr
  have hvl : vs.length = l.length + 1 := h3
  rw [hvl]
  obtain ⟨ab, ao, rfl, hcell⟩ := hc 0 (by omega)
  have hb := h4 0 (by omega) (by simp)
  obtain ⟨u, hu⟩ : ∃ u, vs[0]'(by omega) = u := ⟨_, rfl⟩
  rw [hu, Nat.add_zero] at hcell
  rw [hu] at hb
  have hb0 : Bin w u r := hb
  obtain ⟨ua, uc, rfl⟩ : ∃ x y, u = .slice x r.length y := by obtain ⟨x, y, e, _⟩ := hb0; exact ⟨x, y, e⟩
  have Hb := Lib.hid hb0
  clear hb hb0 hu h4 hc h2 h1 h3 hvl
  go_enter Tryd.func45, Tryd.ntmps45
  go_wp2_with fail
  go_loopw [0, 12] (fun bv iv wr => bv = .slice a n c ∧ iv = .int .i64 0 ∧ w = wr) (fun _ _ _ => 0)
  case atStart => exact ⟨rfl, rfl, rfl⟩
  case round =>
    obtain ⟨rfl, rfl, rfl⟩ := hrel
    have g : decide ((0 : Int) < ((l.length + 1 : Nat) : Int)) = true := by simp
    go_wp2_with fail
    refine (frame_long Hb.out hrl).mono ?_
    rintro e0 w2 ⟨rfl, rfl⟩
    go_wp2_with fail
    go_ret2
    exact ⟨rfl, Below.refl _ w⟩

theorem len_frames_le : ∀ l : List Bs, (∀ x ∈ l, x.length ≤ 4096) → (framesL l).length ≤ 4104 * l.length
  | [], _ => by simp [framesL]
  | r :: l, h => by
    have h1 := len_frames_le l fun x hx => h x (List.mem_cons_of_mem _ hx)
    have h2 := h r (List.mem_cons_self ..)
    rw [framesL_cons, List.length_append, len_frameP, List.length_cons]
    omega
set_option maxRecDepth 100000 in
theorem log_rewrite {F : Nat → Prop} {d k p : Nat} {w : World} {D : PD} {name : ByteArray} {kind : UInt8} {v : Value} {l : List Bs} (h : Has F d w D k) (hk : k + 8 ≤ 100000) (hp : LogAt w p d name kind) (hFp : F p) (hs : name.size ≤ 100000) (hr : RecsIn w v l) (hl : l.length ≤ 100) (hlen : ∀ x ∈ l, x.length ≤ 4096) :
    Calls Tryd.prog 19 #[.pointer (some ⟨p, 0, none⟩), v] w (ToldN F d w (k + 8) fun c D' => ∃ q, ¬ D.has q ∧ (c, D') = logRewriteP D name (spareN name) (fileP kind l) q) := by
  have hpl := lt_of_heap hp
  obtain ⟨wa, hwa⟩ : ∃ wa : World, w.alloc (.cells #[.pointer (some ⟨p, 0, none⟩)] 30) = wa := ⟨_, rfl⟩
  have hba : Below w.heap.size w wa := by rw [← hwa]; exact (Below.refl _ w).alloc (Nat.le_refl _) _
  have hza : wa.heap.size = w.heap.size + 1 := by rw [← hwa]; simp
  have hxa : wa.heap[w.heap.size]? = some (.cells #[.pointer (some ⟨p, 0, none⟩)] 30 (0, 0)) := by rw [← hwa]; exact heap_alloc_new w _
  have hpa : LogAt wa p d name kind := (hba.block p hpl).trans hp
  have z0 : wa.cell? ⟨p, 2, none⟩ = some (.int .u8 kind.toNat) := (cell_at hpa).trans rfl
  have zx : wa.cell? ⟨w.heap.size, 0, none⟩ = some (.pointer (some ⟨p, 0, none⟩)) := cell_at hxa
  have H := Lib.hid h
  have Hba := Lib.hid hba
  have Hpa := Lib.hid (And.intro hpa hxa)
  have Hr := Lib.hid hr
  have Hza := Lib.hid hza
  clear h hp hba hpa hxa hr hza
  go_enter Tryd.func19, Tryd.ntmps19
  go_wp2_with fail
  refine (head_at wa kind).mono ?_
  rintro e0 w1 ⟨ha, hc, rfl, hown, hb1, hf1⟩
  have hb1w : Below w.heap.size w w1 := Hba.out.trans (hb1.mono Hba.out.size)
  have hz1 : w.heap.size + 1 ≤ w1.heap.size := by have := hb1.size; have := Hza.out; omega
  have hp1 : LogAt w1 p d name kind := (hb1.block p (by have := Hza.out; omega)).trans Hpa.out.1
  have hx1 : w1.heap[w.heap.size]? = some (.cells #[.pointer (some ⟨p, 0, none⟩)] 30 (0, 0)) := (hb1.block _ (by have := Hza.out; omega)).trans Hpa.out.2
  have hfr := frames_at (h := headP kind) (v := v) (l := l) hown (Hr.out.below hb1w) hl hlen (by rw [len_headP]; decide) (w.heap.size + 1) hz1 (fun q hq => by have := hf1 q hq; have := Hza.out; omega)
    (fun w' hw => Hr.out.below (hb1w.trans (hw.mono (Nat.le_succ _))))
  have hfr2 : Calls Tryd.prog 45 #[.slice ha 8 hc, v] w1 _ := hfr
  have Hfr := Lib.hid hfr2
  have Hb1 := Lib.hid hb1w
  have Hx1 := Lib.hid (And.intro hp1 hx1)
  clear hfr hfr2 hown hb1 hf1 hb1w hp1 hx1 hwa z0 zx
  have z0 : w1.cell? ⟨p, 1, none⟩ = some (.string name) := (cell_at Hx1.out.1).trans rfl
  clear z0
  go_wp2_with fail
  refine Hfr.out.mono ?_
  rintro e0 w2 ⟨fa, fc, rfl, hown, hb2, hf2⟩
  have hp2 : LogAt w2 p d name kind := (hb2.block p (by omega)).trans Hx1.out.1
  have hx2 : w2.heap[w.heap.size]? = some (.cells #[.pointer (some ⟨p, 0, none⟩)] 30 (0, 0)) := (hb2.block _ (by omega)).trans Hx1.out.2
  have hb2w : Below w.heap.size w w2 := Hb1.out.trans (hb2.mono (Nat.le_succ _))
  have hz2 : w.heap.size + 1 ≤ w2.heap.size := Nat.le_trans hz1 hb2.size
  obtain ⟨m, hm⟩ : ∃ m, (framesP (headP kind) l).length = m := ⟨_, rfl⟩
  rw [hm] at hown hf2 ⊢
  obtain ⟨w3, hw3⟩ : ∃ w3 : World, w2.alloc (.cells #[.slice fa m fc] 22) = w3 := ⟨_, rfl⟩
  have hb3 : Below w2.heap.size w2 w3 := by rw [← hw3]; exact (Below.refl _ w2).alloc (Nat.le_refl _) _
  have hz3 : w3.heap.size = w2.heap.size + 1 := by rw [← hw3]; simp
  have hzz : w3.heap[w2.heap.size]? = some (.cells #[.slice fa m fc] 22 (0, 0)) := by rw [← hw3]; exact heap_alloc_new w2 _
  have z0 : w3.cell? ⟨p, 1, none⟩ = some (.string name) := (cell_at ((hb3.block p (by omega)).trans hp2)).trans rfl
  have z1 : w3.cell? ⟨w.heap.size, 0, none⟩ = some (.pointer (some ⟨p, 0, none⟩)) := cell_at ((hb3.block _ (by omega)).trans hx2)
  have HO := Lib.hid (And.intro hm (And.intro hown hf2))
  have H2 := Lib.hid (And.intro hp2 (And.intro hx2 hb2w))
  have H3 := Lib.hid (And.intro hb3 (And.intro hz3 hzz))
  clear hm hown hf2 hp2 hx2 hb2w hb3 hz3 hzz hb2
  have z2 : w3.cell? ⟨p, 0, none⟩ = some (.pointer (some ⟨d, 0, none⟩)) := (cell_at ((H3.out.1.block p (by omega)).trans H2.out.1)).trans rfl
  obtain ⟨w4, hw4⟩ : ∃ w4 : World, w3.alloc (.cells #[.string (name ++ ⟨#[46, 110, 101, 119]⟩)] 9) = w4 := ⟨_, rfl⟩
  have hb4 : Below w3.heap.size w3 w4 := by rw [← hw4]; exact (Below.refl _ w3).alloc (Nat.le_refl _) _
  have hz4 : w4.heap.size = w3.heap.size + 1 := by rw [← hw4]; simp
  have hyy : w4.heap[w3.heap.size]? = some (.cells #[.string (spareN name)] 9 (0, 0)) := by rw [← hw4]; exact heap_alloc_new w3 _
  have hp4 : LogAt w4 p d name kind := (hb4.block p (by have := H3.out.2.1; omega)).trans ((H3.out.1.block p (by omega)).trans H2.out.1)
  have hx4 : w4.heap[w.heap.size]? = some (.cells #[.pointer (some ⟨p, 0, none⟩)] 30 (0, 0)) := (hb4.block _ (by have := H3.out.2.1; omega)).trans ((H3.out.1.block _ (by omega)).trans H2.out.2.1)
  have hv4 : w4.heap[w2.heap.size]? = some (.cells #[.slice fa m fc] 22 (0, 0)) := (hb4.block _ (by have := H3.out.2.1; omega)).trans H3.out.2.2
  have z3 : w4.cell? ⟨p, 0, none⟩ = some (.pointer (some ⟨d, 0, none⟩)) := (cell_at hp4).trans rfl
  have z4 : w4.cell? ⟨w.heap.size, 0, none⟩ = some (.pointer (some ⟨p, 0, none⟩)) := cell_at hx4
  have H4 := Lib.hid (And.intro hb4 (And.intro hz4 (And.intro hyy (And.intro hp4 (And.intro hx4 hv4)))))
  clear hb4 hz4 hyy hp4 hx4 hv4
  go_wp2_with fail
  obtain ⟨w5, hw5⟩ : ∃ w5 : World, w4.alloc (.cells #[.func (.func 46) #[] #[.pointer (some ⟨w.heap.size, 0, none⟩), .pointer (some ⟨w3.heap.size, 0, none⟩), .pointer (some ⟨w2.heap.size, 0, none⟩)], .func (.func 47) #[] #[.pointer (some ⟨w.heap.size, 0, none⟩), .pointer (some ⟨w3.heap.size, 0, none⟩)], .func (.func 48) #[] #[.pointer (some ⟨w.heap.size, 0, none⟩), .pointer (some ⟨w3.heap.size, 0, none⟩)], .func (.func 24) #[.pointer (some ⟨d, 0, none⟩)] #[]] 47) = w5 := ⟨_, rfl⟩
  have hb5 : Below w4.heap.size w4 w5 := by rw [← hw5]; exact (Below.refl _ w4).alloc (Nat.le_refl _) _
  have hz5 : w5.heap.size = w4.heap.size + 1 := by rw [← hw5]; simp
  have hq5 : w5.heap[w4.heap.size]? = some (.cells (List.map funV [(46, #[], #[.pointer (some ⟨w.heap.size, 0, none⟩), .pointer (some ⟨w3.heap.size, 0, none⟩), .pointer (some ⟨w2.heap.size, 0, none⟩)]), (47, #[], #[.pointer (some ⟨w.heap.size, 0, none⟩), .pointer (some ⟨w3.heap.size, 0, none⟩)]), (48, #[], #[.pointer (some ⟨w.heap.size, 0, none⟩), .pointer (some ⟨w3.heap.size, 0, none⟩)]), (24, #[.pointer (some ⟨d, 0, none⟩)], #[])]).toArray 47 (0, 0)) := by rw [← hw5]; exact heap_alloc_new w4 _
  obtain ⟨hb4, hz4, hyy, hp4, hx4, hv4⟩ := H4.out
  obtain ⟨hb3, hz3, _⟩ := H3.out
  obtain ⟨_, _, hb2w⟩ := H2.out
  obtain ⟨hm, hown, hf2⟩ := HO.out
  have hbw : Below w.heap.size w w5 := ((hb2w.trans (hb3.mono hb2w.size)).trans (hb4.mono (by omega))).trans (hb5.mono (by omega))
  have hbin : Bin w5 (.slice fa m fc) (fileP kind l) := by
    subst hm
    refine (Bown.bin hown).keep fun q _ hq => ?_
    exact (hb5.block q (by omega)).trans ((hb4.block q (by omega)).trans (hb3.block q hq))
  have hml : (fileP kind l).length = m := hm
  have hsl : m ≤ 1000000 := by
    rw [← hml]
    have := len_frames_le l hlen
    rw [len_fileP]
    omega
  rw [hw5]
  refine (all_told (F := fun b => F b ∨ (w.heap.size ≤ b ∧ b < w5.heap.size))
    [fun D c D' => ∃ q, ¬ D.has q ∧ (c, D') = D.deed (rightP (spareN name)) fun D' => D'.fresh (spareN name) (fileP kind l) q, fun D c D' => (c, D') = D.deed (rightP (spareN name)) fun D' => D'.sync (spareN name), fun D c D' => (c, D') = D.deed (rightP (spareN name) && rightP name) fun D' => D'.rename (spareN name) name, fun D c D' => (c, D') = D.deed true fun D' => D'.syncDir]
    (fun w' => LogAt w' p d name kind ∧ w'.cell? ⟨w.heap.size, 0, none⟩ = some (.pointer (some ⟨p, 0, none⟩)) ∧ w'.cell? ⟨w3.heap.size, 0, none⟩ = some (.string (spareN name)) ∧ w'.cell? ⟨w2.heap.size, 0, none⟩ = some (.slice fa m fc) ∧ Bin w' (.slice fa m fc) (fileP kind l))
    ⟨(hb5.block p (by omega)).trans hp4, cell_at ((hb5.block _ (by omega)).trans hx4), cell_at ((hb5.block _ (by omega)).trans hyy), cell_at ((hb5.block _ (by omega)).trans hv4), hbin⟩
    (fun wx wy h hk => ⟨h.1.kept hk (Or.inl hFp), hk.cell h.2.1 fun hn => hn (Or.inr ⟨by omega, by omega⟩), hk.cell h.2.2.1 fun hn => hn (Or.inr ⟨by omega, by omega⟩), hk.cell h.2.2.2.1 fun hn => hn (Or.inr ⟨by omega, by omega⟩),
      h.2.2.2.2.keep fun q hq hlt => hk.block q hlt fun hn => hn (Or.inr ⟨by have := hf2 q hq; omega, by have := hown.lt q hq; omega⟩)⟩)
    (Lst.new hq5) (fun q hq => by obtain rfl : w4.heap.size = q := Option.some.inj hq; exact Or.inr ⟨by omega, by omega⟩) (by simp) rfl ?_ (H.out.below hbw) (by simp; omega) ?_).mono ?_
  · intro x hx args w'
    rcases List.mem_cons.1 hx with rfl | hx
    · exact enter_rw1 _ _
    rcases List.mem_cons.1 hx with rfl | hx
    · exact enter_rw2 _ _
    rcases List.mem_cons.1 hx with rfl | hx
    · exact enter_rw3 _ _
    obtain rfl := List.mem_singleton.1 hx
    exact enter_syncDir _ _
  · intro j hj hj' w' D' mm hi hh hmm
    obtain ⟨i1, i2, i3, i4, i5⟩ := hi
    have hss : (spareN name).size ≤ 1000000 := by rw [size_spareN]; omega
    match j, hj, hj' with
    | 0, _, _ =>
      subst hm
      exact rw1_at hh hmm i1 i2 i3 i4 i5 hsl hss (fun q hq => Or.inr ⟨by have := hf2 q hq; omega, by have := hown.lt q hq; omega⟩) fun q hq => ⟨q, hq, rfl⟩
    | 1, _, _ => exact rw2_at hh hmm i1 i2 i3 hss rfl
    | 2, _, _ => exact rw3_at hh hmm i1 i2 i3 (by omega) hss rfl
    | 3, _, _ => exact told_syncDir hh hmm rfl
  · rintro e w6 ht
    have ht2 := (told_before (F := F) hbw (fun b hb => Or.inl hb) ht).imp (n := k + 8) (by simp) (S := fun c D' => ∃ q, ¬ D.has q ∧ (c, D') = logRewriteP D name (spareN name) (fileP kind l) q) (by
      rintro c D' ⟨c1, D1, ⟨q, hq, h1⟩, h2⟩
      refine ⟨q, hq, ?_⟩
      unfold logRewriteP
      rw [← h1]
      rcases h2 with ⟨rfl, c2, D2, h3, h4⟩ | ⟨h3, rfl, rfl⟩
      · rw [then_ok, ← h3]
        rcases h4 with ⟨rfl, c3, D3, h5, h6⟩ | ⟨h5, rfl, rfl⟩
        · rw [then_ok, ← h5]
          rcases h6 with ⟨rfl, c4, D4, h7, h8⟩ | ⟨h7, rfl, rfl⟩
          · rw [then_ok, ← h7]
            rcases h8 with ⟨rfl, rfl, rfl⟩ | ⟨_, rfl, rfl⟩ <;> rfl
          · rw [then_err h7]
        · rw [then_err h5]
      · rw [then_err h3])
    obtain ⟨c, D', rfl, h1, h2, h3⟩ := ht2
    have HA := Lib.hid (And.intro h1 (And.intro h2 h3))
    clear h1 h2 h3 ht hw5 hb5 hz5 hq5 hb4 hz4 hyy hp4 hx4 hv4 hb3 hz3 hb2w hm hown hf2 hbw hbin hml hsl hw4 hw3 z0 z1 z2 z3 z4
    go_wp2_with fail
    go_ret
    exact ⟨c, D', rfl, HA.out.1, HA.out.2.1, HA.out.2.2⟩
set_option maxRecDepth 100000 in
/-- Its first record is too long. -/
theorem log_rewrite_long {d p : Nat} {w : World} {name : ByteArray} {kind : UInt8} {v : Value} {r : Bs} {l : List Bs} (hp : LogAt w p d name kind) (hr : RecsIn w v (r :: l)) (hl : l.length ≤ 100) (hrl : 4096 < r.length) :
    Calls Tryd.prog 19 #[.pointer (some ⟨p, 0, none⟩), v] w fun e w' => e = .returned (.int .i64 3) ∧ Below w.heap.size w w' := by
  have hpl := lt_of_heap hp
  obtain ⟨wa, hwa⟩ : ∃ wa : World, w.alloc (.cells #[.pointer (some ⟨p, 0, none⟩)] 30) = wa := ⟨_, rfl⟩
  have hba : Below w.heap.size w wa := by rw [← hwa]; exact (Below.refl _ w).alloc (Nat.le_refl _) _
  have hpa : LogAt wa p d name kind := (hba.block p hpl).trans hp
  have z0 : wa.cell? ⟨p, 2, none⟩ = some (.int .u8 kind.toNat) := (cell_at hpa).trans rfl
  have zx : wa.cell? ⟨w.heap.size, 0, none⟩ = some (.pointer (some ⟨p, 0, none⟩)) := by rw [← hwa]; exact cell_at (heap_alloc_new w _)
  have Hba := Lib.hid hba
  have Hr := Lib.hid hr
  clear hp hba hpa hr
  go_enter Tryd.func19, Tryd.ntmps19
  go_wp2_with fail
  refine (head_at wa kind).mono ?_
  rintro e0 w1 ⟨ha, hc, rfl, hown, hb1, hf1⟩
  have hb1w : Below w.heap.size w w1 := Hba.out.trans (hb1.mono Hba.out.size)
  have hfr := frames_long (a := ha) (n := 8) (c := hc) (Hr.out.below hb1w) hl hrl
  have Hfr := Lib.hid hfr
  have Hb1 := Lib.hid hb1w
  clear hfr hown hb1 hf1 hb1w hwa z0 zx
  go_wp2_with fail
  refine Hfr.out.mono ?_
  rintro e0 w2 ⟨rfl, hb2⟩
  have Hb2 := Lib.hid (Hb1.out.trans (hb2.mono Hb1.out.size))
  clear hb2
  go_wp2_with fail
  go_ret
  exact ⟨rfl, Hb2.out.alloc Hb2.out.size _⟩

/-- Records in memory, each of its own block, all blocks of G. -/
def RecG (G : Nat → Prop) (w : World) (v : Value) (l : List Bs) : Prop :=
  ∃ vs : List Value, Row w 22 1 v l.length vs ∧ vs.length = l.length ∧ (∀ j (h1 : j < vs.length) (h2 : j < l.length), Bin w vs[j] l[j] ∧ ∀ q, vs[j].ownBlock = some q → G q ∧ v.ownBlock ≠ some q) ∧ ∀ q, v.ownBlock = some q → G q
theorem Recs.g {w : World} {N : Nat} {v : Value} {l : List Bs} (h : Recs w N v l) {G : Nat → Prop} (hG : ∀ q, N ≤ q → q < w.heap.size → G q) : RecG G w v l := by
  obtain ⟨vs, h1, h2, h3, h4⟩ := h
  exact ⟨vs, h1, h2, fun j a b => ⟨(h3 j a b).1, fun q hq => ⟨hG q ((h3 j a b).2 q hq).1 ((h3 j a b).2 q hq).2.1, ((h3 j a b).2 q hq).2.2⟩⟩, fun q hq => hG q (h4 q hq) (h1.lt q hq)⟩
theorem RecG.kept {G : Nat → Prop} {w w' : World} {v : Value} {l : List Bs} (h : RecG G w v l) (hk : Keeps (fun b => ¬ G b) w w') : RecG G w' v l := by
  obtain ⟨vs, h1, h2, h3, h4⟩ := h
  exact ⟨vs, h1.keep fun q hq => hk.block q (h1.lt q hq) fun hn => hn (h4 q hq), h2, fun j a b => ⟨(h3 j a b).1.keep fun q hq hlt => hk.block q hlt fun hn => hn ((h3 j a b).2 q hq).1, (h3 j a b).2⟩, h4⟩
theorem RecG.mono {G G' : Nat → Prop} {w : World} {v : Value} {l : List Bs} (h : RecG G w v l) (hG : ∀ q, G q → G' q) : RecG G' w v l := by
  obtain ⟨vs, h1, h2, h3, h4⟩ := h
  exact ⟨vs, h1, h2, fun j a b => ⟨(h3 j a b).1, fun q hq => ⟨hG q ((h3 j a b).2 q hq).1, ((h3 j a b).2 q hq).2⟩⟩, fun q hq => hG q (h4 q hq)⟩
theorem row_lst {w : World} {e : TypeId} {v : Value} {n : Nat} {vs : List Value} (h : Row w e 1 v n vs) (hn : vs.length = n) : Lst w v vs := by
  obtain ⟨_, h2⟩ := h
  rcases h2 with ⟨rfl, rfl⟩ | ⟨g, cap, cur, rfl, h3, h4, h5, _, h7⟩
  · obtain rfl := List.length_eq_zero_iff.1 hn
    exact Lst.nil w
  · subst hn
    refine ⟨some ⟨g, 0, none⟩, cap, rfl, h4, (fun h => by cases h), fun j hj => ⟨g, 0, rfl, ?_⟩⟩
    rw [Nat.zero_add, cell_at h3]
    have e : vs[j]? = cur.toList[j]? := by
      have := congrArg (fun l : List Value => l[j]?) h7
      simp only [List.getElem?_take_of_lt (show j < vs.length * 1 by omega)] at this
      exact this.symm
    rw [List.getElem?_eq_getElem hj, Array.getElem?_toList] at e
    exact e.symm
theorem RecG.recsIn {G : Nat → Prop} {w : World} {v : Value} {l : List Bs} (h : RecG G w v l) : RecsIn w v l := by
  obtain ⟨vs, h1, h2, h3, _⟩ := h
  exact ⟨vs, row_lst h1 h2, h2, fun j a b => (h3 j a b).1⟩
theorem Recs.lower {w : World} {N M : Nat} {v : Value} {l : List Bs} (h : Recs w N v l) (hM : M ≤ N) : Recs w M v l := by
  obtain ⟨vs, h1, h2, h3, h4⟩ := h
  exact ⟨vs, h1, h2, fun j a b => ⟨(h3 j a b).1, fun q hq => ⟨Nat.le_trans hM ((h3 j a b).2 q hq).1, ((h3 j a b).2 q hq).2⟩⟩, fun q hq => Nat.le_trans hM (h4 q hq)⟩
/-- What Open comes to. -/
def Opened (F : Nat → Prop) (d k : Nat) (w : World) (D : PD) (name : ByteArray) (kind : UInt8) (e : Ending) (w' : World) : Prop :=
  ∃ (c : Int) (q : Nat) (pv v' : Value) (G : Nat → Prop), e = .returned (.tuple #[pv, v', .int .i64 c]) ∧ ¬ (spareP D (spareN name)).2.has q ∧ c = (logOpenP D name (spareN name) kind q).1 ∧ Has G d w' (logOpenP D name (spareN name) kind q).2 (k + 4) ∧ (∀ b, F b → G b) ∧ Keeps (fun b => ¬ F b) w w' ∧
    (c ≠ 0 → pv = .pointer none ∧ v' = .slice none 0 0) ∧
    (c = 0 → ∃ p, pv = .pointer (some ⟨p, 0, none⟩) ∧ w.heap.size ≤ p ∧ LogAt w' p d name kind ∧ G p ∧ RecG G w' v' (openGot D name (spareN name) kind) ∧ ∀ x, G x → F x ∨ w.heap.size ≤ x)
theorem spare_down {D : PD} {spare : ByteArray} (hd : D.down = false) (h0 : (spareP D spare).1 = 0) : (spareP D spare).2.down = false := by
  unfold spareP at h0 ⊢
  split at h0
  · rename_i h
    rw [if_pos h]
    unfold PD.deed at h0 ⊢
    rw [if_neg (by rw [hd]; decide)] at h0 ⊢
    split at h0
    · cases h0
    · rename_i h2
      rw [if_neg h2]
      split at h0
      · rename_i h3
        rw [if_pos h3]
        exact (fl_remove D.counted spare).1.trans hd
      · cases h0
  · rename_i h
    rw [if_neg h]; exact hd
theorem Has.short {F : Nat → Prop} {d k : Nat} {w : World} {D : PD} (h : Has F d w D k) (hk : k ≤ 100000) : Short D := by
  obtain ⟨L, h⟩ := h
  exact (h.ok hk).fl
theorem Has.fresh {F : Nat → Prop} {d k : Nat} {w : World} {D : PD} (h : Has F d w D k) : ∃ q, ¬ D.has q := by
  obtain ⟨L, h⟩ := h
  exact ⟨_, h.at_.new (Nat.le_refl _)⟩
theorem open_is {D D1 : PD} {spare name : ByteArray} {kind : UInt8} (hd : D.down = false) (h : spareP D spare = (0, D1)) (q : Nat) : logOpenP D name spare kind q = fixP D1 name kind q ∧ openGot D name spare kind = (scanP (readP D1 (bs name)) kind).1 := by
  unfold logOpenP openGot
  rw [if_neg (by rw [hd]; decide), h]
  exact ⟨rfl, rfl⟩
theorem opened_no {F G : Nat → Prop} {d k m : Nat} {w w' : World} {D D' : PD} {name : ByteArray} {kind : UInt8} {c : Int} (hc : c ≠ 0) (hG : ∀ b, F b → G b) (hh : Has G d w' D' m) (hm : m ≤ k + 4) (hk : Keeps (fun b => ¬ F b) w w') {q : Nat} (hq : ¬ (spareP D (spareN name)).2.has q) (he : (c, D') = logOpenP D name (spareN name) kind q) :
    Opened F d k w D name kind (.returned (.tuple #[.pointer none, .slice none 0 0, .int .i64 c])) w' :=
  ⟨c, q, _, _, G, rfl, hq, by rw [← he], by rw [← he]; exact hh.more hm, hG, hk, fun _ => ⟨rfl, rfl⟩, fun h => absurd h hc⟩
theorem opened_ok {F G : Nat → Prop} {d k m p : Nat} {w w' : World} {D D' : PD} {name : ByteArray} {kind : UInt8} {v' : Value} (hG : ∀ b, F b → G b) (hG' : ∀ x, G x → F x ∨ w.heap.size ≤ x) (hh : Has G d w' D' m) (hm : m ≤ k + 4) (hk : Keeps (fun b => ¬ F b) w w') {q : Nat} (hq : ¬ (spareP D (spareN name)).2.has q) (he : (0, D') = logOpenP D name (spareN name) kind q)
    (hp : LogAt w' p d name kind) (hpl : w.heap.size ≤ p) (hpG : G p) (hr : RecG G w' v' (openGot D name (spareN name) kind)) :
    Opened F d k w D name kind (.returned (.tuple #[.pointer (some ⟨p, 0, none⟩), v', .int .i64 0])) w' :=
  ⟨0, q, _, _, G, rfl, hq, by rw [← he], by rw [← he]; exact hh.more hm, hG, hk, fun h => absurd rfl h, fun _ => ⟨p, rfl, hpl, hp, hpG, hr, hG'⟩⟩
set_option maxRecDepth 100000 in
set_option maxHeartbeats 1000000 in
theorem log_open {F : Nat → Prop} {d k : Nat} {w : World} {D : PD} (h : Has F d w D k) (hk : k + 4 ≤ 100000) (name : ByteArray) (hs : name.size ≤ 100000) (kind : UInt8) :
    Calls Tryd.prog 10 #[.pointer (some ⟨d, 0, none⟩), .string name, .int .u8 kind.toNat] w (Opened F d k w D name kind) := by
  have hss : (spareN name).size ≤ 1000000 := by rw [size_spareN]; omega
  obtain ⟨wa, hwa⟩ : ∃ wa : World, w.alloc (.cells #[.pointer (some ⟨d, 0, none⟩), .string name, .int .u8 kind.toNat] 71) = wa := ⟨_, rfl⟩
  have hba : Below w.heap.size w wa := by rw [← hwa]; exact (Below.refl _ w).alloc (Nat.le_refl _) _
  have hza : wa.heap.size = w.heap.size + 1 := by rw [← hwa]; simp
  have hpa : LogAt wa w.heap.size d name kind := by rw [← hwa]; exact heap_alloc_new w _
  have ha : Has (fun b => F b ∨ b = w.heap.size) d wa D k := by rw [← hwa]; exact h.alloc _
  obtain ⟨q0, hq0⟩ := h.fresh
  have HA := Lib.hid (And.intro hba (And.intro hza (And.intro hpa ha)))
  clear h hba hza hpa ha
  cases hd : D.down with
  | true =>
    have Hd := Lib.hid hd
    have hq : ¬ (spareP D (spareN name)).2.has q0 := by
      unfold spareP
      split
      · rw [deed_down hd]; exact hq0
      · exact hq0
    have he : ((8 : Int), D) = logOpenP D name (spareN name) kind q0 := by unfold logOpenP; rw [if_pos hd]
    clear hd
    go_enter Tryd.func10, Tryd.ntmps10
    go_wp2_with fail
    rw [show (name ++ ({ data := #[46, 110, 101, 119] } : ByteArray)) = spareN name from rfl]
    refine (has_stat HA.out.2.2.2 (spareN name) hss).mono ?_
    rintro e0 w1 hst
    obtain ⟨rfl, hb1⟩ := hst.down Hd.out
    have H1 := Lib.hid (And.intro hb1 (HA.out.2.2.2.below hb1))
    clear hst hb1 hwa
    go_wp2_with fail
    refine (has_read (H1.out.2.alloc _) name (by omega)).mono ?_
    rintro e0 w2 hst
    obtain ⟨rfl, hb2⟩ := hst.down Hd.out
    have hbw : Below w.heap.size w w2 := HA.out.1.trans ((H1.out.1.mono HA.out.1.size).trans ((((Below.refl _ w1).alloc (Nat.le_refl _) _).trans (hb2.mono (by simp))).mono (Nat.le_trans HA.out.1.size H1.out.1.size)))
    have H2 := Lib.hid (And.intro hbw ((H1.out.2.alloc _).below hb2))
    clear hst hb2 hbw
    go_wp2_with fail
    go_ret3
    exact opened_no (by decide) (fun b hb => Or.inl (Or.inl (Or.inl (Or.inl hb)))) H2.out.2 (by omega) ((Keeps.of_below H2.out.1).mono (T := fun q => ¬ F q) fun _ _ h => h.elim) hq he
  | false =>
    have Hd := Lib.hid hd
    clear hd
    go_enter Tryd.func10, Tryd.ntmps10
    go_wp2_with fail
    rw [show (name ++ ({ data := #[46, 110, 101, 119] } : ByteArray)) = spareN name from rfl]
    refine (has_stat HA.out.2.2.2 (spareN name) hss).mono ?_
    rintro e0 w1 hst
    have HS := Lib.hid hst
    clear hst hwa
    cases hf : Dir.find D.files (bs (spareN name))
    case' none =>
      obtain ⟨rfl, hb1⟩ := HS.out.no Hd.out hf
      have hsp : spareP D (spareN name) = (0, D) := by unfold spareP; rw [hf]; rfl
      have HY := Lib.hid (And.intro hb1 hsp)
      clear hb1 hsp hf HS
      go_wp2_with fail
      obtain ⟨wx, hwx⟩ : ∃ wx : World, w1.alloc (.cells #[.int .i64 0, .int .i64 0] 37) = wx := ⟨_, rfl⟩
      obtain ⟨D1, hD1⟩ : ∃ D1, D1 = D := ⟨_, rfl⟩
      have hbx : Below wa.heap.size wa wx := by rw [← hwx]; exact HY.out.1.alloc HY.out.1.size _
      have HX := Lib.hid (show Has (fun b => F b ∨ b = w.heap.size) d wx D1 (k + 2) ∧ Keeps (fun b => ¬ (F b ∨ b = w.heap.size)) wa wx ∧ LogAt wx w.heap.size d name kind ∧ spareP D (spareN name) = (0, D1) ∧ D1.down = false from
        ⟨by rw [hD1, ← hwx]; exact (((HA.out.2.2.2.below HY.out.1).alloc _).less fun b hb => Or.inl (Or.inl hb)).more (by omega), (Keeps.of_below hbx).mono fun _ _ h => h.elim, (hbx.block _ (by have := HA.out.2.1; omega)).trans HA.out.2.2.1, by rw [HY.out.2, hD1], by rw [hD1]; exact Hd.out⟩)
      rw [hwx]
      clear hbx hwx hD1 HY
    case' some q =>
      obtain ⟨rfl, hb1⟩ := HS.out.yes Hd.out hf rfl
      obtain ⟨zs, hzs⟩ : ∃ n : Int, (((D.fs q).b.length : Nat) : Int) = n := ⟨_, rfl⟩
      obtain ⟨zt, hzt⟩ : ∃ n : Int, (D.fs q).time = n := ⟨_, rfl⟩
      rw [hzs, hzt]
      have hsp : spareP D (spareN name) = D.deed (rightP (spareN name)) fun D' => D'.remove (spareN name) := by unfold spareP; rw [hf]; rfl
      have HY1 := Lib.hid (And.intro hb1 hsp)
      clear hb1 hsp hf HS hzs hzt
      go_wp2_with fail
      obtain ⟨wy, hwy⟩ : ∃ wy : World, w1.alloc (.cells #[.int .i64 zs, .int .i64 zt] 37) = wy := ⟨_, rfl⟩
      have hby : Below wa.heap.size wa wy := by rw [← hwy]; exact HY1.out.1.alloc HY1.out.1.size _
      have hy : Has (fun b => F b ∨ b = w.heap.size) d wy D k := by rw [← hwy]; exact ((HA.out.2.2.2.below HY1.out.1).alloc _).less fun b hb => Or.inl (Or.inl hb)
      have HY := Lib.hid (And.intro hby (And.intro hy HY1.out.2))
      clear hby hy HY1
      rw [hwy]
      clear hwy
      rw [show (name ++ ({ data := #[46, 110, 101, 119] } : ByteArray)) = spareN name from rfl]
      refine (told_remove HY.out.2.1 (by omega) (spareN name) hss (R := fun c D1 => (c, D1) = spareP D (spareN name)) (by rw [HY.out.2.2])).mono ?_
      rintro e0 wx ⟨c, D1, rfl, hc1, hx1, hk1⟩
      have hkx : Keeps (fun b => ¬ (F b ∨ b = w.heap.size)) wa wx := ((Keeps.of_below HY.out.1).mono fun _ _ h => h.elim).trans hk1 fun _ _ h => h
      have hpx : LogAt wx w.heap.size d name kind := HA.out.2.2.1.kept hkx (Or.inr rfl)
      by_cases hz : c = 0
      case' neg =>
        have g : (c == 0) = false := by simpa using hz
        have HN := Lib.hid (And.intro hz (And.intro hc1 (And.intro hx1 hkx)))
        clear hz hc1 hx1 hk1 hkx hpx
        go_wp2_with fail
        go_ret3
        obtain ⟨n1, n2, n3, n4⟩ := HN.out
        obtain ⟨q1, hq1⟩ := n3.fresh
        refine opened_no (G := fun b => F b ∨ b = w.heap.size) (q := q1) n1 (fun b hb => Or.inl hb) n3 (by omega) (((Keeps.of_below HA.out.1).mono fun _ _ h => h.elim).trans n4 fun b _ hn hF => hn (Or.inl hF)) (by rw [← n2]; exact hq1) ?_
        unfold logOpenP
        rw [if_neg (by rw [Hd.out]; decide), ← n2, then_err n1]
      subst hz
      have HX := Lib.hid (show Has (fun b => F b ∨ b = w.heap.size) d wx D1 (k + 2) ∧ Keeps (fun b => ¬ (F b ∨ b = w.heap.size)) wa wx ∧ LogAt wx w.heap.size d name kind ∧ spareP D (spareN name) = (0, D1) ∧ D1.down = false from
        ⟨hx1, hkx, hpx, hc1.symm, by have := spare_down (spare := spareN name) Hd.out (by rw [← hc1]); rwa [← hc1] at this⟩)
      clear hc1 hx1 hk1 hkx hpx HY
      go_wp2_with fail
    all_goals
      refine (has_read HX.out.1 name (by omega)).mono ?_
      rintro e0 w2 hrd
      have HR := Lib.hid hrd
      clear hrd
      cases hf : Dir.find D1.files (bs name)
      case' none =>
        obtain ⟨rfl, hb2⟩ := HR.out.no HX.out.2.2.2.2 hf
        have er : readP D1 (bs name) = [] := by unfold readP; rw [hf]
        have hsc := scan_at (w := w2) (v := .slice none 0 0) (b := []) (Bin.nil _) (by simp) kind
        rw [scanP_nil] at hsc
        have hfx : ∀ q, logOpenP D name (spareN name) kind q = D1.deed (rightP name) fun D' => D'.fresh name (headP kind) q := fun q => by
          rw [(open_is Hd.out HX.out.2.2.2.1 q).1]
          unfold fixP
          rw [er, scanP_nil]
          rfl
        have hgot : openGot D name (spareN name) kind = [] := by rw [(open_is Hd.out HX.out.2.2.2.1 0).2, er, scanP_nil]
        have HS2 := Lib.hid hsc
        have HT0 := Lib.hid (And.intro hfx (And.intro hgot hb2))
        clear hsc hfx hgot hb2 er hf HR
        go_wp2_with fail
        refine HS2.out.mono ?_
        rintro e0 w3 ⟨v', rfl, hrec, hb3⟩
        have HT := Lib.hid (show (∀ q, logOpenP D name (spareN name) kind q = D1.deed (rightP name) fun D' => D'.fresh name (headP kind) q) ∧ Below wx.heap.size wx w3 ∧ Recs w3 wx.heap.size v' (openGot D name (spareN name) kind) from
          ⟨HT0.out.1, HT0.out.2.2.trans (hb3.mono HT0.out.2.2.size), by rw [HT0.out.2.1]; exact hrec.lower HT0.out.2.2.size⟩)
        clear hrec hb3 HT0 HS2
        go_wp2_with fail
      case' some p1 =>
        obtain ⟨b, hbq⟩ : ∃ b, (D1.fs p1).b = b := ⟨_, rfl⟩
        obtain ⟨ba, bc, rfl, hbo, hro, hb2⟩ := HR.out.yes HX.out.2.2.2.2 hf hbq
        have er : readP D1 (bs name) = b := by unfold readP; rw [hf]; exact hbq
        have hbl : b.length ≤ 65536 := hbq ▸ short_find (HX.out.1.short (by omega)) hf
        obtain ⟨⟨recs, en, ee⟩, hsc⟩ : ∃ x, scanP b kind = x := ⟨_, rfl⟩
        have hsa := scan_at (Bown.bin hbo) (by omega) kind
        rw [hsc] at hsa
        have hfx : ∀ q, logOpenP D name (spareN name) kind q = if ee ≠ 0 then (ee, D1) else if en = 0 then (D1.deed (rightP name) fun D' => D'.fresh name (headP kind) q) else if en < b.length then (D1.deed (rightP name) fun D' => D'.cut name (en : Nat)) else (0, D1) := fun q => by
          rw [(open_is Hd.out HX.out.2.2.2.1 q).1]
          unfold fixP
          rw [er, hsc]
        have hgot : openGot D name (spareN name) kind = recs := by rw [(open_is Hd.out HX.out.2.2.2.1 0).2, er, hsc]
        have HS2 := Lib.hid hsa
        have HT0 := Lib.hid (And.intro hfx (And.intro hgot hb2))
        clear hsa hfx hgot hb2 er hf HR hbo hro hsc hbq
        dsimp only at HS2
        go_wp2_with fail
        refine HS2.out.mono ?_
        rintro e0 w3 ⟨v', rfl, hrec, hb3⟩
        have HT := Lib.hid (show (∀ q, logOpenP D name (spareN name) kind q = if ee ≠ 0 then (ee, D1) else if en = 0 then (D1.deed (rightP name) fun D' => D'.fresh name (headP kind) q) else if en < b.length then (D1.deed (rightP name) fun D' => D'.cut name (en : Nat)) else (0, D1)) ∧ Below wx.heap.size wx w3 ∧ Recs w3 wx.heap.size v' (openGot D name (spareN name) kind) from
          ⟨HT0.out.1, HT0.out.2.2.trans (hb3.mono HT0.out.2.2.size), by rw [HT0.out.2.1]; exact hrec.lower HT0.out.2.2.size⟩)
        clear hrec hb3 HT0 HS2
        by_cases hee : ee = 0
        case' neg =>
          have g : (ee == 0) = false := by simpa using hee
          have He := Lib.hid hee
          clear hee
          go_wp2_with fail
          go_ret3
          obtain ⟨n1, n2, n3⟩ := HT.out
          obtain ⟨q1, hq1⟩ := HX.out.1.fresh
          refine opened_no (q := q1) He.out (fun b hb => Or.inl (Or.inl hb)) (HX.out.1.below n2) (by omega) ((((Keeps.of_below HA.out.1).mono fun _ _ h => h.elim).trans HX.out.2.1 fun b _ hn hF => hn (Or.inl hF)).trans ((Keeps.of_below n2).mono fun _ _ h => h.elim) fun _ _ h => h) (by rw [HX.out.2.2.2.1]; exact hq1) ?_
          rw [n1, if_pos He.out]
        subst hee
        by_cases hen : en = 0
        case' neg =>
          have g1 : ((en : Int) == 0) = false := by simpa using hen
          by_cases hlt : en < b.length
          · have He := Lib.hid (And.intro hen hlt)
            clear hen
            go_wp2_with fail
            refine (told_cut (HX.out.1.below HT.out.2.1) (by omega) name (by omega) (en : Nat) (by omega) (by omega) (R := fun c D2 => ∀ q, (c, D2) = logOpenP D name (spareN name) kind q) (fun q => by rw [HT.out.1 q, if_neg (by simp), if_neg He.out.1, if_pos He.out.2])).mono ?_
            rintro e0 w5 ⟨c, D2, rfl, hc2, h5, hk5⟩
            have hkw : Keeps (fun b => ¬ F b) w w5 := ((((Keeps.of_below HA.out.1).mono fun _ _ h => h.elim).trans HX.out.2.1 fun b _ hn hF => hn (Or.inl hF)).trans ((Keeps.of_below HT.out.2.1).mono fun _ _ h => h.elim) fun _ _ h => h).trans hk5 fun b _ hn hF => hn (Or.inl (Or.inl hF))
            have hp5 : LogAt w5 w.heap.size d name kind := LogAt.kept (show LogAt w3 w.heap.size d name kind from (HT.out.2.1.block _ (lt_of_heap HX.out.2.2.1)).trans HX.out.2.2.1) hk5 (Or.inl (Or.inr rfl))
            have hr5 := (HT.out.2.2.g (G := fun b => (F b ∨ b = w.heap.size) ∨ (wx.heap.size ≤ b ∧ b < w3.heap.size)) fun q h1 h2 => Or.inr ⟨h1, h2⟩).kept hk5
            have hwx : w.heap.size ≤ wx.heap.size := Nat.le_trans HA.out.1.size HX.out.2.1.size
            obtain ⟨q1, hq1⟩ := HX.out.1.fresh
            have HF := Lib.hid (And.intro hc2 (And.intro h5 (And.intro hkw (And.intro hp5 (And.intro hr5 (And.intro hwx hq1))))))
            clear hc2 h5 hkw hp5 hr5 hk5 hq1
            by_cases hz : c = 0
            · subst hz
              go_wp2_with fail
              go_ret3
              obtain ⟨f1, f2, f3, f4, f5, f6, f7⟩ := HF.out
              exact opened_ok (G := fun b => (F b ∨ b = w.heap.size) ∨ (wx.heap.size ≤ b ∧ b < w3.heap.size)) (fun b hb => Or.inl (Or.inl hb)) (fun x hx => by rcases hx with (hx | hx) | hx <;> first | exact Or.inl hx | exact Or.inr (by omega)) f2 (by omega) f3 (q := q1) (by rw [HX.out.2.2.2.1]; exact f7) (f1 q1) f4 (Nat.le_refl _) (Or.inl (Or.inr rfl)) f5
            · have g3 : (c == 0) = false := by simpa using hz
              have Hz := Lib.hid hz
              clear hz
              go_wp2_with fail
              go_ret3
              obtain ⟨f1, f2, f3, f4, f5, f6, f7⟩ := HF.out
              exact opened_no Hz.out (fun b hb => Or.inl (Or.inl hb)) f2 (by omega) f3 (q := q1) (by rw [HX.out.2.2.2.1]; exact f7) (f1 q1)
          · have He := Lib.hid (And.intro hen hlt)
            clear hen
            go_wp2_with fail
            go_ret3
            obtain ⟨n1, n2, n3⟩ := HT.out
            obtain ⟨q1, hq1⟩ := HX.out.1.fresh
            have hwx : w.heap.size ≤ wx.heap.size := Nat.le_trans HA.out.1.size HX.out.2.1.size
            exact opened_ok (G := fun b => (F b ∨ b = w.heap.size) ∨ (wx.heap.size ≤ b ∧ b < w3.heap.size)) (fun b hb => Or.inl (Or.inl hb)) (fun x hx => by rcases hx with (hx | hx) | hx <;> first | exact Or.inl hx | exact Or.inr (by omega)) (HX.out.1.below n2) (by omega)
              ((((Keeps.of_below HA.out.1).mono fun _ _ h => h.elim).trans HX.out.2.1 fun b _ hn hF => hn (Or.inl hF)).trans ((Keeps.of_below n2).mono fun _ _ h => h.elim) fun _ _ h => h) (q := q1) (by rw [HX.out.2.2.2.1]; exact hq1) (by rw [n1, if_neg (by simp), if_neg He.out.1, if_neg He.out.2])
              ((n2.block _ (lt_of_heap HX.out.2.2.1)).trans HX.out.2.2.1) (Nat.le_refl _) (Or.inl (Or.inr rfl)) (n3.g fun q h1 h2 => Or.inr ⟨h1, h2⟩)
        subst hen
        have HT1 := Lib.hid (show (∀ q, logOpenP D name (spareN name) kind q = D1.deed (rightP name) fun D' => D'.fresh name (headP kind) q) ∧ Below wx.heap.size wx w3 ∧ Recs w3 wx.heap.size v' (openGot D name (spareN name) kind) from
          ⟨fun q => by rw [HT.out.1 q, if_neg (by simp), if_pos rfl], HT.out.2.1, HT.out.2.2⟩)
        clear HT
        have HT := HT1
        clear HT1
        go_wp2_with fail
      all_goals
        refine (head_at w3 kind).mono ?_
        rintro e0 w4 ⟨ha, hc, rfl, hown, hb4, hf4⟩
        have hbx4 : Below wx.heap.size wx w4 := HT.out.2.1.trans (hb4.mono HT.out.2.1.size)
        have hsz3 := HT.out.2.1.size
        have HO := Lib.hid (And.intro hown (And.intro hf4 (And.intro hbx4 hb4)))
        clear hown hf4 hbx4 hb4
        go_wp2_with fail
        refine (told_write (HX.out.1.below HO.out.2.2.1) (by omega) name (by omega) (b := headP kind) (Bown.bin (xs := headP kind) (by have := HO.out.1; exact this)) (by rw [len_headP]; decide) (fun _ q hq => Or.inr ⟨by have := HO.out.2.1 q hq; omega, HO.out.1.lt q hq⟩)
          (R := fun c D2 => ∃ q, ¬ D1.has q ∧ (c, D2) = logOpenP D name (spareN name) kind q) (fun q hq => ⟨q, hq, (HT.out.1 q).symm⟩)).mono ?_
        rintro e0 w5 ⟨c, D2, rfl, ⟨q1, hq1, hc2⟩, h5, hk5⟩
        have hkw : Keeps (fun b => ¬ F b) w w5 := ((((Keeps.of_below HA.out.1).mono fun _ _ h => h.elim).trans HX.out.2.1 fun b _ hn hF => hn (Or.inl hF)).trans ((Keeps.of_below HO.out.2.2.1).mono fun _ _ h => h.elim) fun _ _ h => h).trans hk5 fun b _ hn hF => hn (Or.inl (Or.inl hF))
        have hp5 : LogAt w5 w.heap.size d name kind := LogAt.kept (show LogAt w4 w.heap.size d name kind from (HO.out.2.2.1.block _ (lt_of_heap HX.out.2.2.1)).trans HX.out.2.2.1) hk5 (Or.inl (Or.inr rfl))
        have hr5 := ((HT.out.2.2.below HO.out.2.2.2).g (G := fun b => (F b ∨ b = w.heap.size) ∨ (wx.heap.size ≤ b ∧ b < w4.heap.size)) fun q h1 h2 => Or.inr ⟨h1, h2⟩).kept hk5
        have hwx : w.heap.size ≤ wx.heap.size := Nat.le_trans HA.out.1.size HX.out.2.1.size
        have HF := Lib.hid (And.intro hc2 (And.intro h5 (And.intro hkw (And.intro hp5 (And.intro hr5 hq1)))))
        clear hc2 h5 hkw hp5 hr5 hk5 hq1
        by_cases hz : c = 0
        · subst hz
          go_wp2_with fail
          go_ret3
          obtain ⟨f1, f2, f3, f4, f5, f7⟩ := HF.out
          exact opened_ok (G := fun b => (F b ∨ b = w.heap.size) ∨ (wx.heap.size ≤ b ∧ b < w4.heap.size)) (fun b hb => Or.inl (Or.inl hb)) (fun x hx => by rcases hx with (hx | hx) | hx <;> first | exact Or.inl hx | exact Or.inr (by omega)) f2 (by omega) f3 (q := q1) (by rw [HX.out.2.2.2.1]; exact f7) f1 f4 (Nat.le_refl _) (Or.inl (Or.inr rfl)) f5
        · have g3 : (c == 0) = false := by simpa using hz
          have Hz := Lib.hid hz
          clear hz
          go_wp2_with fail
          go_ret3
          obtain ⟨f1, f2, f3, f4, f5, f7⟩ := HF.out
          exact opened_no Hz.out (fun b hb => Or.inl (Or.inl hb)) f2 (by omega) f3 (q := q1) (by rw [HX.out.2.2.2.1]; exact f7) f1
end Go.Proofs.YtbckbkcpfejllaaDoor
