/- DiskRenames, plainly: what a file comes to that is written beside, synced and renamed; no word on memory. -/
import Derived.Test.YtbckbkcpfejllaaDoorLa1
namespace Go.Proofs.YtbckbkcpfejllaaDoor
open Go.RowKit Go.Maps Go.WideMaps

abbrev nG : ByteArray := ⟨#[103]⟩
theorem right_nG : rightP nG = true := by decide
theorem isE_nG : isE nG = false := by
  have : ¬ isE nG = true := fun h => by have := (isE_iff nG).1 h; simp [bs] at this
  simpa using this
theorem bs_nF : bs nF = [102] := rfl
theorem bs_nG : bs nG = [103] := rfl
theorem bs_E : bs ByteArray.empty = [] := rfl
theorem ne_FG : bs nF ≠ bs nG := by decide
theorem ne_GF : bs nG ≠ bs nF := by decide
theorem ne_EF : bs ByteArray.empty ≠ bs nF := by decide
/-- Behind any restart 'f' is there, as it was or as it is then. -/
def SafeR (W T : Bs) (D : PD) : Prop := ∀ dir, ∃ p, Dir.find (D.back dir) (bs nF) = some p ∧ (D.fs p).sure = (D.fs p).b.length ∧ ((D.fs p).b = W ∨ (D.fs p).b = T)
def RnA (W : Bs) (D : PD) : Prop := D.quota = 16777216 ∧ D.down = false ∧ D.pend = [] ∧ ∃ p t, D.files = [(bs nF, p)] ∧ D.sure = [(bs nF, p)] ∧ D.fs p = ⟨W, W.length, t⟩
def RnB (W T : Bs) (s : Bool) (D : PD) : Prop := D.down = false ∧ ∃ p q t u, D.files = [(bs nF, p), (bs nG, q)] ∧ D.sure = [(bs nF, p)] ∧ D.pend = [⟨nG, some q, ByteArray.empty⟩] ∧ D.fs p = ⟨W, W.length, t⟩ ∧ D.fs q = ⟨T, if s then T.length else 0, u⟩ ∧ p ≠ q
def RnC (W T : Bs) (D : PD) : Prop := D.down = false ∧ ∃ p q t u, D.files = [(bs nF, q)] ∧ D.sure = [(bs nF, p)] ∧ D.pend = [⟨nG, some q, ByteArray.empty⟩, ⟨nF, some q, nG⟩] ∧ D.fs p = ⟨W, W.length, t⟩ ∧ D.fs q = ⟨T, T.length, u⟩
def RnD (T : Bs) (D : PD) : Prop := D.down = false ∧ ∃ q u, D.sure = [(bs nF, q)] ∧ D.pend = [] ∧ D.fs q = ⟨T, T.length, u⟩
theorem RnA.safe {W : Bs} {D : PD} (h : RnA W D) (T : Bs) : SafeR W T D := fun dir => by
  obtain ⟨_, _, hp, p, t, _, hs, hf⟩ := h
  exact ⟨p, by rw [back_nil hp, hs]; exact find_one _ _, by rw [hf], Or.inl (by rw [hf])⟩
theorem RnB.safe {W T : Bs} {s : Bool} {D : PD} (h : RnB W T s D) : SafeR W T D := fun dir => by
  obtain ⟨_, p, q, t, u, _, hs, hp, hf, _⟩ := h
  refine ⟨p, ?_, by rw [hf], Or.inl (by rw [hf])⟩
  rw [find_back (fun c hc => ?_), hs]
  · exact find_one _ _
  · rw [hp] at hc
    rw [List.mem_singleton.1 hc]
    exact ⟨ne_GF, ne_EF⟩
theorem RnC.safe {W T : Bs} {D : PD} (h : RnC W T D) : SafeR W T D := fun dir => by
  obtain ⟨_, p, q, t, u, _, hs, hp, hf, hg⟩ := h
  have h1 : Dir.find (Chg.does ⟨nG, some q, ByteArray.empty⟩ [(bs nF, p)]) (bs nF) = some p := by
    rw [find_does ne_GF ne_EF]; exact find_one _ _
  have h2 : ∀ l, Dir.find (Chg.does ⟨nF, some q, nG⟩ l) (bs nF) = some q := fun l => by
    simp only [Chg.does, isE_nF, isE_nG]
    simp only [Bool.false_eq_true, if_false]
    rw [find_put, if_pos rfl]
  have hk : ∃ k, D.back dir = (List.take k D.pend).foldl (fun l c => c.does l) D.sure := ⟨_, rfl⟩
  obtain ⟨k, hk⟩ := hk
  rw [hp, hs] at hk
  match k, hk with
  | 0, hk => exact ⟨p, by rw [hk]; exact find_one _ _, by rw [hf], Or.inl (by rw [hf])⟩
  | 1, hk => exact ⟨p, by rw [hk]; exact h1, by rw [hf], Or.inl (by rw [hf])⟩
  | k + 2, hk =>
    refine ⟨q, ?_, by rw [hg], Or.inr (by rw [hg])⟩
    rw [hk]
    have e : List.take (k + 2) [(⟨nG, some q, ByteArray.empty⟩ : Chg), ⟨nF, some q, nG⟩] = [⟨nG, some q, ByteArray.empty⟩, ⟨nF, some q, nG⟩] := by simp
    rw [e]
    exact h2 _
theorem RnD.safe {T : Bs} {D : PD} (h : RnD T D) : SafeR T T D := fun dir => by
  obtain ⟨_, q, u, hs, hp, hf⟩ := h
  exact ⟨q, by rw [back_nil hp, hs]; exact find_one _ _, by rw [hf], Or.inl (by rw [hf])⟩
/-- What a deed of an armed disk comes to, where it goes through if it is done. -/
theorem deed_either {D : PD} {f : PD → Int × PD} {S R : PD → Prop} (hd : D.down = false) (hS : S { D with down := true }) (hf : (f D.counted).1 = 0 ∧ R (f D.counted).2) :
    ((D.deed true f).1 = 8 ∧ S (D.deed true f).2) ∨ ((D.deed true f).1 = 0 ∧ R (D.deed true f).2) := by
  by_cases ha : D.armed = 0
  · rw [deed_zero hd ha]
    exact Or.inl ⟨rfl, hS⟩
  · rw [deed_up hd ha]
    exact Or.inr hf
theorem rn_write {W T : Bs} {D : PD} (h : RnA W D) (hW : W.length ≤ 1000) (hT : T.length ≤ 1000) (q : Nat) (hq : ¬ D.has q) :
    ((D.deed (rightP nG) fun D' => D'.fresh nG T q).1 = 8 ∧ SafeR W T (D.deed (rightP nG) fun D' => D'.fresh nG T q).2) ∨ ((D.deed (rightP nG) fun D' => D'.fresh nG T q).1 = 0 ∧ RnB W T false (D.deed (rightP nG) fun D' => D'.fresh nG T q).2) := by
  have hsafe : SafeR W T { D with down := true } := h.safe T
  obtain ⟨hqu, hd, hp, p, t, hf, hs, hfs⟩ := h
  have hpq : p ≠ q := fun e => hq (Or.inl ⟨_, by rw [hf]; exact List.mem_singleton.2 rfl, e⟩)
  rw [right_nG]
  refine deed_either hd hsafe ?_
  have hfit : D.counted.fits (bs nG) T.length = 0 := by
    refine fits_zero (by omega) (fun _ => by show D.files.length < 200; rw [hf]; simp) ?_
    have h1 : D.counted.used = W.length := by
      rw [used_one (D := D.counted) (n := bs nF) (p := p) hf]
      show ((D.fs p).b.length : Int) = _
      rw [hfs]
    have h2 : D.counted.old (bs nG) = 0 := by
      unfold PD.old
      have : Dir.find D.counted.files (bs nG) = none := by
        show Dir.find D.files _ = _
        rw [hf, find_cons, if_neg ne_FG]; rfl
      rw [this]
    rw [h1, h2]
    show _ ≤ D.quota
    rw [hqu]; omega
  unfold PD.fresh
  rw [if_pos hfit]
  refine ⟨rfl, hd, p, q, t, D.clock, ?_, hs, ?_, ?_, ?_, hpq⟩
  · show Chg.does _ D.files = _
    rw [hf]
    have hE : isE ByteArray.empty = true := isE_empty
    simp only [Chg.does, isE_nG, hE]
    simp [Dir.put, Dir.ins, Dir.del, bytesBefore]
  · show D.pend ++ _ = _
    rw [hp]; rfl
  · show upd D.fs q _ p = _
    rw [upd_other _ hpq, hfs]
  · show upd D.fs q _ q = _
    rw [upd_same]; rfl
theorem rn_sync {W T : Bs} {D : PD} (h : RnB W T false D) :
    ((D.deed (rightP nG) fun D' => D'.sync nG).1 = 8 ∧ SafeR W T (D.deed (rightP nG) fun D' => D'.sync nG).2) ∨ ((D.deed (rightP nG) fun D' => D'.sync nG).1 = 0 ∧ RnB W T true (D.deed (rightP nG) fun D' => D'.sync nG).2) := by
  have hsafe : SafeR W T { D with down := true } := h.safe
  obtain ⟨hd, p, q, t, u, hf, hs, hp, hfs, hgs, hpq⟩ := h
  rw [right_nG]
  refine deed_either hd hsafe ?_
  have hfind : Dir.find D.counted.files (bs nG) = some q := by
    show Dir.find D.files _ = _
    rw [hf, find_cons, if_neg ne_FG, find_cons, if_pos rfl]
  unfold PD.sync
  rw [hfind]
  refine ⟨rfl, hd, p, q, t, u, hf, hs, hp, ?_, ?_, hpq⟩
  · show upd D.fs q _ p = _
    rw [upd_other _ hpq, hfs]
  · show upd D.fs q ⟨(D.fs q).b, (D.fs q).b.length, (D.fs q).time⟩ q = _
    rw [upd_same, hgs]; rfl
theorem rn_rename {W T : Bs} {D : PD} (h : RnB W T true D) :
    ((D.deed (rightP nG && rightP nF) fun D' => D'.rename nG nF).1 = 8 ∧ SafeR W T (D.deed (rightP nG && rightP nF) fun D' => D'.rename nG nF).2) ∨ ((D.deed (rightP nG && rightP nF) fun D' => D'.rename nG nF).1 = 0 ∧ RnC W T (D.deed (rightP nG && rightP nF) fun D' => D'.rename nG nF).2) := by
  have hsafe : SafeR W T { D with down := true } := h.safe
  obtain ⟨hd, p, q, t, u, hf, hs, hp, hfs, hgs, hpq⟩ := h
  rw [right_nG, right_nF]
  refine deed_either hd hsafe ?_
  have hfind : Dir.find D.counted.files (bs nG) = some q := by
    show Dir.find D.files _ = _
    rw [hf, find_cons, if_neg ne_FG, find_cons, if_pos rfl]
  unfold PD.rename
  rw [hfind]
  refine ⟨rfl, hd, p, q, t, u, ?_, hs, ?_, hfs, hgs⟩
  · show Chg.does _ D.files = _
    rw [hf]
    simp only [Chg.does, isE_nF, isE_nG]
    simp [Dir.put, Dir.ins, Dir.del]
  · show D.pend ++ _ = _
    rw [hp]; rfl
theorem rn_syncDir {W T : Bs} {D : PD} (h : RnC W T D) :
    ((D.deed true fun D' => D'.syncDir).1 = 8 ∧ SafeR W T (D.deed true fun D' => D'.syncDir).2) ∨ ((D.deed true fun D' => D'.syncDir).1 = 0 ∧ RnD T (D.deed true fun D' => D'.syncDir).2) := by
  have hsafe : SafeR W T { D with down := true } := h.safe
  obtain ⟨hd, p, q, t, u, hf, hs, hp, hfs, hgs⟩ := h
  refine deed_either hd hsafe ?_
  exact ⟨rfl, hd, q, u, hf, rfl, hgs⟩
/-- The setting up. -/
def RnW (W : Bs) (s : Nat) (su : Option Unit) (D : PD) : Prop := D.quota = 16777216 ∧ ∃ p t d c sd pe, OneI D nF p ⟨W, s, t⟩ sd pe (-1) d c ∧ (su.isSome → sd = [(bs nF, p)] ∧ pe = [])
theorem rn_setup1 (W : Bs) (hW : W.length ≤ 1000) (p : Nat) : ((PD.new 16777216).deed (rightP nF) fun D' => D'.fresh nF W p).1 = 0 ∧ RnW W 0 none ((PD.new 16777216).deed (rightP nF) fun D' => D'.fresh nF W p).2 := by
  obtain ⟨D', e, h, hq⟩ := one_fresh (D := (PD.new 16777216).counted) (n := nF) (p := p) (b := W) (a := -1) (d := 1) (c := 1) rfl rfl rfl rfl rfl rfl rfl isE_nF (by omega) (by show _ ≤ (16777216 : Int); omega)
  rw [right_nF, deed_up rfl (by decide), e]
  exact ⟨rfl, hq, p, _, _, _, _, _, h, fun h => by cases h⟩
theorem rn_setup2 {W : Bs} {s : Nat} {D : PD} (h : RnW W s none D) : (D.deed (rightP nF) fun D' => D'.sync nF).1 = 0 ∧ RnW W W.length none (D.deed (rightP nF) fun D' => D'.sync nF).2 := by
  obtain ⟨hq, p, t, d, c, sd, pe, h, hsp⟩ := h
  rw [right_nF, deed_up h.down (by rw [h.armed]; decide)]
  obtain ⟨D', e, h', hq'⟩ := h.counted.sync
  rw [e]
  exact ⟨rfl, hq'.trans hq, p, _, _, _, _, _, h', fun h => by cases h⟩
theorem rn_setup3 {W : Bs} {D : PD} (h : RnW W W.length none D) : (D.deed true fun D' => D'.syncDir).1 = 0 ∧ RnA W (D.deed true fun D' => D'.syncDir).2 := by
  obtain ⟨hq, p, t, d, c, sd, pe, h, hsp⟩ := h
  rw [deed_up h.down (by rw [h.armed]; decide)]
  obtain ⟨D', e, h', hq'⟩ := h.counted.syncDir
  rw [e]
  exact ⟨rfl, hq'.trans hq, h'.down, h'.pend, p, t, h'.files, h'.sure, h'.fs⟩
theorem RnA.arm {W : Bs} {D : PD} (h : RnA W D) (n : Int) : RnA W { D with armed := n } := h
/-- Behind the restart. -/
theorem rn_back {W T : Bs} {D : PD} (h : SafeR W T D) (dir : Int) (tails : List Int) : (D.restart dir tails).down = false ∧ ∃ p b, Dir.find (D.restart dir tails).files (bs nF) = some p ∧ ((D.restart dir tails).fs p).b = b ∧ (b = W ∨ b = T) := by
  obtain ⟨p, hf, hs, hb⟩ := h dir
  obtain ⟨h1, h2⟩ := restart_sure hf rfl hs tails
  exact ⟨rfl, p, _, h1, by rw [h2], hb⟩
end Go.Proofs.YtbckbkcpfejllaaDoor
