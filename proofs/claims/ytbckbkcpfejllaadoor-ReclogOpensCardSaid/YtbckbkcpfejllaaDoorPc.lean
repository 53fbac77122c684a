/- Single deeds of a disk, plainly: what each comes to where it goes through. -/
import Derived.Test.YtbckbkcpfejllaaDoorPs
namespace Go.Proofs.YtbckbkcpfejllaaDoor
open Go.RowKit Go.Maps Go.WideMaps

theorem deed_up {D : PD} (h : D.down = false) (ha : D.armed ≠ 0) (f : PD → Int × PD) : D.deed true f = f D.counted := by
  simp [PD.deed, h, ha]
theorem deed_zero {D : PD} (h : D.down = false) (ha : D.armed = 0) (r : Bool) (f : PD → Int × PD) : D.deed r f = (8, { D with down := true }) := by
  simp [PD.deed, h, ha]
theorem deed_down {D : PD} (h : D.down = true) (r : Bool) (f : PD → Int × PD) : D.deed r f = (8, D) := by
  simp [PD.deed, h]
theorem fits_zero {D : PD} {n : Bs} {z : Int} (h1 : z ≤ 65536) (h2 : Dir.find D.files n = none → D.files.length < 200) (h3 : D.used - D.old n + z ≤ D.quota) : D.fits n z = 0 := by
  unfold PD.fits
  rw [if_neg (by omega), if_neg, if_neg (by omega)]
  cases hf : Dir.find D.files n with
  | none => have := h2 hf; simp; omega
  | some p => simp
theorem used_one {D : PD} {n : Bs} {p : Nat} (h : D.files = [(n, p)]) : D.used = D.len p := by simp [PD.used, h]
theorem used_nil {D : PD} (h : D.files = []) : D.used = 0 := by simp [PD.used, h]
theorem find_one (n : Bs) (p : Nat) : Dir.find [(n, p)] n = some p := by simp [find_cons]

/-- A disk with one file. -/
structure OneI (D : PD) (n : ByteArray) (p : Nat) (f : PF) (su : Dir) (pe : List Chg) (a d c : Int) : Prop where
  files : D.files = [(bs n, p)]
  fs : D.fs p = f
  sure : D.sure = su
  pend : D.pend = pe
  armed : D.armed = a
  deeds : D.deeds = d
  clock : D.clock = c
  down : D.down = false
def lessA (a : Int) : Int := if 0 < a then a - 1 else a
theorem OneI.counted {D : PD} {n : ByteArray} {p : Nat} {f : PF} {su : Dir} {pe : List Chg} {a d c : Int} (h : OneI D n p f su pe a d c) : OneI D.counted n p f su pe (lessA a) (d + 1) c :=
  ⟨h.files, h.fs, h.sure, h.pend, by show (if 0 < D.armed then D.armed - 1 else D.armed) = _; rw [h.armed]; rfl, by show D.deeds + 1 = _; rw [h.deeds], h.clock, h.down⟩
theorem one_fresh {D : PD} {n : ByteArray} {p : Nat} {b : Bs} {a d c : Int} (h1 : D.files = []) (h2 : D.sure = []) (h3 : D.pend = []) (h4 : D.armed = a) (h5 : D.deeds = d) (h6 : D.clock = c) (h7 : D.down = false) (hE : isE n = false) (hb : b.length ≤ 65536) (hq : (b.length : Int) ≤ D.quota) :
    ∃ D', D.fresh n b p = (0, D') ∧ OneI D' n p ⟨b, 0, c⟩ [] [⟨n, some p, ByteArray.empty⟩] a d (c + 1) ∧ D'.quota = D.quota := by
  have hf : D.fits (bs n) b.length = 0 := by
    refine fits_zero (by omega) (fun _ => by rw [h1]; simp) ?_
    have : D.old (bs n) = 0 := by simp [PD.old, h1, find_nil]
    rw [used_nil h1, this]; omega
  refine ⟨((D.tick).setF p ⟨b, 0, D.clock⟩).turns ⟨n, some p, ByteArray.empty⟩, by rw [PD.fresh, if_pos hf], ⟨?_, ?_, h2, ?_, h4, h5, ?_, h7⟩, rfl⟩
  · show Chg.does _ D.files = _
    have hE2 : isE ByteArray.empty = true := isE_empty
    rw [h1]
    simp only [Chg.does, hE, hE2]
    simp [Dir.put, Dir.ins, Dir.del]
  · show upd D.fs p _ p = _
    rw [upd_same, h6]
  · show D.pend ++ _ = _
    rw [h3]; rfl
  · show D.clock + 1 = _
    rw [h6]
theorem one_append_new {D : PD} {n : ByteArray} {p : Nat} {b : Bs} {a d c : Int} (h1 : D.files = []) (h2 : D.sure = []) (h3 : D.pend = []) (h4 : D.armed = a) (h5 : D.deeds = d) (h6 : D.clock = c) (h7 : D.down = false) (hE : isE n = false) (hb : b.length ≤ 65536) (hq : (b.length : Int) ≤ D.quota) :
    ∃ D', D.append n b p = (0, D') ∧ OneI D' n p ⟨b, 0, c⟩ [] [⟨n, some p, ByteArray.empty⟩] a d (c + 1) ∧ D'.quota = D.quota := by
  have e : D.append n b p = D.fresh n b p := by simp [PD.append, h1, find_nil]
  rw [e]
  exact one_fresh h1 h2 h3 h4 h5 h6 h7 hE hb hq
theorem OneI.append {D : PD} {n : ByteArray} {p : Nat} {f : PF} {su : Dir} {pe : List Chg} {a d c : Int} (h : OneI D n p f su pe a d c) (b : Bs) (p' : Nat) (hb : f.b.length + b.length ≤ 65536) (hq : (f.b.length : Int) + b.length ≤ D.quota) :
    ∃ D', D.append n b p' = (0, D') ∧ OneI D' n p ⟨f.b ++ b, f.sure, c⟩ su pe a d (c + 1) ∧ D'.quota = D.quota := by
  have hfind : Dir.find D.files (bs n) = some p := by rw [h.files]; exact find_one _ _
  have hlen : D.len p = f.b.length := by unfold PD.len; rw [h.fs]
  have hold : D.old (bs n) = f.b.length := by unfold PD.old; rw [hfind]; exact hlen
  have hf : D.fits (bs n) (D.len p + b.length) = 0 := by
    refine fits_zero (by rw [hlen]; omega) (fun e => by rw [hfind] at e; cases e) ?_
    rw [used_one h.files, hold, hlen]; omega
  refine ⟨(D.tick).setF p ⟨(D.fs p).b ++ b, (D.fs p).sure, D.clock⟩, ?_, ⟨h.files, ?_, h.sure, h.pend, h.armed, h.deeds, ?_, h.down⟩, rfl⟩
  · unfold PD.append
    rw [hfind]
    dsimp only
    rw [if_pos hf]
  · show upd D.fs p _ p = _
    rw [upd_same, h.fs, h.clock]
  · show D.clock + 1 = _
    rw [h.clock]
theorem OneI.sync {D : PD} {n : ByteArray} {p : Nat} {f : PF} {su : Dir} {pe : List Chg} {a d c : Int} (h : OneI D n p f su pe a d c) :
    ∃ D', D.sync n = (0, D') ∧ OneI D' n p ⟨f.b, f.b.length, f.time⟩ su pe a d c ∧ D'.quota = D.quota := by
  have hfind : Dir.find D.files (bs n) = some p := by rw [h.files]; exact find_one _ _
  refine ⟨D.setF p ⟨(D.fs p).b, (D.fs p).b.length, (D.fs p).time⟩, ?_, ⟨h.files, ?_, h.sure, h.pend, h.armed, h.deeds, h.clock, h.down⟩, rfl⟩
  · unfold PD.sync
    rw [hfind]
  · show upd D.fs p _ p = _
    rw [upd_same, h.fs]
theorem OneI.syncDir {D : PD} {n : ByteArray} {p : Nat} {f : PF} {su : Dir} {pe : List Chg} {a d c : Int} (h : OneI D n p f su pe a d c) :
    ∃ D', D.syncDir = (0, D') ∧ OneI D' n p f [(bs n, p)] [] a d c ∧ D'.quota = D.quota :=
  ⟨_, rfl, ⟨h.files, h.fs, h.files, rfl, h.armed, h.deeds, h.clock, h.down⟩, rfl⟩

/-! ### behind a restart -/
theorem restart_flags (D : PD) (dir : Int) (tails : List Int) : (D.restart dir tails).down = false ∧ (D.restart dir tails).armed = -1 ∧ (D.restart dir tails).quota = D.quota ∧ (D.restart dir tails).deeds = D.deeds :=
  ⟨rfl, rfl, (cutsAll_files tails (D.back dir) 0 { D with files := D.back dir }).2.2.2.1, (cutsAll_files tails (D.back dir) 0 { D with files := D.back dir }).2.2.2.2.1⟩
/-- A file that is sure is there as it was. -/
theorem restart_sure {D : PD} {dir : Int} {o : Bs} {p : Nat} {f : PF} (h : Dir.find (D.back dir) o = some p) (hf : D.fs p = f) (hs : f.sure = f.b.length) (tails : List Int) :
    Dir.find (D.restart dir tails).files o = some p ∧ (D.restart dir tails).fs p = f := by
  obtain ⟨e1, e2, e3, e4, _⟩ := restart_files D dir tails
  exact ⟨by rw [e1]; exact h, by rw [e4]; exact cutsAll_sure_fs hs tails _ _ _ hf⟩
/-- What a restart keeps of a file. -/
def PF.kept (f : PF) (tail clock : Int) : PF :=
  if f.sure + min (max tail 0).toNat (f.b.length - f.sure) < f.b.length then ⟨f.b.take (f.sure + min (max tail 0).toNat (f.b.length - f.sure)), f.sure + min (max tail 0).toNat (f.b.length - f.sure), clock⟩ else ⟨f.b, f.b.length, f.time⟩
theorem cuts_at_fs (D : PD) (p : Nat) (t : Int) : (D.cuts p t).fs p = (D.fs p).kept t D.clock := by
  unfold PD.cuts PF.kept
  dsimp only
  split
  · show upd D.fs p _ p = _
    rw [upd_same]
  · show upd D.fs p _ p = _
    rw [upd_same]
/-- .. where the directory has one name. -/
theorem restart_one {D : PD} {dir : Int} {n : Bs} {p : Nat} (h : D.back dir = [(n, p)]) (tails : List Int) :
    (D.restart dir tails).files = [(n, p)] ∧ (D.restart dir tails).fs p = (D.fs p).kept (PD.tailOf tails 0) D.clock := by
  obtain ⟨e1, e2, e3, e4, _⟩ := restart_files D dir tails
  refine ⟨by rw [e1]; exact h, ?_⟩
  rw [e4, h]
  show (({ D with files := [(n, p)] } : PD).cuts p (PD.tailOf tails 0)).fs p = _
  rw [cuts_at_fs]
theorem restart_none {D : PD} {dir : Int} (h : D.back dir = []) (tails : List Int) : (D.restart dir tails).files = [] := by
  rw [(restart_files D dir tails).1]; exact h
end Go.Proofs.YtbckbkcpfejllaaDoor
