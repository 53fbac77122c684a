/- reclog, plainly: what Scan tells of frames and of a cut of them; what a log's file is on a disk, behind each of its deeds, and behind any crash. -/
import Derived.Test.YtbckbkcpfejllaaDoorAl
namespace Go.Proofs.YtbckbkcpfejllaaDoor
open Go.RowKit Go.Maps Go.WideMaps

theorem val32_le32 (n : Nat) (h : n < 4294967296) (t : Bs) : val32 (le32 n ++ t) = n := by
  simp only [val32, valN, le32, List.cons_append, List.nil_append, List.getD_cons_zero, List.getD_cons_succ, UInt8.toNat_ofNat']
  omega
theorem drop_le32 (n : Nat) (t : Bs) : (le32 n ++ t).drop 4 = t := rfl
def framesL (l : List Bs) : Bs := (l.map frameP).flatten
theorem framesL_cons (r : Bs) (l : List Bs) : framesL (r :: l) = frameP r ++ framesL l := by simp [framesL]
theorem framesL_append (l m : List Bs) : framesL (l ++ m) = framesL l ++ framesL m := by simp [framesL]
theorem framesP_eq (h : Bs) (l : List Bs) : framesP h l = h ++ framesL l := rfl
theorem len_framesL : ∀ l : List Bs, l.length ≤ (framesL l).length
  | [] => Nat.zero_le _
  | r :: l => by
    rw [framesL_cons, List.length_append, len_frameP]
    have := len_framesL l
    simp only [List.length_cons]
    omega
theorem frameP_parts (r t : Bs) : frameP r ++ t = le32 r.length ++ (le32 (crcP r) ++ (r ++ t)) := by simp [frameP]
theorem scan_frame (f : Nat) (r : Bs) (hr : r.length ≤ 4096) (t : Bs) : scanL (f + 1) (frameP r ++ t) = (r :: (scanL f t).1, (scanL f t).2 + (8 + r.length)) := by
  have e1 : val32 (frameP r ++ t) = r.length := by rw [frameP_parts]; exact val32_le32 _ (by omega) _
  have e2 : (frameP r ++ t).drop 4 = le32 (crcP r) ++ (r ++ t) := by rw [frameP_parts]; exact drop_le32 _ _
  have e3 : (frameP r ++ t).drop 8 = r ++ t := by
    rw [show (8 : Nat) = 4 + 4 from rfl, ← List.drop_drop, e2]
    exact drop_le32 _ _
  have e4 : val32 ((frameP r ++ t).drop 4) = crcP r := by rw [e2]; exact val32_le32 _ (crcP_lt r) _
  have e5 : ((frameP r ++ t).drop 8).take r.length = r := by rw [e3]; exact List.take_left
  have e6 : (frameP r ++ t).drop (8 + r.length) = t := by rw [← List.drop_drop, e3]; exact List.drop_left
  have hl : (frameP r ++ t).length = 8 + r.length + t.length := by rw [List.length_append, len_frameP]
  have h := scan_ok (f := f) (xs := frameP r ++ t) (by omega) (by omega) (by omega) (by rw [e1, e5, e4])
  rw [e1, e5, e6] at h
  exact h
theorem scan_frames (t : Bs) : ∀ (l : List Bs) (f : Nat), (∀ x ∈ l, x.length ≤ 4096) → l.length ≤ f → scanL f (framesL l ++ t) = (l ++ (scanL (f - l.length) t).1, (scanL (f - l.length) t).2 + (framesL l).length)
  | [], f, _, _ => by simp [framesL]
  | r :: l, f, h, hf => by
    obtain ⟨g, rfl⟩ : ∃ g, f = g + 1 := ⟨f - 1, by simp only [List.length_cons] at hf; omega⟩
    rw [framesL_cons, List.append_assoc, scan_frame g r (h r (List.mem_cons_self ..)), scan_frames t l g (fun x hx => h x (List.mem_cons_of_mem _ hx)) (by simp only [List.length_cons] at hf; omega)]
    have e : g + 1 - (r :: l).length = g - l.length := by simp only [List.length_cons]; omega
    rw [e, List.length_append, len_frameP]
    simp only [List.cons_append]
    congr 1
    omega
theorem scan_nil (f : Nat) : scanL f [] = ([], 0) := scan_short (by simp)
theorem scan_all (l : List Bs) (f : Nat) (h : ∀ x ∈ l, x.length ≤ 4096) (hf : l.length ≤ f) : scanL f (framesL l) = (l, (framesL l).length) := by
  have := scan_frames [] l f h hf
  rw [List.append_nil, scan_nil, List.append_nil, Nat.zero_add] at this
  exact this
/-- A frame that is cut is none. -/
theorem scan_cut (f : Nat) (r : Bs) (hr : r.length ≤ 4096) (n : Nat) (hn : n < 8 + r.length) : scanL f ((frameP r).take n) = ([], 0) := by
  have hl : ((frameP r).take n).length = n := by rw [List.length_take, len_frameP]; omega
  by_cases h8 : n < 8
  · exact scan_short (by omega)
  · refine scan_bad (Or.inr ?_)
    have e : (frameP r).take n = le32 r.length ++ (le32 (crcP r) ++ r).take (n - 4) := by
      have : frameP r = le32 r.length ++ (le32 (crcP r) ++ r) := by simp [frameP]
      rw [this, List.take_append, List.take_of_length_le (by rw [len_le32]; omega), len_le32]
    have : val32 ((frameP r).take n) = r.length := by rw [e]; exact val32_le32 _ (by omega) _
    omega
/-- Frames that are cut: the first ones, all that are whole. -/
theorem scan_taken : ∀ (l : List Bs) (f n : Nat), (∀ x ∈ l, x.length ≤ 4096) → ((framesL l).take n).length ≤ f →
    ∃ j, j ≤ l.length ∧ scanL f ((framesL l).take n) = (l.take j, (framesL (l.take j)).length) ∧ (framesL (l.take j)).length ≤ n ∧ ∀ i, i ≤ l.length → (framesL (l.take i)).length ≤ n → i ≤ j
  | [], f, n, _, _ => ⟨0, Nat.le_refl _, by simp [framesL, scan_nil], by simp [framesL], fun i hi _ => by simpa using hi⟩
  | r :: l, f, n, h, hf => by
    have hr := h r (List.mem_cons_self ..)
    by_cases hn : n < 8 + r.length
    · refine ⟨0, Nat.zero_le _, ?_, by simp [framesL], fun i hi hil => ?_⟩
      · rw [framesL_cons, List.take_append_of_le_length (by rw [len_frameP]; omega), scan_cut _ r hr n hn]
        simp [framesL]
      · cases i with
        | zero => exact Nat.le_refl _
        | succ i =>
          rw [List.take_succ_cons, framesL_cons, List.length_append, len_frameP] at hil
          omega
    · have et : (framesL (r :: l)).take n = frameP r ++ (framesL l).take (n - (8 + r.length)) := by
        rw [framesL_cons, List.take_append, List.take_of_length_le (by rw [len_frameP]; omega), len_frameP]
      have hf2 := hf
      rw [et, List.length_append, len_frameP] at hf2
      obtain ⟨g, rfl⟩ : ∃ g, f = g + 1 := ⟨f - 1, by omega⟩
      obtain ⟨j, h1, h2, h3, h4⟩ := scan_taken l g (n - (8 + r.length)) (fun x hx => h x (List.mem_cons_of_mem _ hx)) (by omega)
      refine ⟨j + 1, by simp only [List.length_cons]; omega, ?_, ?_, fun i hi hil => ?_⟩
      · rw [et, scan_frame g r hr, h2, List.take_succ_cons, framesL_cons, List.length_append, len_frameP]
        congr 1
        exact Nat.add_comm ..
      · rw [List.take_succ_cons, framesL_cons, List.length_append, len_frameP]
        omega
      · cases i with
        | zero => omega
        | succ i =>
          rw [List.take_succ_cons, framesL_cons, List.length_append, len_frameP] at hil
          have := h4 i (by simp only [List.length_cons] at hi; omega) (by omega)
          omega
/-! ### files -/
theorem len_headP (k : UInt8) : (headP k).length = 8 := rfl
theorem hasP_self (a t : Bs) : hasP (a ++ t) a = true := by simp [hasP]
theorem hasP_take (a : Bs) (n : Nat) : hasP a (a.take n) = true := by
  simp only [hasP, List.length_take, Bool.and_eq_true, decide_eq_true_eq, beq_iff_eq]
  refine ⟨by omega, ?_⟩
  rw [← List.take_take, List.take_length]
def fileP (k : UInt8) (l : List Bs) : Bs := headP k ++ framesL l
theorem len_fileP (k : UInt8) (l : List Bs) : (fileP k l).length = 8 + (framesL l).length := by simp [fileP, len_headP]
theorem scanP_nil (k : UInt8) : scanP [] k = ([], 0, 0) := by
  rw [scanP, if_pos ⟨by simp, by simp [hasP]⟩]
theorem scanP_head (k : UInt8) (s : Bs) : scanP (headP k ++ s) k = ((scanL (8 + s.length) s).1, 8 + (scanL (8 + s.length) s).2, 0) := by
  have hl : (headP k ++ s).length = 8 + s.length := by simp [len_headP]
  rw [scanP, if_neg (by omega), if_neg (by rw [hasP_self]; decide), hl]
  rfl
theorem scanP_file (k : UInt8) (l : List Bs) (h : ∀ x ∈ l, x.length ≤ 4096) : scanP (fileP k l) k = (l, (fileP k l).length, 0) := by
  rw [fileP, scanP_head, scan_all l _ h (by have := len_framesL l; omega)]
  simp [len_headP]
/-- A log's file that is cut. -/
theorem scanP_cut (k : UInt8) (l : List Bs) (h : ∀ x ∈ l, x.length ≤ 4096) (n : Nat) :
    (n < 8 ∧ scanP ((fileP k l).take n) k = ([], 0, 0)) ∨
    (8 ≤ n ∧ ∃ j, j ≤ l.length ∧ scanP ((fileP k l).take n) k = (l.take j, (fileP k (l.take j)).length, 0) ∧ (fileP k (l.take j)).length ≤ n ∧ ∀ i, i ≤ l.length → (fileP k (l.take i)).length ≤ n → i ≤ j) := by
  by_cases hn : n < 8
  · refine Or.inl ⟨hn, ?_⟩
    have e : (fileP k l).take n = (headP k).take n := by rw [fileP, List.take_append_of_le_length (by rw [len_headP]; omega)]
    rw [e, scanP, if_pos ⟨by rw [List.length_take, len_headP]; omega, hasP_take _ _⟩]
  · refine Or.inr ⟨by omega, ?_⟩
    have e : (fileP k l).take n = headP k ++ (framesL l).take (n - 8) := by rw [fileP, List.take_append, List.take_of_length_le (by rw [len_headP]; omega), len_headP]
    obtain ⟨j, h1, h2, h3, h4⟩ := scan_taken l (8 + ((framesL l).take (n - 8)).length) (n - 8) h (by omega)
    refine ⟨j, h1, ?_, by rw [len_fileP]; omega, fun i hi hil => h4 i hi (by rw [len_fileP] at hil; omega)⟩
    rw [e, scanP_head, h2, len_fileP]

/-! ### few names -/
def Nd (l : Dir) : Prop := l.Pairwise (fun x y => x.1 ≠ y.1)
theorem Nd.del {l : Dir} (h : Nd l) (n : Bs) : Nd (Dir.del l n) := List.Pairwise.filter _ h
theorem Nd.ins {x : Bs × Nat} : ∀ {l : Dir}, Nd l → (∀ y ∈ l, y.1 ≠ x.1) → Nd (Dir.ins x l)
  | [], _, _ => List.pairwise_singleton _ _
  | y :: r, h, hx => by
    obtain ⟨h1, h2⟩ := List.pairwise_cons.1 h
    unfold Dir.ins
    split
    · exact List.pairwise_cons.2 ⟨fun z hz => fun e => hx z hz e.symm, h⟩
    · refine List.pairwise_cons.2 ⟨fun z hz => ?_, Nd.ins h2 fun z hz => hx z (List.mem_cons_of_mem _ hz)⟩
      rcases mem_ins.1 hz with rfl | hz
      · exact hx y (List.mem_cons_self ..)
      · exact h1 z hz
theorem Nd.put {l : Dir} (h : Nd l) (n : Bs) (p : Nat) : Nd (Dir.put l n p) := (h.del n).ins fun _ hy => (mem_del.1 hy).2
theorem Nd.does {l : Dir} (h : Nd l) (c : Chg) : Nd (c.does l) := by
  have h3 : Nd (if isE c.gone then l else Dir.del l (bs c.gone)) := by
    split
    · exact h
    · exact h.del _
  unfold Chg.does
  dsimp only
  split
  · exact h3
  · cases c.to with
    | none => exact h3
    | some p => exact h3.put _ _
theorem Nd.foldl : ∀ (cs : List Chg) {l : Dir}, Nd l → Nd (cs.foldl (fun l c => c.does l) l)
  | [], _, h => h
  | c :: r, _, h => Nd.foldl r (h.does c)
theorem len_del {l : Dir} (h : Nd l) (n : Bs) : l.length ≤ (Dir.del l n).length + 1 := by
  induction l with
  | nil => simp
  | cons x r ih =>
    obtain ⟨h1, h2⟩ := List.pairwise_cons.1 h
    have := ih h2
    unfold Dir.del at this ⊢
    rw [List.filter_cons]
    by_cases hx : x.1 = n
    · rw [if_neg (by simp [hx])]
      have e : List.filter (fun x => !(x.1 == n)) r = r := List.filter_eq_self.2 fun y hy => by
        have := h1 y hy
        rw [hx] at this
        simpa using fun e => this e.symm
      rw [e, List.length_cons]
      exact Nat.le_refl _
    · rw [if_pos (by simp [hx]), List.length_cons, List.length_cons]
      omega
theorem len_names : ∀ (N : List Bs) (l : Dir), Nd l → (∀ x ∈ l, x.1 ∈ N) → l.length ≤ N.length
  | [], l, _, h => by
    cases l with
    | nil => exact Nat.le_refl _
    | cons x r => exact absurd (h x (List.mem_cons_self ..)) (by simp)
  | n :: N, l, hd, h => by
    have h1 := len_names N (Dir.del l n) (hd.del n) fun x hx => by
      obtain ⟨h1, h2⟩ := mem_del.1 hx
      rcases List.mem_cons.1 (h x h1) with e | e
      · exact absurd e h2
      · exact e
    have := len_del hd n
    rw [List.length_cons]
    omega
/-- A disk of some room has names of N alone. -/
structure Few (N : List Bs) (D : PD) : Prop where
  q : 1048576 ≤ D.quota
  nf : Nd D.files
  f : ∀ x ∈ D.files, x.1 ∈ N
  ns : Nd D.sure
  s : ∀ x ∈ D.sure, x.1 ∈ N
  p : ∀ c ∈ D.pend, ∀ q, c.to = some q → bs c.name ∈ N
theorem Few.turns1 {N : List Bs} {D : PD} (h : Few N D) (c : Chg) (hc : ∀ q, c.to = some q → bs c.name ∈ N) : Few N (D.turns c) := by
  refine ⟨h.q, h.nf.does c, fun x hx => ?_, h.ns, h.s, fun c' hc' => ?_⟩
  · rcases mem_does hx with h1 | ⟨h1, h2⟩
    · exact h.f x h1
    · rw [h2]; exact hc _ h1
  · rcases List.mem_append.1 hc' with h1 | h1
    · exact h.p c' h1
    · obtain rfl := List.mem_singleton.1 h1
      exact hc
theorem Few.turn {N : List Bs} {D D' : PD} (h : Few N D) (t : Turn (fun n => n ∈ N) D D') : Few N D' := by
  cases t with
  | count => exact ⟨h.q, h.nf, h.f, h.ns, h.s, h.p⟩
  | down => exact ⟨h.q, h.nf, h.f, h.ns, h.s, h.p⟩
  | fresh name b p hn _ _ => exact Few.turns1 (D := (D.tick).setF p ⟨b, 0, D.clock⟩) ⟨h.q, h.nf, h.f, h.ns, h.s, h.p⟩ _ fun _ _ => hn
  | put n q b s _ _ => exact ⟨h.q, h.nf, h.f, h.ns, h.s, h.p⟩
  | rename name to q _ ht _ => exact h.turns1 _ fun _ _ => ht
  | remove name _ => exact h.turns1 _ fun _ e => by cases e
  | sync n q _ _ => exact ⟨h.q, h.nf, h.f, h.ns, h.s, h.p⟩
  | syncDir => exact ⟨h.q, h.nf, h.f, h.nf, h.f, fun _ hc => absurd hc (by simp)⟩
  | arm n _ _ => exact ⟨h.q, h.nf, h.f, h.ns, h.s, h.p⟩
  | restart dir tails =>
    obtain ⟨e1, e2, e3, _⟩ := restart_files D dir tails
    have hb : ∀ x ∈ D.back dir, x.1 ∈ N := fun x hx => by
      rcases mem_back hx with h1 | ⟨c, h1, h2, h3⟩
      · exact h.s x h1
      · rw [h3]; exact h.p c h1 _ h2
    have hn : Nd (D.back dir) := Nd.foldl _ h.ns
    exact ⟨by rw [(restart_flags D dir tails).2.2.1]; exact h.q, by rw [e1]; exact hn, by rw [e1]; exact hb, by rw [e2]; exact hn, by rw [e2]; exact hb, by rw [e3]; exact fun _ hc => absurd hc (by simp)⟩
theorem Few.turns {N : List Bs} {D D' : PD} {m : Nat} (h : Few N D) (t : Turns (fun n => n ∈ N) m D D') : Few N D' := t.keep (fun _ _ h t => h.turn t) h
theorem Few.new {N : List Bs} {q : Int} (h : 1048576 ≤ q) : Few N (PD.new q) :=
  ⟨h, List.Pairwise.nil, fun _ hx => absurd hx (by simp [PD.new]), List.Pairwise.nil, fun _ hx => absurd hx (by simp [PD.new]), fun _ hx => absurd hx (by simp [PD.new])⟩
/-- Each file is short enough. -/
def Short (D : PD) : Prop := ∀ x ∈ D.files, (D.fs x.2).b.length ≤ 65536
theorem sum_short (D : PD) : ∀ l : List (Bs × Nat), (∀ x ∈ l, (D.fs x.2).b.length ≤ 65536) → (List.map (fun x : Bs × Nat => D.len x.2) l).sum ≤ 65536 * (l.length : Int)
  | [], _ => by simp
  | x :: r, h => by
    have h1 := sum_short D r fun y hy => h y (List.mem_cons_of_mem _ hy)
    have h2 := h x (List.mem_cons_self ..)
    rw [List.map_cons, List.sum_cons, List.length_cons]
    have h3 : D.len x.2 = ((D.fs x.2).b.length : Int) := rfl
    rw [h3]
    omega
theorem Few.fits {N : List Bs} {D : PD} (h : Few N D) (hN : N.length ≤ 10) (hs : Short D) (n : Bs) {z : Int} (hz : z ≤ 65536) : D.fits n z = 0 := by
  have hl := len_names N D.files h.nf h.f
  refine fits_zero hz (fun _ => by omega) ?_
  have h1 : D.used ≤ 65536 * (D.files.length : Int) := sum_short D D.files hs
  have h2 : 0 ≤ D.old n := by
    unfold PD.old
    split
    · exact Int.natCast_nonneg _
    · exact Int.le_refl _
  have := h.q
  omega

/-! ### all directories that a restart may come to -/
def dirs (su : Dir) (pe : List Chg) (t : Nat) : Dir := (pe.take t).foldl (fun l c => c.does l) su
theorem back_dirs (D : PD) (dir : Int) : D.back dir = dirs D.sure D.pend (min (max dir 0).toNat D.pend.length) := rfl
theorem dirs_nil (su : Dir) (t : Nat) : dirs su [] t = su := by simp [dirs]
theorem dirs_snoc (su : Dir) (pe : List Chg) (c : Chg) (t : Nat) : dirs su (pe ++ [c]) t = if t ≤ pe.length then dirs su pe t else c.does (dirs su pe pe.length) := by
  unfold dirs
  split
  · rw [List.take_append_of_le_length (by assumption)]
  · rw [List.take_of_length_le (by rw [List.length_append, List.length_singleton]; omega), List.foldl_append, List.take_of_length_le (Nat.le_refl _)]
    rfl
theorem isE_e : isE ByteArray.empty = true := isE_empty
theorem find_new {name : ByteArray} (hn : isE name = false) (p : Nat) (l : Dir) (m : Bs) : Dir.find (Chg.does ⟨name, some p, ByteArray.empty⟩ l) m = if m = bs name then some p else Dir.find l m := by
  unfold Chg.does
  simp only [hn, isE_e]
  exact find_put _ _ _ _
theorem find_gone {name : ByteArray} (hn : isE name = false) (l : Dir) (m : Bs) : Dir.find (Chg.does ⟨ByteArray.empty, none, name⟩ l) m = if m = bs name then none else Dir.find l m := by
  unfold Chg.does
  simp only [hn, isE_e]
  exact find_del _ _ _
theorem find_moved {name to : ByteArray} (hn : isE name = false) (ht : isE to = false) (q : Nat) (l : Dir) (m : Bs) : Dir.find (Chg.does ⟨to, some q, name⟩ l) m = if m = bs to then some q else if m = bs name then none else Dir.find l m := by
  unfold Chg.does
  simp only [hn, ht, Bool.false_eq_true, ↓reduceIte]
  exact (find_put _ _ _ _).trans (by rw [find_del])
theorem has_find {D : PD} {n : Bs} {p : Nat} (h : Dir.find D.files n = some p) : D.has p := by
  unfold Dir.find at h
  cases hf : List.find? (fun x : Bs × Nat => x.1 == n) D.files with
  | none => rw [hf] at h; cases h
  | some x =>
    rw [hf] at h
    exact Or.inl ⟨x, List.mem_of_find?_eq_some hf, Option.some.inj h⟩
theorem has_dirs {D : PD} {n : Bs} {p t : Nat} (h : Dir.find (dirs D.sure D.pend t) n = some p) : D.has p := by
  unfold Dir.find at h
  cases hf : List.find? (fun x : Bs × Nat => x.1 == n) (dirs D.sure D.pend t) with
  | none => rw [hf] at h; cases h
  | some x =>
    rw [hf] at h
    obtain rfl := Option.some.inj h
    have hm := List.mem_of_find?_eq_some hf
    have key : ∀ (cs : List Chg) (l : Dir), x ∈ cs.foldl (fun l c => c.does l) l → x ∈ l ∨ ∃ c ∈ cs, c.to = some x.2 := by
      intro cs
      induction cs with
      | nil => exact fun l h => Or.inl h
      | cons c r ih =>
        intro l h
        rcases ih _ h with h1 | ⟨c', h1, h2⟩
        · rcases mem_does h1 with h3 | ⟨h3, _⟩
          · exact Or.inl h3
          · exact Or.inr ⟨c, by simp, h3⟩
        · exact Or.inr ⟨c', by simp [h1], h2⟩
    rcases key _ _ hm with h1 | ⟨c, h1, h2⟩
    · exact Or.inr (Or.inl ⟨x, h1, rfl⟩)
    · exact Or.inr (Or.inr ⟨c, List.mem_of_mem_take h1, h2⟩)
theorem short_find {D : PD} (h : Short D) {n : Bs} {p : Nat} (hf : Dir.find D.files n = some p) : (D.fs p).b.length ≤ 65536 := by
  unfold Dir.find at hf
  cases hx : List.find? (fun x : Bs × Nat => x.1 == n) D.files with
  | none => rw [hx] at hf; cases hf
  | some x =>
    rw [hx] at hf
    obtain rfl := Option.some.inj hf
    exact h x (List.mem_of_find?_eq_some hx)

/-! ### deeds -/
def andThen (r : Int × PD) (f : PD → Int × PD) : Int × PD := if r.1 = 0 then f r.2 else r
theorem then_ok (D : PD) (f : PD → Int × PD) : andThen (0, D) f = f D := rfl
theorem then_err {c : Int} (h : c ≠ 0) (D : PD) (f : PD → Int × PD) : andThen (c, D) f = (c, D) := if_neg h
theorem deed_cases (D : PD) (f : PD → Int × PD) : (D.deed true f = f D.counted) ∨ (D.deed true f = (8, { D with down := true })) := by
  unfold PD.deed
  by_cases h1 : D.down = true
  · rw [if_pos h1]
    right
    cases D
    simp only at h1
    rw [h1]
  · rw [if_neg h1]
    by_cases h2 : D.armed = 0
    · rw [if_pos h2]; exact Or.inr rfl
    · rw [if_neg h2, if_pos rfl]; exact Or.inl rfl
/-- A disk that is up, and is not armed. -/
def Up (D : PD) : Prop := D.down = false ∧ D.armed = -1
theorem Up.deed {D : PD} (h : Up D) (f : PD → Int × PD) : D.deed true f = f D.counted := deed_up h.1 (by rw [h.2]; decide) f
theorem Up.counted {D : PD} (h : Up D) : Up D.counted := ⟨h.1, by show (if 0 < D.armed then D.armed - 1 else D.armed) = -1; rw [h.2]; rfl⟩

/-! ### a log's file -/
/-- The file of a log (n; its spare one is n') is p, with the records of A, of which s are sure. -/
structure LogC (n n' : Bs) (k : UInt8) (files su : Dir) (pe : List Chg) (fs : Nat → PF) (A : List Bs) (s p : Nat) : Prop where
  cons : files = dirs su pe pe.length
  at_ : Dir.find files n = some p
  spare : Dir.find files n' = none
  b : (fs p).b = fileP k A
  may : ∀ t, Dir.find (dirs su pe t) n = some p ∨ (Dir.find (dirs su pe t) n = none ∧ s = 0)
  sure : s = 0 ∨ (fileP k (A.take s)).length ≤ (fs p).sure
  le : s ≤ A.length
abbrev LogS (n n' : Bs) (k : UInt8) (D : PD) (A : List Bs) (s : Nat) : Prop := ∃ p, LogC n n' k D.files D.sure D.pend D.fs A s p
/-- A log that is open: its file is as it should be; of what is sure nothing is said. -/
structure OpenC (n n' : Bs) (k : UInt8) (files su : Dir) (pe : List Chg) (fs : Nat → PF) (A : List Bs) (p : Nat) : Prop where
  cons : files = dirs su pe pe.length
  at_ : Dir.find files n = some p
  spare : Dir.find files n' = none
  b : (fs p).b = fileP k A
abbrev OpenS (n n' : Bs) (k : UInt8) (D : PD) (A : List Bs) : Prop := ∃ p, OpenC n n' k D.files D.sure D.pend D.fs A p
theorem LogS.open {n n' : Bs} {k : UInt8} {D : PD} {A : List Bs} {s : Nat} (h : LogS n n' k D A s) : OpenS n n' k D A := by
  obtain ⟨p, h⟩ := h
  exact ⟨p, h.cons, h.at_, h.spare, h.b⟩
/-- What a restart may find at a log's name: a beginning of A's file, with all that are sure, or O's file. -/
def Res (k : UInt8) (fs : Nat → PF) (A : List Bs) (s : Nat) (O : List Bs) : Option Nat → Prop
  | none => s = 0
  | some q => ((fs q).b = fileP k A ∧ (s = 0 ∨ (fileP k (A.take s)).length ≤ (fs q).sure)) ∨ ((fs q).b = fileP k O ∧ (fs q).sure = (fs q).b.length)
def LogM (n : Bs) (k : UInt8) (D : PD) (A : List Bs) (s : Nat) (O : List Bs) : Prop := s ≤ A.length ∧ ∀ t, Res k D.fs A s O (Dir.find (dirs D.sure D.pend t) n)
theorem LogS.weak {n n' : Bs} {k : UInt8} {D : PD} {A : List Bs} {s : Nat} (h : LogS n n' k D A s) (O : List Bs) : LogM n k D A s O := by
  obtain ⟨p, h⟩ := h
  refine ⟨h.le, fun t => ?_⟩
  rcases h.may t with e | ⟨e, h0⟩
  · rw [e]; exact Or.inl ⟨h.b, h.sure⟩
  · rw [e]; exact h0
theorem fileP_snoc (k : UInt8) (A : List Bs) (r : Bs) : fileP k A ++ frameP r = fileP k (A ++ [r]) := by simp [fileP, framesL]
section
variable {k : UInt8} {D : PD} {A : List Bs} {s : Nat} {name spare : ByteArray} (hn : isE name = false) (hs : isE spare = false) (hne : bs name ≠ bs spare) (rn : rightP name = true) (rs : rightP spare = true)
include rn in
theorem LogS.append (h : LogS (bs name) (bs spare) k D A s) (r : Bs) (q : Nat) (hf : D.counted.fits (bs name) (((fileP k A).length : Int) + (frameP r).length) = 0) :
    (∃ D', (D.deed (rightP name) fun D' => D'.append name (frameP r) q) = (0, D') ∧ LogS (bs name) (bs spare) k D' (A ++ [r]) s) ∨ (D.deed (rightP name) fun D' => D'.append name (frameP r) q) = (8, { D with down := true }) := by
  obtain ⟨p, h⟩ := h
  rw [rn]
  rcases deed_cases D (fun D' => D'.append name (frameP r) q) with e | e
  · left
    rw [e]
    have hfind : Dir.find D.counted.files (bs name) = some p := h.at_
    have hlen : D.counted.len p = ((fileP k A).length : Int) := by show (((D.fs p).b.length : Nat) : Int) = _; rw [h.b]
    refine ⟨(D.counted.tick).setF p ⟨(D.counted.fs p).b ++ frameP r, (D.counted.fs p).sure, D.counted.clock⟩, ?_, p, h.cons, h.at_, h.spare, ?_, h.may, ?_, ?_⟩
    · unfold PD.append
      rw [hfind]
      dsimp only
      rw [hlen, if_pos hf]
    · show (upd D.fs p _ p).b = _
      rw [upd_same]
      show (D.fs p).b ++ _ = _
      rw [h.b, fileP_snoc]
    · show _ ∨ _ ≤ (upd D.fs p _ p).sure
      rw [upd_same, List.take_append_of_le_length h.le]
      exact h.sure
    · rw [List.length_append]; exact Nat.le_trans h.le (Nat.le_add_right _ _)
  · right; rw [e]
def logSyncP (D : PD) (name : ByteArray) : Int × PD := andThen (D.deed (rightP name) fun D' => D'.sync name) fun D' => D'.deed true fun D' => D'.syncDir
theorem OpenC.sync1 {p : Nat} (h : OpenC (bs name) (bs spare) k D.files D.sure D.pend D.fs A p) : ∃ D', D.sync name = (0, D') ∧ D'.files = D.files ∧ D'.sure = D.sure ∧ D'.pend = D.pend ∧ (D'.fs p).b = fileP k A ∧ (D'.fs p).sure = (fileP k A).length ∧ D'.armed = D.armed ∧ D'.down = D.down := by
  refine ⟨D.setF p ⟨(D.fs p).b, (D.fs p).b.length, (D.fs p).time⟩, ?_, rfl, rfl, rfl, ?_, ?_, rfl, rfl⟩
  · unfold PD.sync
    rw [h.at_]
  · show (upd D.fs p _ p).b = _
    rw [upd_same]
    exact h.b
  · show (upd D.fs p _ p).sure = _
    rw [upd_same, h.b]
/-- All is sure where its directory is. -/
theorem logS_sure {p : Nat} {D1 : PD} (hat : Dir.find D1.files (bs name) = some p) (hsp : Dir.find D1.files (bs spare) = none) (hb : (D1.fs p).b = fileP k A) (hsu : (D1.fs p).sure = (fileP k A).length) : LogS (bs name) (bs spare) k (D1.syncDir).2 A A.length :=
  ⟨p, by show D1.files = dirs D1.files [] _; rw [dirs_nil], hat, hsp, hb, fun t => Or.inl (by show Dir.find (dirs D1.files [] t) _ = _; rw [dirs_nil]; exact hat), Or.inr (by show _ ≤ (D1.fs p).sure; rw [List.take_length, hsu]; exact Nat.le_refl _), Nat.le_refl _⟩
include rn in
theorem LogS.sync (h : LogS (bs name) (bs spare) k D A s) :
    (∃ D', logSyncP D name = (0, D') ∧ LogS (bs name) (bs spare) k D' A A.length) ∨ (∃ D', logSyncP D name = (8, D') ∧ D'.down = true ∧ LogS (bs name) (bs spare) k D' A s) := by
  obtain ⟨p, h⟩ := h
  unfold logSyncP
  rw [rn]
  rcases deed_cases D (fun D' => D'.sync name) with e | e
  · obtain ⟨D1, e1, f1, f2, f3, f4, f5, f6, f7⟩ := OpenC.sync1 (D := D.counted) (name := name) (spare := spare) (k := k) (A := A) (p := p) ⟨h.cons, h.at_, h.spare, h.b⟩
    rw [e, e1]
    rw [then_ok]
    have g1 : Dir.find D1.files (bs name) = some p := by rw [f1]; exact h.at_
    have g2 : Dir.find D1.files (bs spare) = none := by rw [f1]; exact h.spare
    rcases deed_cases D1 (fun D' => D'.syncDir) with e2 | e2
    · left
      rw [e2]
      exact ⟨_, rfl, logS_sure (D1 := D1.counted) g1 g2 f4 f5⟩
    · right
      rw [e2]
      refine ⟨_, rfl, rfl, p, ?_, g1, g2, f4, ?_, ?_, h.le⟩
      · show D1.files = dirs D1.sure D1.pend D1.pend.length
        rw [f1, f2, f3]; exact h.cons
      · show ∀ t, Dir.find (dirs D1.sure D1.pend t) _ = _ ∨ _
        rw [f2, f3]; exact h.may
      · right
        show _ ≤ (D1.fs p).sure
        rw [f5, len_fileP, len_fileP]
        conv => rhs; rw [← List.take_append_drop s A, framesL_append, List.length_append]
        omega
  · right
    rw [e, then_err (by decide)]
    exact ⟨_, rfl, rfl, p, h.cons, h.at_, h.spare, h.b, h.may, h.sure, h.le⟩
include rn in
theorem OpenS.sync (h : OpenS (bs name) (bs spare) k D A) (hu : Up D) : ∃ D', logSyncP D name = (0, D') ∧ LogS (bs name) (bs spare) k D' A A.length ∧ Up D' := by
  obtain ⟨p, h⟩ := h
  obtain ⟨D1, e1, f1, f2, f3, f4, f5, f6, f7⟩ := OpenC.sync1 (D := D.counted) (name := name) (spare := spare) (k := k) (A := A) (p := p) ⟨h.cons, h.at_, h.spare, h.b⟩
  have u1 : Up D1 := ⟨by rw [f7]; exact hu.counted.1, by rw [f6]; exact hu.counted.2⟩
  unfold logSyncP
  rw [rn, hu.deed, e1]
  rw [then_ok, u1.deed]
  exact ⟨_, rfl, logS_sure (D1 := D1.counted) (by show Dir.find D1.files _ = _; rw [f1]; exact h.at_) (by show Dir.find D1.files _ = _; rw [f1]; exact h.spare) f4 f5, u1.counted⟩

/-! ### it is written anew -/
def logRewriteP (D : PD) (name spare : ByteArray) (b : Bs) (p : Nat) : Int × PD :=
  andThen (D.deed (rightP spare) fun D' => D'.fresh spare b p) fun D1 => andThen (D1.deed (rightP spare) fun D' => D'.sync spare) fun D2 => andThen (D2.deed (rightP spare && rightP name) fun D' => D'.rename spare name) fun D3 => D3.deed true fun D' => D'.syncDir
/-- .. midway: the spare file p' beside it. -/
structure MidC (n n' : Bs) (k : UInt8) (D : PD) (A : List Bs) (s : Nat) (O : List Bs) (p p' : Nat) (z : Bool) : Prop where
  cons : D.files = dirs D.sure D.pend D.pend.length
  spare : Dir.find D.files n' = some p'
  b : (D.fs p).b = fileP k A
  b' : (D.fs p').b = fileP k O
  may : ∀ t, Dir.find (dirs D.sure D.pend t) n = some p ∨ (Dir.find (dirs D.sure D.pend t) n = none ∧ s = 0)
  sure : s = 0 ∨ (fileP k (A.take s)).length ≤ (D.fs p).sure
  le : s ≤ A.length
  all : z = true → (D.fs p').sure = (fileP k O).length
  ne : p ≠ p'
theorem MidC.weak {n n' : Bs} {O : List Bs} {p p' : Nat} {z : Bool} (h : MidC n n' k D A s O p p' z) {D' : PD} (e1 : D'.sure = D.sure) (e2 : D'.pend = D.pend) (e3 : D'.fs = D.fs) : LogM n k D' A s O := by
  refine ⟨h.le, fun t => ?_⟩
  rw [e1, e2, e3]
  rcases h.may t with e | ⟨e, h0⟩
  · rw [e]; exact Or.inl ⟨h.b, h.sure⟩
  · rw [e]; exact h0
include hs hne in
theorem LogS.rewrite1 (h : LogS (bs name) (bs spare) k D A s) (O : List Bs) (q : Nat) (hq : ¬ D.has q) (hf : D.fits (bs spare) (fileP k O).length = 0) : ∃ D' p, D.fresh spare (fileP k O) q = (0, D') ∧ MidC (bs name) (bs spare) k D' A s O p q false := by
  obtain ⟨p, h⟩ := h
  have hp : p ≠ q := fun e => hq (e ▸ has_find h.at_)
  refine ⟨((D.tick).setF q ⟨fileP k O, 0, D.clock⟩).turns ⟨spare, some q, ByteArray.empty⟩, p, by rw [PD.fresh, if_pos hf], ?_, ?_, ?_, ?_, ?_, ?_, h.le, (fun e => by cases e), hp⟩
  · show Chg.does _ D.files = dirs D.sure (D.pend ++ [_]) (D.pend ++ [_]).length
    rw [dirs_snoc, if_neg (by rw [List.length_append, List.length_singleton]; omega), ← h.cons]
  · show Dir.find (Chg.does _ D.files) _ = _
    rw [find_new hs, if_pos rfl]
  · show (upd D.fs q _ p).b = _
    rw [upd_other _ hp]; exact h.b
  · show (upd D.fs q _ q).b = _
    rw [upd_same]
  · intro t
    show Dir.find (dirs D.sure (D.pend ++ [_]) t) _ = some p ∨ (Dir.find (dirs D.sure (D.pend ++ [_]) t) _ = none ∧ s = 0)
    rw [dirs_snoc]
    split
    · exact h.may t
    · rw [find_new hs, if_neg hne]; exact h.may _
  · show _ ∨ _ ≤ (upd D.fs q _ p).sure
    rw [upd_other _ hp]; exact h.sure
theorem MidC.sync {n : Bs} {O : List Bs} {p p' : Nat} (h : MidC n (bs spare) k D A s O p p' false) : ∃ D', D.sync spare = (0, D') ∧ MidC n (bs spare) k D' A s O p p' true := by
  refine ⟨D.setF p' ⟨(D.fs p').b, (D.fs p').b.length, (D.fs p').time⟩, ?_, h.cons, h.spare, ?_, ?_, h.may, ?_, h.le, fun _ => ?_, h.ne⟩
  · unfold PD.sync
    rw [h.spare]
  · show (upd D.fs p' _ p).b = _
    rw [upd_other _ h.ne]; exact h.b
  · show (upd D.fs p' _ p').b = _
    rw [upd_same]; exact h.b'
  · show _ ∨ _ ≤ (upd D.fs p' _ p).sure
    rw [upd_other _ h.ne]; exact h.sure
  · show (upd D.fs p' _ p').sure = _
    rw [upd_same, h.b']
include hs hn hne in
theorem MidC.rename {O : List Bs} {p p' : Nat} (h : MidC (bs name) (bs spare) k D A s O p p' true) :
    ∃ D', D.rename spare name = (0, D') ∧ LogM (bs name) k D' A s O ∧ Dir.find D'.files (bs name) = some p' ∧ Dir.find D'.files (bs spare) = none ∧ (D'.fs p').b = fileP k O ∧ (D'.fs p').sure = (fileP k O).length := by
  refine ⟨D.turns ⟨name, some p', spare⟩, ?_, ⟨h.le, fun t => ?_⟩, ?_, ?_, h.b', h.all rfl⟩
  · unfold PD.rename
    rw [h.spare]
  · show Res k D.fs A s O (Dir.find (dirs D.sure (D.pend ++ [_]) t) _)
    rw [dirs_snoc]
    split
    · rcases h.may t with e | ⟨e, h0⟩
      · rw [e]; exact Or.inl ⟨h.b, h.sure⟩
      · rw [e]; exact h0
    · rw [find_moved hs hn, if_pos rfl]
      exact Or.inr ⟨h.b', by rw [h.all rfl, h.b']⟩
  · show Dir.find (Chg.does _ D.files) _ = _
    rw [find_moved hs hn, if_pos rfl]
  · show Dir.find (Chg.does _ D.files) _ = _
    rw [find_moved hs hn, if_neg fun e => hne e.symm, if_pos rfl]
theorem MidC.counted {n n' : Bs} {O : List Bs} {p p' : Nat} {z : Bool} (h : MidC n n' k D A s O p p' z) : MidC n n' k D.counted A s O p p' z :=
  ⟨h.cons, h.spare, h.b, h.b', h.may, h.sure, h.le, h.all, h.ne⟩
include hn hs hne rn rs in
theorem LogS.rewrite (h : LogS (bs name) (bs spare) k D A s) (O : List Bs) (q : Nat) (hq : ¬ D.has q) (hf : D.counted.fits (bs spare) (fileP k O).length = 0) :
    (∃ D', logRewriteP D name spare (fileP k O) q = (0, D') ∧ LogS (bs name) (bs spare) k D' O O.length) ∨ (∃ D', logRewriteP D name spare (fileP k O) q = (8, D') ∧ D'.down = true ∧ LogM (bs name) k D' A s O) := by
  unfold logRewriteP
  rw [rn, rs]
  rcases deed_cases D (fun D' => D'.fresh spare (fileP k O) q) with e | e
  · obtain ⟨D1, p, e1, m1⟩ := LogS.rewrite1 (D := D.counted) hs hne h O q hq hf
    rw [e, e1]
    rw [then_ok]
    rcases deed_cases D1 (fun D' => D'.sync spare) with e | e
    · obtain ⟨D2, e2, m2⟩ := m1.counted.sync
      rw [e, e2, then_ok, Bool.and_self]
      rcases deed_cases D2 (fun D' => D'.rename spare name) with e | e
      · obtain ⟨D3, e3, m3, g1, g2, g3, g4⟩ := m2.counted.rename hn hs hne
        rw [e, e3, then_ok]
        rcases deed_cases D3 (fun D' => D'.syncDir) with e | e
        · left
          rw [e]
          exact ⟨_, rfl, logS_sure (D1 := D3.counted) g1 g2 g3 g4⟩
        · right
          rw [e]
          exact ⟨_, rfl, rfl, m3⟩
      · right
        rw [e, then_err (by decide)]
        exact ⟨_, rfl, rfl, m2.weak rfl rfl rfl⟩
    · right
      rw [e, then_err (by decide)]
      exact ⟨_, rfl, rfl, m1.weak rfl rfl rfl⟩
  · right
    rw [e, then_err (by decide)]
    exact ⟨_, rfl, rfl, LogS.weak (D := { D with down := true }) h O⟩

/-! ### behind a restart -/
/-- What a restart keeps of a file: a beginning of it, all that is sure. -/
def Kept (f g : PF) : Prop := ∃ m, f.sure ≤ m ∧ g.b = f.b.take m ∧ (f.sure ≤ g.sure ∨ f.b.length ≤ g.sure)
theorem Kept.refl (f : PF) : Kept f f := ⟨max f.sure f.b.length, Nat.le_max_left _ _, (List.take_of_length_le (Nat.le_max_right _ _)).symm, Or.inl (Nat.le_refl _)⟩
theorem Kept.trans {f g h : PF} (h1 : Kept f g) (h2 : Kept g h) : Kept f h := by
  obtain ⟨m1, a1, b1, c1⟩ := h1
  obtain ⟨m2, a2, b2, c2⟩ := h2
  have hl : g.b.length = min m1 f.b.length := by rw [b1, List.length_take]
  have hc : f.sure ≤ h.sure ∨ f.b.length ≤ h.sure := by omega
  by_cases hm : f.sure ≤ m2
  · exact ⟨min m2 m1, by omega, by rw [b2, b1, List.take_take], hc⟩
  · refine ⟨m1, a1, ?_, hc⟩
    rw [b2, b1, List.take_take]
    have : f.b.length ≤ m2 := by omega
    by_cases h3 : m2 ≤ m1
    · rw [Nat.min_eq_left h3, List.take_of_length_le this, List.take_of_length_le (by omega)]
    · rw [Nat.min_eq_right (by omega)]
theorem cuts_kept (D : PD) (r : Nat) (t : Int) (q : Nat) : Kept (D.fs q) ((D.cuts r t).fs q) := by
  by_cases h : q = r
  · subst h
    rw [cuts_at_fs]
    unfold PF.kept
    split
    · exact ⟨_, Nat.le_add_right _ _, rfl, Or.inl (Nat.le_add_right _ _)⟩
    · exact ⟨max (D.fs q).sure (D.fs q).b.length, Nat.le_max_left _ _, (List.take_of_length_le (Nat.le_max_right _ _)).symm, Or.inr (Nat.le_refl _)⟩
  · have e : (D.cuts r t).fs q = D.fs q := by
      unfold PD.cuts
      dsimp only
      split
      · exact upd_other _ h _
      · exact upd_other _ h _
    rw [e]
    exact Kept.refl _
theorem cutsAll_kept (tails : List Int) (q : Nat) : ∀ (l : List (Bs × Nat)) (i : Nat) (D : PD), Kept (D.fs q) ((PD.cutsAll tails i l D).fs q)
  | [], _, _ => Kept.refl _
  | x :: r, i, D => (cuts_kept D x.2 _ q).trans (cutsAll_kept tails q r (i + 1) _)
theorem restart_kept (D : PD) (dir : Int) (tails : List Int) (q : Nat) : Kept (D.fs q) ((D.restart dir tails).fs q) := by
  rw [(restart_files D dir tails).2.2.2.1]
  exact cutsAll_kept tails q (D.back dir) 0 { D with files := D.back dir }
def RstF (k : UInt8) (fs : Nat → PF) (A : List Bs) (s : Nat) (O : List Bs) : Option Nat → Prop
  | none => s = 0
  | some q => (∃ m, (fs q).b = (fileP k A).take m ∧ (s = 0 ∨ (fileP k (A.take s)).length ≤ m)) ∨ (fs q).b = fileP k O
structure Rst (n : Bs) (k : UInt8) (D : PD) (A : List Bs) (s : Nat) (O : List Bs) : Prop where
  pend : D.pend = []
  su : D.sure = D.files
  up : Up D
  le : s ≤ A.length
  f : RstF k D.fs A s O (Dir.find D.files n)
theorem LogM.restart {n : Bs} {O : List Bs} (h : LogM n k D A s O) (dir : Int) (tails : List Int) : Rst n k (D.restart dir tails) A s O := by
  obtain ⟨e1, e2, e3, _⟩ := restart_files D dir tails
  obtain ⟨u1, u2, _⟩ := restart_flags D dir tails
  refine ⟨e3, by rw [e1, e2], ⟨u1, u2⟩, h.1, ?_⟩
  rw [e1, back_dirs]
  have ht := h.2 (min (max dir 0).toNat D.pend.length)
  cases hf : Dir.find (dirs D.sure D.pend (min (max dir 0).toNat D.pend.length)) n with
  | none => rw [hf] at ht; exact ht
  | some q =>
    rw [hf] at ht
    obtain ⟨m, k1, k2, _⟩ := restart_kept D dir tails q
    rcases ht with ⟨b1, b2⟩ | ⟨b1, b2⟩
    · exact Or.inl ⟨m, by rw [k2, b1], b2.imp_right fun h => Nat.le_trans h k1⟩
    · exact Or.inr (by rw [k2, List.take_of_length_le (by omega), b1])

/-! ### it is opened -/
def readP (D : PD) (n : Bs) : Bs := match Dir.find D.files n with | none => [] | some q => (D.fs q).b
def spareP (D : PD) (spare : ByteArray) : Int × PD := if (Dir.find D.files (bs spare)).isSome = true then D.deed (rightP spare) fun D' => D'.remove spare else (0, D)
def fixP (D : PD) (name : ByteArray) (k : UInt8) (q : Nat) : Int × PD :=
  if (scanP (readP D (bs name)) k).2.2 ≠ 0 then ((scanP (readP D (bs name)) k).2.2, D)
  else if (scanP (readP D (bs name)) k).2.1 = 0 then D.deed (rightP name) fun D' => D'.fresh name (headP k) q
  else if (scanP (readP D (bs name)) k).2.1 < (readP D (bs name)).length then D.deed (rightP name) fun D' => D'.cut name ((scanP (readP D (bs name)) k).2.1 : Nat)
  else (0, D)
def logOpenP (D : PD) (name spare : ByteArray) (k : UInt8) (q : Nat) : Int × PD :=
  if D.down = true then (8, D) else andThen (spareP D spare) fun D1 => fixP D1 name k q
def openGot (D : PD) (name spare : ByteArray) (k : UInt8) : List Bs := (scanP (readP (spareP D spare).2 (bs name)) k).1
include hs hne rs in
theorem spare_up {N : List Bs} (hu : Up D) (hc : D.files = dirs D.sure D.pend D.pend.length) (hF : Few N D) (hS : Short D) :
    ∃ D1, spareP D spare = (0, D1) ∧ Up D1 ∧ Few N D1 ∧ Short D1 ∧ D1.fs = D.fs ∧ Dir.find D1.files (bs name) = Dir.find D.files (bs name) ∧ Dir.find D1.files (bs spare) = none ∧ D1.files = dirs D1.sure D1.pend D1.pend.length := by
  unfold spareP
  cases hf : Dir.find D.files (bs spare) with
  | none => exact ⟨D, by simp, hu, hF, hS, rfl, rfl, hf, hc⟩
  | some q =>
    refine ⟨D.counted.turns ⟨ByteArray.empty, none, spare⟩, ?_, hu.counted, ?_, ?_, rfl, ?_, ?_, ?_⟩
    · rw [if_pos (by rfl), rs, hu.deed]
      unfold PD.remove
      have : Dir.find D.counted.files (bs spare) = some q := hf
      rw [this]
    · exact Few.turns1 (D := D.counted) ⟨hF.q, hF.nf, hF.f, hF.ns, hF.s, hF.p⟩ _ fun _ e => by cases e
    · intro x hx
      rcases mem_does hx with h1 | ⟨h1, _⟩
      · exact hS x h1
      · cases h1
    · show Dir.find (Chg.does _ D.files) _ = _
      rw [find_gone hs, if_neg hne]
    · show Dir.find (Chg.does _ D.files) _ = _
      rw [find_gone hs, if_pos rfl]
    · show Chg.does _ D.files = dirs D.sure (D.pend ++ [_]) (D.pend ++ [_]).length
      rw [dirs_snoc, if_neg (by rw [List.length_append, List.length_singleton]; omega), ← hc]
include hn hne rn in
theorem head_up {N : List Bs} (hN : N.length ≤ 10) (hu : Up D) (hc : D.files = dirs D.sure D.pend D.pend.length) (hF : Few N D) (hS : Short D) (hsp : Dir.find D.files (bs spare) = none) (q : Nat) :
    ∃ D', (D.deed (rightP name) fun D' => D'.fresh name (headP k) q) = (0, D') ∧ OpenS (bs name) (bs spare) k D' [] ∧ Up D' := by
  rw [rn, hu.deed]
  have hf : D.counted.fits (bs name) (headP k).length = 0 := Few.fits (D := D.counted) ⟨hF.q, hF.nf, hF.f, hF.ns, hF.s, hF.p⟩ hN hS _ (by rw [len_headP]; decide)
  refine ⟨((D.counted.tick).setF q ⟨headP k, 0, D.counted.clock⟩).turns ⟨name, some q, ByteArray.empty⟩, by rw [PD.fresh, if_pos hf], ⟨q, ?_, ?_, ?_, ?_⟩, hu.counted⟩
  · show Chg.does _ D.files = dirs D.sure (D.pend ++ [_]) (D.pend ++ [_]).length
    rw [dirs_snoc, if_neg (by rw [List.length_append, List.length_singleton]; omega), ← hc]
  · show Dir.find (Chg.does _ D.files) _ = _
    rw [find_new hn, if_pos rfl]
  · show Dir.find (Chg.does _ D.files) _ = _
    rw [find_new hn, if_neg fun e => hne e.symm]; exact hsp
  · show (upd D.fs q _ q).b = _
    rw [upd_same]
    simp [fileP, framesL]
theorem take_fileP (k : UInt8) (A : List Bs) (j : Nat) : (fileP k A).take (fileP k (A.take j)).length = fileP k (A.take j) := by
  have e : fileP k A = fileP k (A.take j) ++ framesL (A.drop j) := by
    unfold fileP
    rw [List.append_assoc, ← framesL_append, List.take_append_drop]
  rw [e]
  exact List.take_left
include hn hs hne rn rs in
/-- Behind a restart: it has the first ones of A, all that are sure, or all of O. -/
theorem Rst.open {O : List Bs} {N : List Bs} (hN : N.length ≤ 10) (h : Rst (bs name) k D A s O) (hA : ∀ x ∈ A, x.length ≤ 4096) (hO : ∀ x ∈ O, x.length ≤ 4096) (hF : Few N D) (hS : Short D) (q : Nat) :
    ∃ D', logOpenP D name spare k q = (0, D') ∧ OpenS (bs name) (bs spare) k D' (openGot D name spare k) ∧ Up D' ∧ ((∃ j, s ≤ j ∧ j ≤ A.length ∧ openGot D name spare k = A.take j) ∨ openGot D name spare k = O) := by
  obtain ⟨D1, e1, u1, F1, S1, f1, f2, f3, c1⟩ := spare_up hs hne rs h.up (by rw [h.pend, dirs_nil, h.su]) hF hS
  have hr := h.f
  unfold logOpenP openGot
  rw [if_neg (by rw [h.up.1]; decide), e1]
  rw [then_ok]
  have write : scanP (readP D1 (bs name)) k = ([], 0, 0) → s = 0 → ∃ D', fixP D1 name k q = (0, D') ∧ OpenS (bs name) (bs spare) k D' (scanP (readP D1 (bs name)) k).1 ∧ Up D' ∧ ((∃ j, s ≤ j ∧ j ≤ A.length ∧ (scanP (readP D1 (bs name)) k).1 = A.take j) ∨ (scanP (readP D1 (bs name)) k).1 = O) := by
    intro e h0
    obtain ⟨D', g1, g2, g3⟩ := head_up (k := k) hn hne rn hN u1 c1 F1 S1 f3 q
    unfold fixP
    rw [e]
    dsimp only
    rw [if_neg (by decide), if_pos rfl, g1]
    exact ⟨D', rfl, g2, g3, Or.inl ⟨0, by omega, Nat.zero_le _, by simp⟩⟩
  cases hf : Dir.find D.files (bs name) with
  | none =>
    rw [hf] at hr
    have er : readP D1 (bs name) = [] := by unfold readP; rw [f2, hf]
    exact write (by rw [er]; exact scanP_nil k) hr
  | some p =>
    rw [hf] at hr
    have er : readP D1 (bs name) = (D1.fs p).b := by unfold readP; rw [f2, hf]
    rw [← f1] at hr
    rcases hr with ⟨m, b1, b2⟩ | b1
    · rcases scanP_cut k A hA m with ⟨hm, es⟩ | ⟨hm, j, hj, es, hjm, hmax⟩
      · refine write (by rw [er, b1, es]) ?_
        rcases b2 with b2 | b2
        · exact b2
        · rw [len_fileP] at b2; omega
      · have hsj : s ≤ j := by
          rcases b2 with b2 | b2
          · omega
          · exact hmax s h.le b2
        have hlj := len_fileP k (A.take j)
        unfold fixP
        rw [er, b1, es]
        dsimp only
        rw [if_neg (by decide), if_neg (by omega)]
        have hle : (fileP k (A.take j)).length ≤ (fileP k A).length := by
          have := congrArg List.length (take_fileP k A j)
          rw [List.length_take] at this
          omega
        split
        · rename_i hlt
          rw [rn, u1.deed]
          refine ⟨(D1.counted.tick).setF p ⟨(D1.counted.fs p).b.take (((fileP k (A.take j)).length : Nat) : Int).toNat, min (D1.counted.fs p).sure (((fileP k (A.take j)).length : Nat) : Int).toNat, D1.counted.clock⟩, ?_, ⟨p, c1, by show Dir.find D1.files _ = _; rw [f2, hf], f3, ?_⟩, u1.counted, Or.inl ⟨j, hsj, hj, rfl⟩⟩
          · have hfc : Dir.find D1.counted.files (bs name) = some p := by show Dir.find D1.files _ = _; rw [f2, hf]
            unfold PD.cut
            rw [hfc]
            dsimp only
            unfold PD.cutAt
            rw [if_neg]
            show ¬ (_ ∨ (((D1.fs p).b.length : Nat) : Int) < _)
            rw [b1]
            omega
          · show (upd D1.fs p _ p).b = _
            rw [upd_same]
            show (D1.fs p).b.take _ = _
            rw [b1, Int.toNat_natCast, List.take_take, Nat.min_eq_left hjm, take_fileP]
        · rename_i hlt
          refine ⟨D1, rfl, ⟨p, c1, by rw [f2, hf], f3, ?_⟩, u1, Or.inl ⟨j, hsj, hj, rfl⟩⟩
          rw [List.length_take] at hlt
          rw [b1, ← take_fileP k A j]
          by_cases h3 : m ≤ (fileP k A).length
          · rw [show m = (fileP k (A.take j)).length by omega]
          · rw [List.take_of_length_le (by omega), List.take_of_length_le (by omega)]
    · unfold fixP
      rw [er, b1, scanP_file k O hO]
      dsimp only
      rw [if_neg (by decide), if_neg (by rw [len_fileP]; omega), if_neg (Nat.lt_irrefl _)]
      exact ⟨D1, rfl, ⟨p, c1, by rw [f2, hf], f3, b1⟩, u1, Or.inr rfl⟩
/-- A log that is open, opened anew. -/
theorem OpenS.again (h : OpenS (bs name) (bs spare) k D A) (hd : D.down = false) (hA : ∀ x ∈ A, x.length ≤ 4096) (q : Nat) : logOpenP D name spare k q = (0, D) ∧ openGot D name spare k = A := by
  obtain ⟨p, h⟩ := h
  have e1 : spareP D spare = (0, D) := by unfold spareP; rw [h.spare]; simp
  have er : readP D (bs name) = fileP k A := by unfold readP; rw [h.at_]; exact h.b
  unfold logOpenP openGot
  rw [if_neg (by rw [hd]; decide), e1]
  rw [then_ok]
  unfold fixP
  rw [er, scanP_file k A hA]
  dsimp only
  rw [if_neg (by decide), if_neg (by rw [len_fileP]; omega), if_neg (Nat.lt_irrefl _)]
  exact ⟨rfl, rfl⟩
include hn hne rn in
/-- A log of a new disk. -/
theorem open_new (Q : Int) (hQ : 1048576 ≤ Q) (q : Nat) : ∃ D', logOpenP (PD.new Q) name spare k q = (0, D') ∧ LogS (bs name) (bs spare) k D' [] 0 ∧ Up D' ∧ openGot (PD.new Q) name spare k = [] := by
  have e1 : spareP (PD.new Q) spare = (0, PD.new Q) := by unfold spareP; rfl
  have er : readP (PD.new Q) (bs name) = [] := rfl
  obtain ⟨D', g1, ⟨p, g2⟩, g3⟩ := head_up (k := k) (D := PD.new Q) (N := []) (spare := spare) hn hne rn (by simp) ⟨rfl, rfl⟩ rfl (Few.new hQ) (fun x hx => absurd hx (by simp [PD.new])) rfl q
  unfold logOpenP openGot
  rw [if_neg (show ¬ (PD.new Q).down = true by simp [PD.new]), e1]
  rw [then_ok]
  unfold fixP
  rw [er, scanP_nil]
  dsimp only
  rw [if_neg (by decide), if_pos rfl, g1]
  refine ⟨D', rfl, ⟨p, g2.cons, g2.at_, g2.spare, g2.b, fun t => ?_, Or.inl rfl, Nat.zero_le _⟩, g3, rfl⟩
  have hd : D' = (((PD.new Q).counted.tick).setF q ⟨headP k, 0, (PD.new Q).counted.clock⟩).turns ⟨name, some q, ByteArray.empty⟩ := by
    have hu : Up (PD.new Q) := ⟨rfl, rfl⟩
    rw [rn, hu.deed] at g1
    have hf : (PD.new Q).counted.fits (bs name) (headP k).length = 0 := Few.fits (D := (PD.new Q).counted) (N := []) (Few.new (N := []) hQ |> fun h => ⟨h.q, h.nf, h.f, h.ns, h.s, h.p⟩) (by simp) (fun x hx => absurd hx (by simp [PD.new, PD.counted])) _ (by rw [len_headP]; decide)
    rw [PD.fresh, if_pos hf] at g1
    exact (Prod.mk.inj g1).2.symm
  subst hd
  have hat := g2.at_
  show Dir.find (dirs [] [(⟨name, some q, ByteArray.empty⟩ : Chg)] t) _ = _ ∨ (Dir.find (dirs [] [(⟨name, some q, ByteArray.empty⟩ : Chg)] t) _ = none ∧ _)
  have e : dirs [] [(⟨name, some q, ByteArray.empty⟩ : Chg)] t = if t ≤ 0 then [] else Chg.does ⟨name, some q, ByteArray.empty⟩ [] := by
    have := dirs_snoc [] [] (⟨name, some q, ByteArray.empty⟩ : Chg) t
    simpa [dirs] using this
  rw [e]
  split
  · exact Or.inr ⟨rfl, rfl⟩
  · left
    have : Chg.does ⟨name, some q, ByteArray.empty⟩ [] = ((((PD.new Q).counted.tick).setF q ⟨headP k, 0, (PD.new Q).counted.clock⟩).turns ⟨name, some q, ByteArray.empty⟩).files := rfl
    rw [this]
    exact hat
end

/-- What a deed leaves as it is. -/
def Flags (D D' : PD) : Prop := D'.down = D.down ∧ D'.armed = D.armed
theorem fl_fresh (D : PD) (n : ByteArray) (b : Bs) (p : Nat) : Flags D (D.fresh n b p).2 := by
  unfold PD.fresh
  split <;> exact ⟨rfl, rfl⟩
theorem fl_append (D : PD) (n : ByteArray) (b : Bs) (p : Nat) : Flags D (D.append n b p).2 := by
  unfold PD.append
  split
  · exact fl_fresh _ _ _ _
  · split <;> exact ⟨rfl, rfl⟩
theorem fl_cut (D : PD) (n : ByteArray) (m : Int) : Flags D (D.cut n m).2 := by
  unfold PD.cut
  split
  · exact ⟨rfl, rfl⟩
  · unfold PD.cutAt
    split <;> exact ⟨rfl, rfl⟩
theorem fl_rename (D : PD) (n t : ByteArray) : Flags D (D.rename n t).2 := by
  unfold PD.rename
  split <;> exact ⟨rfl, rfl⟩
theorem fl_remove (D : PD) (n : ByteArray) : Flags D (D.remove n).2 := by
  unfold PD.remove
  split <;> exact ⟨rfl, rfl⟩
theorem fl_sync (D : PD) (n : ByteArray) : Flags D (D.sync n).2 := by
  unfold PD.sync
  split <;> exact ⟨rfl, rfl⟩
theorem Up.flags {D D' : PD} (h : Up D) (f : Flags D D') : Up D' := ⟨f.1.trans h.1, f.2.trans h.2⟩
theorem Up.did {D : PD} (h : Up D) {r : Bool} {f : PD → Int × PD} (hf : ∀ D, Flags D (f D).2) : Up (D.deed r f).2 := by
  cases r
  · have e : D.deed false f = (5, D.counted) := by
      unfold PD.deed
      rw [if_neg (by rw [h.1]; decide), if_neg (by rw [h.2]; decide)]
      rfl
    rw [e]; exact h.counted
  · rw [h.deed]; exact h.counted.flags (hf _)
theorem Up.thn {r : Int × PD} {f : PD → Int × PD} (h : Up r.2) (hf : ∀ D, Up D → Up (f D).2) : Up (andThen r f).2 := by
  unfold andThen
  split
  · exact hf _ h
  · exact h
theorem Up.syncs {D : PD} (h : Up D) (name : ByteArray) : Up (logSyncP D name).2 := (h.did fun D => fl_sync D name).thn fun _ h => h.did fun _ => ⟨rfl, rfl⟩
theorem Up.rewrites {D : PD} (h : Up D) (name spare : ByteArray) (b : Bs) (q : Nat) : Up (logRewriteP D name spare b q).2 :=
  (h.did fun D => fl_fresh D spare b q).thn fun _ h => (h.did fun D => fl_sync D spare).thn fun _ h => (h.did fun D => fl_rename D spare name).thn fun _ h => h.did fun _ => ⟨rfl, rfl⟩
/-! ### names stay few -/
section
variable {N : List Bs}
theorem Few.core {D D' : PD} (h : Few N D) (e1 : D'.quota = D.quota) (e2 : D'.files = D.files) (e3 : D'.sure = D.sure) (e4 : D'.pend = D.pend) : Few N D' :=
  ⟨by rw [e1]; exact h.q, by rw [e2]; exact h.nf, by rw [e2]; exact h.f, by rw [e3]; exact h.ns, by rw [e3]; exact h.s, by rw [e4]; exact h.p⟩
theorem Few.counted {D : PD} (h : Few N D) : Few N D.counted := h.core rfl rfl rfl rfl
theorem Few.did {D : PD} (h : Few N D) {r : Bool} {f : PD → Int × PD} (hf : Few N D.counted → Few N (f D.counted).2) : Few N (D.deed r f).2 := by
  unfold PD.deed
  split
  · exact h
  · split
    · exact h.core rfl rfl rfl rfl
    · split
      · exact hf h.counted
      · exact h.counted
theorem few_fresh {D : PD} (h : Few N D) {n : ByteArray} (hn : bs n ∈ N) (b : Bs) (p : Nat) : Few N (D.fresh n b p).2 := by
  unfold PD.fresh
  split
  · exact Few.turns1 (D := (D.tick).setF p ⟨b, 0, D.clock⟩) (h.core rfl rfl rfl rfl) _ fun _ _ => hn
  · exact h
theorem few_append {D : PD} (h : Few N D) {n : ByteArray} (hn : bs n ∈ N) (b : Bs) (p : Nat) : Few N (D.append n b p).2 := by
  unfold PD.append
  split
  · exact few_fresh h hn _ _
  · split
    · exact h.core rfl rfl rfl rfl
    · exact h
theorem few_cut {D : PD} (h : Few N D) (n : ByteArray) (m : Int) : Few N (D.cut n m).2 := by
  unfold PD.cut
  split
  · exact h
  · unfold PD.cutAt
    split
    · exact h
    · exact h.core rfl rfl rfl rfl
theorem few_rename {D : PD} (h : Few N D) (n : ByteArray) {t : ByteArray} (ht : bs t ∈ N) : Few N (D.rename n t).2 := by
  unfold PD.rename
  split
  · exact h
  · exact h.turns1 _ fun _ _ => ht
theorem few_remove {D : PD} (h : Few N D) (n : ByteArray) : Few N (D.remove n).2 := by
  unfold PD.remove
  split
  · exact h
  · exact h.turns1 _ fun _ e => by cases e
theorem few_sync {D : PD} (h : Few N D) (n : ByteArray) : Few N (D.sync n).2 := by
  unfold PD.sync
  split
  · exact h
  · exact h.core rfl rfl rfl rfl
theorem few_syncDir {D : PD} (h : Few N D) : Few N (D.syncDir).2 := ⟨h.q, h.nf, h.f, h.nf, h.f, fun _ hc => absurd hc (by simp [PD.syncDir])⟩
theorem few_then {r : Int × PD} {f : PD → Int × PD} (h : Few N r.2) (hf : ∀ D, Few N D → Few N (f D).2) : Few N (andThen r f).2 := by
  unfold andThen
  split
  · exact hf _ h
  · exact h
theorem few_syncs {D : PD} (h : Few N D) (name : ByteArray) : Few N (logSyncP D name).2 := few_then (h.did fun h => few_sync h name) fun _ h => h.did fun h => few_syncDir h
theorem few_rewrites {D : PD} (h : Few N D) {name spare : ByteArray} (hn : bs name ∈ N) (hs : bs spare ∈ N) (b : Bs) (q : Nat) : Few N (logRewriteP D name spare b q).2 :=
  few_then (h.did fun h => few_fresh h hs b q) fun _ h => few_then (h.did fun h => few_sync h spare) fun _ h => few_then (h.did fun h => few_rename h spare hn) fun _ h => h.did fun h => few_syncDir h
theorem few_spare {D : PD} (h : Few N D) (spare : ByteArray) : Few N (spareP D spare).2 := by
  unfold spareP
  split
  · exact h.did fun h => few_remove h spare
  · exact h
theorem few_fix {D : PD} (h : Few N D) {name : ByteArray} (hn : bs name ∈ N) (k : UInt8) (q : Nat) : Few N (fixP D name k q).2 := by
  unfold fixP
  split
  · exact h
  · split
    · exact h.did fun h => few_fresh h hn _ _
    · split
      · exact h.did fun h => few_cut h name _
      · exact h
theorem few_opens {D : PD} (h : Few N D) {name : ByteArray} (hn : bs name ∈ N) (spare : ByteArray) (k : UInt8) (q : Nat) : Few N (logOpenP D name spare k q).2 := by
  unfold logOpenP
  split
  · exact h
  · exact few_then (few_spare h spare) fun _ h => few_fix h hn k q
theorem few_restart {D : PD} (h : Few N D) (dir : Int) (tails : List Int) : Few N (D.restart dir tails) := h.turn (.restart D dir tails)
theorem few_arm {D : PD} (h : Few N D) (n : Int) : Few N { D with armed := n } := h.core rfl rfl rfl rfl
end
/-! ### a log on a disk that is up -/
structure LogU (N : List Bs) (name spare : ByteArray) (k : UInt8) (D : PD) (A : List Bs) (s : Nat) : Prop where
  st : LogS (bs name) (bs spare) k D A s
  up : Up D
  few : Few N D
section
variable {N : List Bs} {k : UInt8} {D : PD} {A : List Bs} {s : Nat} {name spare : ByteArray} (hN : N.length ≤ 10) (hn : isE name = false) (hs : isE spare = false) (hne : bs name ≠ bs spare) (rn : rightP name = true) (rs : rightP spare = true) (mn : bs name ∈ N) (ms : bs spare ∈ N)
theorem not_down {D D' : PD} {f : PD → Int × PD} {c : Int} (h : Up (f D).2) (e : f D = (c, D')) (hd : D'.down = true) : False := by
  rw [e] at h
  have := h.1
  rw [hd] at this
  cases this
include hN rn mn in
theorem LogU.append (h : LogU N name spare k D A s) (hS : Short D) (r : Bs) (hl : (fileP k A).length + (frameP r).length ≤ 65536) (q : Nat) :
    ∃ D', (D.deed (rightP name) fun D' => D'.append name (frameP r) q) = (0, D') ∧ LogU N name spare k D' (A ++ [r]) s := by
  have hu : Up (D.deed (rightP name) fun D' => D'.append name (frameP r) q).2 := h.up.did fun D => fl_append D _ _ _
  have hw : Few N (D.deed (rightP name) fun D' => D'.append name (frameP r) q).2 := h.few.did fun h => few_append h mn _ _
  rcases LogS.append rn h.st r q (h.few.counted.fits hN hS _ (by omega)) with ⟨D', e, h1⟩ | e
  · rw [e] at hu hw
    exact ⟨D', e, h1, hu, hw⟩
  · rw [e] at hu
    exact absurd hu.1 (by simp)
include rn in
theorem LogU.sync (h : LogU N name spare k D A s) : ∃ D', logSyncP D name = (0, D') ∧ LogU N name spare k D' A A.length := by
  have hu := h.up.syncs name
  have hw := few_syncs h.few name
  rcases LogS.sync rn h.st with ⟨D', e, h1⟩ | ⟨D', e, h1, _⟩
  · rw [e] at hu hw
    exact ⟨D', e, h1, hu, hw⟩
  · rw [e] at hu
    exact absurd hu.1 (by simp [h1])
include hN hn hs hne rn rs mn ms in
theorem LogU.rewrite (h : LogU N name spare k D A s) (hS : Short D) (O : List Bs) (hl : (fileP k O).length ≤ 65536) (q : Nat) (hq : ¬ D.has q) :
    ∃ D', logRewriteP D name spare (fileP k O) q = (0, D') ∧ LogU N name spare k D' O O.length := by
  have hu := h.up.rewrites name spare (fileP k O) q
  have hw := few_rewrites h.few mn ms (fileP k O) q
  rcases LogS.rewrite hn hs hne rn rs h.st O q hq (h.few.counted.fits hN hS _ (by omega)) with ⟨D', e, h1⟩ | ⟨D', e, h1, _⟩
  · rw [e] at hu hw
    exact ⟨D', e, h1, hu, hw⟩
  · rw [e] at hu
    exact absurd hu.1 (by simp [h1])
include hn hne rn mn in
theorem logU_new (Q : Int) (hQ : 1048576 ≤ Q) (q : Nat) : ∃ D', logOpenP (PD.new Q) name spare k q = (0, D') ∧ LogU N name spare k D' [] 0 ∧ openGot (PD.new Q) name spare k = [] := by
  obtain ⟨D', e, h1, h2, h3⟩ := open_new (k := k) (spare := spare) hn hne rn Q hQ q
  have hw := few_opens (Few.new (N := N) hQ) mn spare k q
  rw [e] at hw
  exact ⟨D', e, ⟨h1, h2, hw⟩, h3⟩
end
end Go.Proofs.YtbckbkcpfejllaaDoor
