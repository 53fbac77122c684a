/- What a restart comes to, part by part. -/
import Derived.Test.YtbckbkcpfejllaaDoorDw15
namespace Go.Proofs.YtbckbkcpfejllaaDoor
open Go.RowKit Go.Maps Go.WideMaps

/-- From L in w to L' in w': the disk's blocks. -/
structure Via (w : World) (L : Lay) (w' : World) (L' : Lay) : Prop where
  keeps : Keeps (fun b => L.role b ≠ 0) w w'
  roles : ∀ b, b < w.heap.size → L.role b = 0 → L'.role b = 0
  same : L'.d = L.d
  r3 : ∀ p, L.role p = 3 → L'.role p = 3
theorem Step.via {w w' : World} {L L' : Lay} {D : PD} (h : Step w L w' L' D) : Via w L w' L' := ⟨h.keeps, h.roles, h.same, h.r3⟩
theorem Via.trans {w w' w'' : World} {L L' L'' : Lay} (h : Via w L w' L') (k : Via w' L' w'' L'') : Via w L w'' L'' :=
  ⟨h.keeps.trans k.keeps (fun b hb hr h0 => hr (h.roles b hb h0)), fun b hb h0 => k.roles b (Nat.lt_of_lt_of_le hb h.keeps.size) (h.roles b hb h0), k.same.trans h.same, fun p hp => k.r3 p (h.r3 p hp)⟩
theorem Via.below {w w' : World} (L : Lay) (h : Below w.heap.size w w') : Via w L w' L := ⟨(Keeps.of_below h).mono (fun _ _ h => h.elim), fun _ _ h => h, rfl, fun _ h => h⟩

/-- The directory is the sure one, which is turned on. -/
def Lay.swap (L : Lay) : Lay := { L with mf := L.ms, ms := L.mf, s6 := L.ms, mid := true, role := fun b => if b = L.ms then 4 else if b = L.mf then 5 else L.role b }
theorem mid_start {w w' : World} {L : Lay} {D : PD} (h : DiskAt w L D) (_ : L.mid = false) (hk : Keeps (fun b => b = L.d) w w')
    (hd : w'.heap[L.d]? = some (.cells #[.int .i64 D.quota, .int .i64 D.clock, .int .i64 D.deeds, .int .i64 D.armed, .bool D.down, .map (some L.ms), .map (some L.ms), L.pv] 68 (0, 0))) :
    DiskAt w' L.swap { D with files := D.sure, sure := D.files } ∧ Via w L w' L.swap := by
  have hne := h.ne
  have hrole : ∀ b, L.role b ≠ 4 → L.role b ≠ 5 → L.swap.role b = L.role b := fun b h4 h5 => by
    simp only [Lay.swap]
    rw [if_neg (fun e => by rw [e] at h5; exact h5 h.rs), if_neg (fun e => by rw [e] at h4; exact h4 h.rf)]
  have r3 : ∀ p, L.role p = 3 → L.swap.role p = 3 := fun p hp => (hrole p (by rw [hp]; decide) (by rw [hp]; decide)).trans hp
  have r3' : ∀ p, L.swap.role p = 3 → L.role p = 3 := fun p hp => by
    simp only [Lay.swap] at hp
    split at hp
    · cases hp
    · split at hp
      · cases hp
      · exact hp
  have hkp : ∀ b, b < w.heap.size → L.role b ≠ 1 → w'.heap[b]? = w.heap[b]? := fun b hb h1 => hk.block b hb (fun e => h1 (by rw [e]; exact h.rd))
  refine ⟨?_, ⟨hk.mono (fun b _ e => by rw [e, h.rd]; decide), fun b hb h0 => (hrole b (by rw [h0]; decide) (by rw [h0]; decide)).trans h0, rfl, r3⟩⟩
  refine { hd := hd, hf := h.hs.keep (hkp _ h.hs.lt (by rw [h.rs]; decide)), hs := h.hf.keep (hkp _ h.hf.lt (by rw [h.rf]; decide)), ne := Ne.symm hne, h6 := fun h => (by cases h), hp := h.hp.keep (fun b hb => hkp b (h.hp.lt b hb) (by rw [h.rp b hb]; decide)), rd := (hrole L.d (by rw [h.rd]; decide) (by rw [h.rd]; decide)).trans h.rd, rp := fun b hb => (hrole b (by rw [h.rp b hb]; decide) (by rw [h.rp b hb]; decide)).trans (h.rp b hb), rf := by simp [Lay.swap], rs := by simp [Lay.swap, hne], file := fun p hp => ?_, okf := fun x hx => r3 _ (h.oks x hx), oks := fun x hx => r3 _ (h.okf x hx), okp := fun c hc => ⟨fun p hp => r3 p ((h.okp c hc).1 p hp), (h.okp c hc).2⟩, okb := fun p hp => h.okb p (r3' p hp), top := fun b hb => ?_ }
  · obtain ⟨f1, f2, f3⟩ := h.file p (r3' p hp)
    exact ⟨(hkp p (lt_of_heap f1) (by rw [r3' p hp]; decide)).trans f1, f2.keep (fun x hx => hkp x (f2.lt x hx) (by rw [f3 x hx]; omega)), fun x hx => (hrole x (by rw [f3 x hx]; omega) (by rw [f3 x hx]; omega)).trans (f3 x hx)⟩
  · have hz := hk.size
    have h0 := h.top b (by omega)
    exact (hrole b (by rw [h0]; decide) (by rw [h0]; decide)).trans h0
/-- A change was done to the directory. -/
theorem does_files {w w' : World} {L : Lay} {D : PD} (h : DiskAt w L D) {c : Chg} (hc : c ∈ D.pend) (hk : Keeps (fun b => b = L.mf) w w') (hm : MapP Tryd.prog 9 w' L.mf (c.does D.files)) :
    DiskAt w' L { D with files := c.does D.files } := by
  have hkp : ∀ b, b < w.heap.size → L.role b ≠ 4 → w'.heap[b]? = w.heap[b]? := fun b hb h1 => hk.block b hb (fun e => h1 (by rw [e]; exact h.rf))
  have hins : ∀ (l : Dir) (y : Bs × Nat), L.role y.2 = 3 → (∀ x ∈ l, L.role x.2 = 3) → ∀ x ∈ Dir.ins y l, L.role x.2 = 3 := by
    intro l y hy
    induction l with
    | nil => intro _ x hx; simp [Dir.ins] at hx; rw [hx]; exact hy
    | cons z r ih =>
      intro hl x hx
      unfold Dir.ins at hx
      split at hx
      · rcases List.mem_cons.1 hx with rfl | hx
        · exact hy
        · exact hl x hx
      · rcases List.mem_cons.1 hx with rfl | hx
        · exact hl x (by simp)
        · exact ih (fun x hx => hl x (by simp [hx])) x hx
  have hdel : ∀ (l : Dir) (n : Bs), (∀ x ∈ l, L.role x.2 = 3) → ∀ x ∈ Dir.del l n, L.role x.2 = 3 := fun l n hl x hx => hl x (List.mem_filter.1 hx).1
  have hfl : ∀ x ∈ c.does D.files, L.role x.2 = 3 := by
    have h1 : ∀ x ∈ (if isE c.gone then D.files else Dir.del D.files (bs c.gone)), L.role x.2 = 3 := by
      split
      · exact h.okf
      · exact hdel _ _ h.okf
    unfold Chg.does
    dsimp only
    split
    · exact h1
    · cases hto : c.to with
      | none => exact h1
      | some p => exact hins _ _ ((h.okp c hc).1 p hto) (hdel _ _ h1)
  refine { hd := (hkp _ (lt_of_heap h.hd) (by rw [h.rd]; decide)).trans h.hd, hf := hm, hs := h.hs.keep (hkp _ h.hs.lt (by rw [h.rs]; decide)), ne := h.ne, h6 := h.h6, hp := h.hp.keep (fun b hb => hkp b (h.hp.lt b hb) (by rw [h.rp b hb]; decide)), rd := h.rd, rp := h.rp, rf := h.rf, rs := h.rs, file := fun p hp => ?_, okf := hfl, oks := h.oks, okp := h.okp, okb := h.okb, top := fun b hb => h.top b (by have := hk.size; omega) }
  obtain ⟨f1, f2, f3⟩ := h.file p hp
  exact ⟨(hkp p (lt_of_heap f1) (by rw [hp]; decide)).trans f1, f2.keep (fun x hx => hkp x (f2.lt x hx) (by rw [f3 x hx]; omega)), f3⟩
theorem does_len (c : Chg) (l : Dir) : (c.does l).length ≤ l.length + 1 := by
  have hins : ∀ (l : Dir) (y : Bs × Nat), (Dir.ins y l).length = l.length + 1 := by
    intro l y
    induction l with
    | nil => rfl
    | cons z r ih => unfold Dir.ins; split <;> simp [ih]
  have hdel : ∀ (l : Dir) (n : Bs), (Dir.del l n).length ≤ l.length := fun l n => List.length_filter_le _ _
  unfold Chg.does
  dsimp only
  have h1 : (if isE c.gone then l else Dir.del l (bs c.gone)).length ≤ l.length := by
    split
    · exact Nat.le_refl _
    · exact hdel _ _
  split
  · omega
  · cases c.to with
    | none => dsimp only; omega
    | some p => dsimp only [Dir.put]; rw [hins]; have := hdel (if isE c.gone then l else Dir.del l (bs c.gone)) (bs c.name); omega
theorem foldl_len (cs : List Chg) (l : Dir) : (cs.foldl (fun l c => c.does l) l).length ≤ l.length + cs.length := by
  induction cs generalizing l with
  | nil => simp
  | cons c r ih =>
    have h1 := ih (c.does l)
    have h2 := does_len c l
    simp only [List.foldl_cons, List.length_cons]
    omega
theorem DiskAt.unmid {w : World} {L : Lay} {D : PD} (h : DiskAt w L D) (h6 : L.s6 = L.ms) : DiskAt w { L with mid := false } D :=
  { hd := h.hd, hf := h.hf, hs := h.hs, ne := h.ne, h6 := fun _ => h6, hp := h.hp, rd := h.rd, rp := h.rp, rf := h.rf, rs := h.rs, file := h.file, okf := h.okf, oks := h.oks, okp := h.okp, okb := h.okb, top := h.top }
/-- A row of a known array, cell by cell. -/
theorem Row.cell {w : World} {e : TypeId} {k n : Nat} {a : Option Addr} {cap : Nat} {cs : List Value} (h : Row w e k (.slice a n cap) n cs) (hn : 0 < n) : ∃ g, a = some ⟨g, 0, none⟩ ∧ n ≤ cap ∧ cap ≤ maxLen ∧ ∀ j (hj : j < cs.length), w.cell? ⟨g, j, none⟩ = some cs[j] := by
  rcases h.2 with ⟨h1, h2⟩ | ⟨g, cap', cur, h1, hg, h2, h3, h4, h5⟩
  · omega
  · injection h1 with e1 e2 e3
    subst e3
    refine ⟨g, e1, h2, h4, fun j hj => ?_⟩
    have h0 := h.1
    rw [cell_at hg]
    have h6 := congrArg (fun l => l[j]?) h5
    simp only [List.getElem?_take] at h6
    rw [if_pos (by omega), List.getElem?_eq_getElem hj] at h6
    rw [← Array.getElem?_toList, h6]
theorem chg_cell : ∀ (l : List Chg) (j r : Nat) (hj : j < l.length), r < 3 → (l.flatMap Chg.cells)[j * 3 + r]? = (l[j].cells)[r]?
  | [], _, _, hj, _ => by cases hj
  | c :: l, 0, r, _, hr => by
    have hl : c.cells.length = 3 := rfl
    simp only [List.flatMap_cons, Nat.zero_mul, Nat.zero_add, List.getElem_cons_zero]
    rw [List.getElem?_append_left (by omega)]
  | c :: l, j + 1, r, hj, hr => by
    have hl : c.cells.length = 3 := rfl
    simp only [List.flatMap_cons, List.getElem_cons_succ]
    rw [List.getElem?_append_right (by omega), hl, show (j + 1) * 3 + r - 3 = j * 3 + r by omega]
    exact chg_cell l j r (by simpa using hj) hr
theorem flat_len : ∀ (l : List Chg), (l.flatMap Chg.cells).length = l.length * 3
  | [] => rfl
  | c :: l => by
    have hl : c.cells.length = 3 := rfl
    rw [List.flatMap_cons, List.length_append, hl, flat_len l, List.length_cons]; omega
theorem cuts_files (D : PD) (q : Nat) (t : Int) : (D.cuts q t).files = D.files ∧ (D.cuts q t).sure = D.sure ∧ (D.cuts q t).pend = D.pend ∧ (D.cuts q t).quota = D.quota ∧ (D.cuts q t).deeds = D.deeds ∧ (D.cuts q t).armed = D.armed ∧ (D.cuts q t).down = D.down ∧ D.clock ≤ (D.cuts q t).clock ∧ (D.cuts q t).clock ≤ D.clock + 1 := by
  unfold PD.cuts
  dsimp only
  split
  · refine ⟨rfl, rfl, rfl, rfl, rfl, rfl, rfl, ?_, ?_⟩
    · show D.clock ≤ D.clock + 1; omega
    · exact Int.le_refl _
  · refine ⟨rfl, rfl, rfl, rfl, rfl, rfl, rfl, Int.le_refl _, ?_⟩
    show D.clock ≤ D.clock + 1; omega
theorem cutsAll_snoc (tails : List Int) (x : Bs × Nat) : ∀ (l : List (Bs × Nat)) (i : Nat) (D : PD), PD.cutsAll tails i (l ++ [x]) D = (PD.cutsAll tails i l D).cuts x.2 (PD.tailOf tails (i + l.length))
  | [], i, D => rfl
  | y :: l, i, D => by
    show PD.cutsAll tails (i + 1) (l ++ [x]) (D.cuts y.2 (PD.tailOf tails i)) = (PD.cutsAll tails (i + 1) l (D.cuts y.2 (PD.tailOf tails i))).cuts x.2 (PD.tailOf tails (i + (l.length + 1)))
    rw [cutsAll_snoc tails x l (i + 1), show i + 1 + l.length = i + (l.length + 1) by omega]
theorem cutsAll_files (tails : List Int) : ∀ (l : List (Bs × Nat)) (i : Nat) (D : PD), (PD.cutsAll tails i l D).files = D.files ∧ (PD.cutsAll tails i l D).sure = D.sure ∧ (PD.cutsAll tails i l D).pend = D.pend ∧ (PD.cutsAll tails i l D).quota = D.quota ∧ (PD.cutsAll tails i l D).deeds = D.deeds ∧ (PD.cutsAll tails i l D).armed = D.armed ∧ (PD.cutsAll tails i l D).down = D.down ∧ D.clock ≤ (PD.cutsAll tails i l D).clock ∧ (PD.cutsAll tails i l D).clock ≤ D.clock + l.length
  | [], i, D => ⟨rfl, rfl, rfl, rfl, rfl, rfl, rfl, Int.le_refl _, by simp [PD.cutsAll]⟩
  | y :: l, i, D => by
    obtain ⟨a1, a2, a3, a4, a5, a6, a7, a8, a9⟩ := cuts_files D y.2 (PD.tailOf tails i)
    obtain ⟨b1, b2, b3, b4, b5, b6, b7, b8, b9⟩ := cutsAll_files tails l (i + 1) (D.cuts y.2 (PD.tailOf tails i))
    refine ⟨b1.trans a1, b2.trans a2, b3.trans a3, b4.trans a4, b5.trans a5, b6.trans a6, b7.trans a7, Int.le_trans a8 b8, ?_⟩
    show (PD.cutsAll tails (i + 1) l (D.cuts y.2 (PD.tailOf tails i))).clock ≤ _
    simp only [List.length_cons]
    omega
theorem find_of_mem : ∀ {l : Dir}, Apart l → ∀ {x : Bs × Nat}, x ∈ l → Dir.find l x.1 = some x.2
  | [], _, _, h => by cases h
  | y :: r, ha, x, h => by
    obtain ⟨h1, h2⟩ := List.pairwise_cons.1 ha
    unfold Dir.find
    rw [List.find?_cons]
    rcases List.mem_cons.1 h with rfl | h
    · simp
    · have hne : (y.1 == x.1) = false := by simpa using h1 x h
      rw [hne]
      exact find_of_mem h2 h
set_option maxRecDepth 100000 in
theorem MapP.small {w : World} {b : Nat} {l : Dir} (h : MapP Tryd.prog 9 w b l) : ∀ x ∈ l, x.1.length ≤ maxLen := by
  obtain ⟨es, clock, _, F, _, hD⟩ := h
  have e := DataW.map.inj hD
  intro x hx
  have hm : Dir.ent x ∈ List.map Dir.ent l := List.mem_map.2 ⟨x, hx, rfl⟩
  rw [e] at hm
  obtain ⟨z, hz, hzx⟩ := List.mem_map.1 (mem_sorted.1 hm)
  obtain ⟨y, hy⟩ := F.reads z hz
  have hk := WideElems.rd_key hy
  rw [WideElems.rg_of hy] at hzx
  rw [hzx] at hk
  obtain ⟨x', _, h2, h3⟩ := Maps.keyOf_str Tryd.underlying9 hk
  have : x' = x.1 := by injection h2 with h2; exact h2.symm
  rw [← this]
  exact h3
theorem cuts_sure (D : PD) (s : Dir) (q : Nat) (tl : Int) : ({ D with sure := s } : PD).cuts q tl = { D.cuts q tl with sure := s } := by
  unfold PD.cuts
  dsimp only
  split <;> rfl
theorem cutsAll_sure (tails : List Int) (s : Dir) : ∀ (l : List (Bs × Nat)) (i : Nat) (D : PD), PD.cutsAll tails i l { D with sure := s } = { PD.cutsAll tails i l D with sure := s }
  | [], i, D => rfl
  | y :: l, i, D => by
    show PD.cutsAll tails (i + 1) l (({ D with sure := s } : PD).cuts y.2 (PD.tailOf tails i)) = { PD.cutsAll tails (i + 1) l (D.cuts y.2 (PD.tailOf tails i)) with sure := s }
    rw [cuts_sure, cutsAll_sure]
end Go.Proofs.YtbckbkcpfejllaaDoor
