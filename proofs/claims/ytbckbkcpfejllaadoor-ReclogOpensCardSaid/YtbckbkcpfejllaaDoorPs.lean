/- What every turn of a disk keeps: a file that was synced, and the directory behind it, is sure (P4.3); no two contents ever have one time (P4.3). -/
import Derived.Test.YtbckbkcpfejllaaDoorPl
namespace Go.Proofs.YtbckbkcpfejllaaDoor
open Go.RowKit Go.Maps Go.WideMaps

/-! ### a directory, name by name -/
theorem mem_del {l : Dir} {n : Bs} {x : Bs × Nat} : x ∈ Dir.del l n ↔ x ∈ l ∧ x.1 ≠ n := by
  unfold Dir.del
  rw [List.mem_filter]
  simp
theorem mem_ins {x y : Bs × Nat} : ∀ {l : Dir}, x ∈ Dir.ins y l ↔ x = y ∨ x ∈ l
  | [] => by simp [Dir.ins]
  | z :: r => by
    unfold Dir.ins
    split
    · simp
    · rw [List.mem_cons, mem_ins (l := r), List.mem_cons]
      constructor
      · rintro (h | h | h) <;> simp [h]
      · rintro (h | h | h) <;> simp [h]
theorem mem_put {l : Dir} {n : Bs} {p : Nat} {x : Bs × Nat} : x ∈ Dir.put l n p ↔ x = (n, p) ∨ (x ∈ l ∧ x.1 ≠ n) := by
  unfold Dir.put
  rw [mem_ins, mem_del]
theorem find_nil (n : Bs) : Dir.find [] n = none := rfl
theorem find_cons (x : Bs × Nat) (l : Dir) (n : Bs) : Dir.find (x :: l) n = if x.1 = n then some x.2 else Dir.find l n := by
  unfold Dir.find
  rw [List.find?_cons]
  by_cases h : x.1 = n
  · have e : (x.1 == n) = true := by simpa using h
    rw [if_pos h]; simp only [e]; rfl
  · have e : (x.1 == n) = false := by simpa using h
    rw [if_neg h]; simp only [e]
theorem find_del (n m : Bs) : ∀ l : Dir, Dir.find (Dir.del l n) m = if m = n then none else Dir.find l m
  | [] => by
    show Dir.find [] m = _
    rw [find_nil]
    split <;> rfl
  | x :: r => by
    have ih := find_del n m r
    unfold Dir.del at ih ⊢
    rw [List.filter_cons]
    by_cases hx : x.1 = n
    · rw [if_neg (by simp [hx]), ih, find_cons]
      by_cases hm : m = n
      · rw [if_pos hm, if_pos hm]
      · rw [if_neg hm, if_neg hm, if_neg (by rw [hx]; exact fun e => hm e.symm)]
    · rw [if_pos (by simp [hx]), find_cons, find_cons, ih]
      by_cases hm : m = n
      · rw [if_pos hm, if_pos hm, if_neg (by rw [hm]; exact hx)]
      · rw [if_neg hm, if_neg hm]
theorem find_ins (x : Bs × Nat) (m : Bs) : ∀ l : Dir, (∀ y ∈ l, y.1 ≠ x.1) → Dir.find (Dir.ins x l) m = if x.1 = m then some x.2 else Dir.find l m
  | [], _ => by rw [Dir.ins, find_cons]
  | y :: r, h => by
    unfold Dir.ins
    split
    · rw [find_cons]
    · rw [find_cons, find_ins x m r (fun z hz => h z (by simp [hz])), find_cons]
      by_cases hy : y.1 = m
      · rw [if_pos hy, if_neg (by rw [← hy]; exact fun e => h y (by simp) e.symm), if_pos hy]
      · rw [if_neg hy, if_neg hy]
theorem find_put (l : Dir) (n : Bs) (p : Nat) (m : Bs) : Dir.find (Dir.put l n p) m = if m = n then some p else Dir.find l m := by
  unfold Dir.put
  rw [find_ins _ _ _ (fun y hy => (mem_del.1 hy).2), find_del]
  by_cases h : m = n
  · rw [if_pos h.symm, if_pos h]
  · rw [if_neg (fun e => h e.symm), if_neg h, if_neg h]
theorem isE_iff (s : ByteArray) : isE s = true ↔ bs s = [] := by
  unfold isE
  rw [Go.ByteArray.toList_eq]
  simp [bs]
theorem find_does {c : Chg} {o : Bs} (h1 : bs c.name ≠ o) (h2 : bs c.gone ≠ o) (l : Dir) : Dir.find (c.does l) o = Dir.find l o := by
  have h3 : Dir.find (if isE c.gone then l else Dir.del l (bs c.gone)) o = Dir.find l o := by
    split
    · rfl
    · rw [find_del, if_neg (fun e => h2 e.symm)]
  unfold Chg.does
  dsimp only
  split
  · exact h3
  · cases c.to with
    | none => exact h3
    | some p => dsimp only; rw [find_put, if_neg (fun e => h1 e.symm)]; exact h3
theorem mem_does {c : Chg} {l : Dir} {x : Bs × Nat} (h : x ∈ c.does l) : x ∈ l ∨ (c.to = some x.2 ∧ x.1 = bs c.name) := by
  have h3 : ∀ y, y ∈ (if isE c.gone then l else Dir.del l (bs c.gone)) → y ∈ l := fun y hy => by
    split at hy
    · exact hy
    · exact (mem_del.1 hy).1
  unfold Chg.does at h
  dsimp only at h
  split at h
  · exact Or.inl (h3 x h)
  · cases hc : c.to with
    | none => rw [hc] at h; exact Or.inl (h3 x h)
    | some p =>
      rw [hc] at h
      dsimp only at h
      rcases mem_put.1 h with rfl | ⟨h4, _⟩
      · exact Or.inr ⟨rfl, rfl⟩
      · exact Or.inl (h3 x h4)
theorem mem_back {D : PD} {dir : Int} {x : Bs × Nat} (h : x ∈ D.back dir) : x ∈ D.sure ∨ ∃ c ∈ D.pend, c.to = some x.2 ∧ x.1 = bs c.name := by
  have key : ∀ (cs : List Chg) (l : Dir), x ∈ cs.foldl (fun l c => c.does l) l → x ∈ l ∨ ∃ c ∈ cs, c.to = some x.2 ∧ x.1 = bs c.name := by
    intro cs
    induction cs with
    | nil => exact fun l h => Or.inl h
    | cons c r ih =>
      intro l h
      rcases ih _ h with h1 | ⟨c', h1, h2⟩
      · rcases mem_does h1 with h3 | h3
        · exact Or.inl h3
        · exact Or.inr ⟨c, by simp, h3⟩
      · exact Or.inr ⟨c', by simp [h1], h2⟩
  rcases key _ _ h with h1 | ⟨c, h1, h2⟩
  · exact Or.inl h1
  · exact Or.inr ⟨c, List.mem_of_mem_take h1, h2⟩
theorem find_back {D : PD} {o : Bs} (h : ∀ c ∈ D.pend, bs c.name ≠ o ∧ bs c.gone ≠ o) (dir : Int) : Dir.find (D.back dir) o = Dir.find D.sure o := by
  have key : ∀ (cs : List Chg) (l : Dir), (∀ c ∈ cs, bs c.name ≠ o ∧ bs c.gone ≠ o) → Dir.find (cs.foldl (fun l c => c.does l) l) o = Dir.find l o := by
    intro cs
    induction cs with
    | nil => exact fun _ _ => rfl
    | cons c r ih => exact fun l h => (ih _ (fun c' hc' => h c' (by simp [hc']))).trans (find_does (h c (by simp)).1 (h c (by simp)).2 l)
  exact key _ _ (fun c hc => h c (List.mem_of_mem_take hc))
theorem restart_files (D : PD) (dir : Int) (tails : List Int) : (D.restart dir tails).files = D.back dir ∧ (D.restart dir tails).sure = D.back dir ∧ (D.restart dir tails).pend = [] ∧ (D.restart dir tails).fs = (PD.cutsAll tails 0 (D.back dir) { D with files := D.back dir }).fs ∧
    (D.restart dir tails).clock = (PD.cutsAll tails 0 (D.back dir) { D with files := D.back dir }).clock :=
  ⟨(cutsAll_files tails (D.back dir) 0 { D with files := D.back dir }).1, (cutsAll_files tails (D.back dir) 0 { D with files := D.back dir }).1, rfl, rfl, rfl⟩

/-! ### what was synced is sure -/
structure SureI (o : Bs) (p : Nat) (f : PF) (D : PD) : Prop where
  ff : Dir.find D.files o = some p
  fsu : Dir.find D.sure o = some p
  uf : ∀ x ∈ D.files, x.2 = p → x.1 = o
  us : ∀ x ∈ D.sure, x.2 = p → x.1 = o
  up : ∀ c ∈ D.pend, c.to ≠ some p ∧ bs c.name ≠ o ∧ bs c.gone ≠ o
  fs : D.fs p = f
  all : f.sure = f.b.length
theorem cuts_sure_fs {p : Nat} {f : PF} {D : PD} (h : D.fs p = f) (ha : f.sure = f.b.length) (q : Nat) (t : Int) : (D.cuts q t).fs p = f := by
  unfold PD.cuts
  by_cases hq : p = q
  · subst hq
    rw [h]
    dsimp only
    rw [if_neg (by omega)]
    show upd D.fs p _ p = f
    rw [upd_same, ← ha]
  · dsimp only
    split
    · show upd D.fs q _ p = f
      rw [upd_other _ hq, h]
    · show upd D.fs q _ p = f
      rw [upd_other _ hq, h]
theorem cutsAll_sure_fs {p : Nat} {f : PF} (ha : f.sure = f.b.length) (tails : List Int) : ∀ (l : List (Bs × Nat)) (i : Nat) (D : PD), D.fs p = f → (PD.cutsAll tails i l D).fs p = f
  | [], _, _, h => h
  | y :: l, i, _, h => cutsAll_sure_fs ha tails l (i + 1) _ (cuts_sure_fs h ha y.2 _)
theorem SureI.turn {o : Bs} (ho : o ≠ []) {p : Nat} {f : PF} {D D' : PD} (h : SureI o p f D) (t : Turn (fun n => n ≠ o) D D') : SureI o p f D' := by
  obtain ⟨ff, fsu, uf, us, up, fs, all⟩ := h
  have hnotp : ∀ {n : Bs} {q : Nat}, n ≠ o → Dir.find D.files n = some q → q ≠ p := fun hn hq e => hn (uf _ (find_mem hq) e)
  have hE : bs ByteArray.empty ≠ o := fun e => ho (by rw [← e]; rfl)
  have hturns : ∀ c : Chg, c.to ≠ some p → bs c.name ≠ o → bs c.gone ≠ o → SureI o p f (D.turns c) := fun c h1 h2 h3 =>
    ⟨(find_does h2 h3 _).trans ff, fsu, fun x hx he => by
      rcases mem_does hx with h4 | ⟨h4, _⟩
      · exact uf x h4 he
      · exact absurd (he ▸ h4) h1, us, fun c' hc' => by
      rcases List.mem_append.1 hc' with h4 | h4
      · exact up c' h4
      · rw [List.mem_singleton.1 h4]; exact ⟨h1, h2, h3⟩, fs, all⟩
  cases t with
  | count => exact ⟨ff, fsu, uf, us, up, fs, all⟩
  | down => exact ⟨ff, fsu, uf, us, up, fs, all⟩
  | arm n _ _ => exact ⟨ff, fsu, uf, us, up, fs, all⟩
  | fresh name b q hn hq _ =>
    have hqp : q ≠ p := fun e => hq (e ▸ Or.inl ⟨_, find_mem ff, rfl⟩)
    have := hturns ⟨name, some q, ByteArray.empty⟩ (fun e => hqp (Option.some.inj e)) hn hE
    exact ⟨this.ff, fsu, this.uf, us, this.up, by show upd D.fs q _ p = f; rw [upd_other _ (Ne.symm hqp), fs], all⟩
  | put n q b s hn hq =>
    have hqp := hnotp hn hq
    exact ⟨ff, fsu, uf, us, up, by show upd D.fs q _ p = f; rw [upd_other _ (Ne.symm hqp), fs], all⟩
  | rename name to q hn ht hq => exact hturns ⟨to, some q, name⟩ (fun e => hnotp hn hq (Option.some.inj e)) ht hn
  | remove name hn => exact hturns ⟨ByteArray.empty, none, name⟩ (fun e => by cases e) hE hn
  | sync n q hn hq =>
    have hqp := hnotp hn hq
    exact ⟨ff, fsu, uf, us, up, by show upd D.fs q _ p = f; rw [upd_other _ (Ne.symm hqp), fs], all⟩
  | syncDir => exact ⟨ff, ff, uf, uf, fun c hc => (by cases hc), fs, all⟩
  | restart dir tails =>
    obtain ⟨e1, e2, e3, e4, _⟩ := restart_files D dir tails
    have hb : ∀ x ∈ D.back dir, x.2 = p → x.1 = o := fun x hx he => by
      rcases mem_back hx with h1 | ⟨c, hc, h1, _⟩
      · exact us x h1 he
      · exact absurd (he ▸ h1) (up c hc).1
    have hf := (find_back (fun c hc => (up c hc).2) dir).trans fsu
    exact ⟨by rw [e1]; exact hf, by rw [e2]; exact hf, by rw [e1]; exact hb, by rw [e2]; exact hb, by rw [e3]; exact fun c hc => (by cases hc), by rw [e4]; exact cutsAll_sure_fs all tails _ _ _ fs, all⟩

/-! ### no two contents ever have one time -/
/-- What content each time had. -/
structure TimesI (H : Int → Bs) (D : PD) : Prop where
  c1 : 1 ≤ D.clock
  at_ : ∀ p, D.has p → H (D.fs p).time = (D.fs p).b ∧ 1 ≤ (D.fs p).time ∧ (D.fs p).time < D.clock
/-- On from H, D: the times that there were have what they had. -/
def TimesOn (H : Int → Bs) (D D' : PD) : Prop := ∃ H', TimesI H' D' ∧ D.clock ≤ D'.clock ∧ ∀ t, t < D.clock → H' t = H t
theorem TimesOn.trans {H : Int → Bs} {D D' D'' : PD} (h : TimesOn H D D') (k : ∀ H', TimesI H' D' → TimesOn H' D' D'') : TimesOn H D D'' := by
  obtain ⟨H', h1, h2, h3⟩ := h
  obtain ⟨H'', k1, k2, k3⟩ := k H' h1
  exact ⟨H'', k1, by omega, fun t ht => (k3 t (by omega)).trans (h3 t ht)⟩
theorem times_less {H : Int → Bs} {D D' : PD} (h : TimesI H D) (hc : D'.clock = D.clock) (hf : ∀ p, D'.has p → (D'.fs p).b = (D.fs p).b ∧ (D'.fs p).time = (D.fs p).time) (hh : ∀ p, D'.has p → D.has p) : TimesOn H D D' :=
  ⟨H, ⟨by rw [hc]; exact h.c1, fun p hp => by rw [(hf p hp).1, (hf p hp).2, hc]; exact h.at_ p (hh p hp)⟩, by omega, fun _ _ => rfl⟩
theorem times_put {H : Int → Bs} {D D' : PD} (h : TimesI H D) (hc : D'.clock = D.clock + 1) {q : Nat} {b : Bs} {s : Nat} (hf : D'.fs = upd D.fs q ⟨b, s, D.clock⟩) (hh : ∀ p, D'.has p → D.has p ∨ p = q) : TimesOn H D D' := by
  have h1 := h.c1
  refine ⟨fun t => if t = D.clock then b else H t, ⟨by omega, fun p hp => ?_⟩, by omega, fun t ht => by dsimp only; rw [if_neg (by omega)]⟩
  by_cases hpq : p = q
  · subst hpq
    rw [hf, upd_same]
    dsimp only
    rw [if_pos rfl]
    exact ⟨rfl, h1, by omega⟩
  · rw [hf, upd_other _ hpq]
    obtain ⟨a1, a2, a3⟩ := h.at_ p ((hh p hp).resolve_right hpq)
    rw [if_neg (by omega)]
    exact ⟨a1, a2, by omega⟩
theorem has_turns {D : PD} {c : Chg} {p : Nat} (h : (D.turns c).has p) : D.has p ∨ c.to = some p := by
  rcases h with ⟨x, hx, rfl⟩ | ⟨x, hx, rfl⟩ | ⟨c', hc', he⟩
  · rcases mem_does hx with h1 | ⟨h1, _⟩
    · exact Or.inl (Or.inl ⟨x, h1, rfl⟩)
    · exact Or.inr h1
  · exact Or.inl (Or.inr (Or.inl ⟨x, hx, rfl⟩))
  · rcases List.mem_append.1 hc' with h1 | h1
    · exact Or.inl (Or.inr (Or.inr ⟨c', h1, he⟩))
    · rw [List.mem_singleton.1 h1] at he; exact Or.inr he
theorem has_cuts {D : PD} {q : Nat} {t : Int} {p : Nat} (h : (D.cuts q t).has p) : D.has p := by
  obtain ⟨e1, e2, e3, _⟩ := cuts_files D q t
  unfold PD.has at h ⊢
  rwa [e1, e2, e3] at h
theorem times_cuts {H : Int → Bs} {D : PD} (h : TimesI H D) (q : Nat) (hq : D.has q) (t : Int) : TimesOn H D (D.cuts q t) := by
  have hh : ∀ p, (D.cuts q t).has p → D.has p := fun p hp => has_cuts hp
  unfold PD.cuts at hh ⊢
  dsimp only at hh ⊢
  split at hh
  · rename_i hlt
    rw [if_pos hlt]
    exact times_put h rfl rfl (fun p hp => Or.inl (hh p hp))
  · rename_i hlt
    rw [if_neg hlt]
    refine times_less h rfl (fun p _ => ?_) hh
    by_cases hpq : p = q
    · subst hpq
      exact ⟨by show (upd D.fs p _ p).b = _; rw [upd_same], by show (upd D.fs p _ p).time = _; rw [upd_same]⟩
    · exact ⟨by show (upd D.fs q _ p).b = _; rw [upd_other _ hpq], by show (upd D.fs q _ p).time = _; rw [upd_other _ hpq]⟩
theorem times_cutsAll (tails : List Int) : ∀ (l : List (Bs × Nat)) (i : Nat) (D : PD) (H : Int → Bs), TimesI H D → (∀ x ∈ l, D.has x.2) → TimesOn H D (PD.cutsAll tails i l D)
  | [], _, D, H, h, _ => ⟨H, h, Int.le_refl _, fun _ _ => rfl⟩
  | y :: l, i, D, H, h, hl => by
    refine (times_cuts h y.2 (hl y (by simp)) (PD.tailOf tails i)).trans (fun H' h' => times_cutsAll tails l (i + 1) _ H' h' (fun x hx => ?_))
    have := hl x (by simp [hx])
    obtain ⟨e1, e2, e3, _⟩ := cuts_files D y.2 (PD.tailOf tails i)
    unfold PD.has at this ⊢
    rwa [e1, e2, e3]
theorem times_turn {N : Bs → Prop} {H : Int → Bs} {D D' : PD} (h : TimesI H D) (t : Turn N D D') : TimesOn H D D' := by
  have hfind : ∀ {n : Bs} {q : Nat}, Dir.find D.files n = some q → D.has q := fun hq => Or.inl ⟨_, find_mem hq, rfl⟩
  cases t with
  | count => exact times_less h rfl (fun p _ => ⟨rfl, rfl⟩) (fun p hp => hp)
  | down => exact times_less h rfl (fun p _ => ⟨rfl, rfl⟩) (fun p hp => hp)
  | arm n _ _ => exact times_less h rfl (fun p _ => ⟨rfl, rfl⟩) (fun p hp => hp)
  | fresh name b q hn hq _ =>
    refine times_put h rfl rfl (fun p hp => ?_)
    rcases has_turns hp with h1 | h1
    · exact Or.inl h1
    · exact Or.inr (Option.some.inj h1).symm
  | put n q b s hn hq => exact times_put h rfl rfl (fun p hp => Or.inl hp)
  | rename name to q hn ht hq =>
    refine times_less h rfl (fun p _ => ⟨rfl, rfl⟩) (fun p hp => ?_)
    rcases has_turns hp with h1 | h1
    · exact h1
    · exact (Option.some.inj h1) ▸ hfind hq
  | remove name hn =>
    refine times_less h rfl (fun p _ => ⟨rfl, rfl⟩) (fun p hp => ?_)
    rcases has_turns hp with h1 | h1
    · exact h1
    · cases h1
  | sync n q hn hq =>
    refine times_less h rfl (fun p _ => ?_) (fun p hp => hp)
    by_cases hpq : p = q
    · subst hpq
      exact ⟨by show (upd D.fs p _ p).b = _; rw [upd_same], by show (upd D.fs p _ p).time = _; rw [upd_same]⟩
    · exact ⟨by show (upd D.fs q _ p).b = _; rw [upd_other _ hpq], by show (upd D.fs q _ p).time = _; rw [upd_other _ hpq]⟩
  | syncDir =>
    refine times_less h rfl (fun p _ => ⟨rfl, rfl⟩) (fun p hp => ?_)
    rcases hp with h1 | h1 | ⟨c, hc, _⟩
    · exact Or.inl h1
    · exact Or.inl h1
    · cases hc
  | restart dir tails =>
    have hb : ∀ x ∈ D.back dir, D.has x.2 := fun x hx => by
      rcases mem_back hx with h1 | ⟨c, hc, h1, _⟩
      · exact Or.inr (Or.inl ⟨x, h1, rfl⟩)
      · exact Or.inr (Or.inr ⟨c, hc, h1⟩)
    have h1 : TimesOn H D { D with files := D.back dir } := times_less h rfl (fun p _ => ⟨rfl, rfl⟩) (fun p hp => by
      rcases hp with ⟨x, hx, rfl⟩ | h1
      · exact hb x hx
      · exact Or.inr h1)
    refine (h1.trans fun H' h' => times_cutsAll tails (D.back dir) 0 _ H' h' (fun x hx => Or.inl ⟨x, hx, rfl⟩)).trans fun H' h' => ?_
    obtain ⟨e1, e2, e3, e4, e5⟩ := restart_files D dir tails
    refine times_less h' e5 (fun p _ => by rw [e4]; exact ⟨rfl, rfl⟩) (fun p hp => ?_)
    have f1 := (cutsAll_files tails (D.back dir) 0 { D with files := D.back dir }).1
    unfold PD.has at hp
    rw [e1, e2, e3] at hp
    rcases hp with hp | hp | ⟨c, hc, _⟩
    · exact Or.inl (by rw [f1]; exact hp)
    · exact Or.inl (by rw [f1]; exact hp)
    · cases hc
theorem times_turns {N : Bs → Prop} {k : Nat} {D D' : PD} (t : Turns N k D D') : ∀ {H : Int → Bs}, TimesI H D → TimesOn H D D' := by
  induction t with
  | nil k D => exact fun {H} h => ⟨H, h, Int.le_refl _, fun _ _ => rfl⟩
  | cons t _ ih => exact fun {H} h => (times_turn h t).trans fun H' h' => ih h'
theorem TimesI.new (q : Int) : TimesI (fun _ => []) (PD.new q) :=
  ⟨Int.le_refl _, fun p hp => by rcases hp with ⟨_, h, _⟩ | ⟨_, h, _⟩ | ⟨_, h, _⟩ <;> cases h⟩
end Go.Proofs.YtbckbkcpfejllaaDoor
