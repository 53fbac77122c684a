/- Paths, plainly: which bytes may stand in a name, the parts of a name between slashes, the parts that count. No word on any program. -/
import Derived.Test.YtbckbkcpfejllaaDoorPt0
import Derived.Lib.DecodeN
import Derived.Lib.TrimUEq
import Derived.Lib.IndexLaws
import Derived.Lib.Join
import Derived.Shelf.GgClosure.StringsIndexFunc
namespace Go.Proofs.YtbckbkcpfejllaaDoor
open Go.RowKit

theorem plainB_eq (c : UInt8) : plainB c = decide ((97 ≤ c.toNat ∧ c.toNat ≤ 122) ∨ (65 ≤ c.toNat ∧ c.toNat ≤ 90) ∨ (48 ≤ c.toNat ∧ c.toNat ≤ 57) ∨ c.toNat = 46 ∨ c.toNat = 95 ∨ c.toNat = 45 ∨ c.toNat = 43 ∨ c.toNat = 47) := by
  have e : ∀ k : UInt8, (c == k) = decide (c.toNat = k.toNat) := fun k => by
    rw [Bool.eq_iff_iff]; simp [UInt8.toNat_inj]
  unfold plainB
  rw [Bool.eq_iff_iff]
  simp only [e, Bool.or_eq_true, Bool.and_eq_true, decide_eq_true_eq, UInt8.le_iff_toNat_le]
  simp only [show (97 : UInt8).toNat = 97 from rfl, show (122 : UInt8).toNat = 122 from rfl, show (65 : UInt8).toNat = 65 from rfl, show (90 : UInt8).toNat = 90 from rfl, show (48 : UInt8).toNat = 48 from rfl, show (57 : UInt8).toNat = 57 from rfl,
    show (46 : UInt8).toNat = 46 from rfl, show (95 : UInt8).toNat = 95 from rfl, show (45 : UInt8).toNat = 45 from rfl, show (43 : UInt8).toNat = 43 from rfl, show (47 : UInt8).toNat = 47 from rfl]
  omega
/-- May a rune be in a name? -/
def plainR (r : Nat) : Bool := decide ((97 ≤ r ∧ r ≤ 122) ∨ (65 ≤ r ∧ r ≤ 90) ∨ (48 ≤ r ∧ r ≤ 57) ∨ r = 46 ∨ r = 95 ∨ r = 45 ∨ r = 43 ∨ r = 47)
theorem plainR_byte (c : UInt8) : plainR c.toNat = plainB c := (plainB_eq c).symm
theorem plainR_big {r : Nat} (h : 128 ≤ r) : plainR r = false := by unfold plainR; simp; omega
theorem decodeN_big (n b0 b1 b2 b3 : Nat) (h : 128 ≤ b0) : 128 ≤ (Lib.decodeN n b0 b1 b2 b3).1 := by
  unfold Lib.decodeN
  repeat' split
  all_goals (simp only; omega)
theorem drop_get {s : ByteArray} {pos : Nat} (h : pos < s.size) : (bs s).drop pos = s.get! pos :: (bs s).drop (pos + 1) := by
  have hl : pos < (bs s).length := by simpa [bs] using h
  rw [List.drop_eq_getElem_cons hl]
  congr 1
  have h' : pos < s.data.size := h
  have e : s.get! pos = s.data[pos]! := rfl
  rw [e, getElem!_pos s.data pos h']
  simp [bs]
theorem idx_from (s : ByteArray) : ∀ (f pos : Nat), s.size ≤ pos + f → decide (0 ≤ Lib.idxFuncFrom (fun r => !plainR r) true s f pos) = !(((bs s).drop pos).all plainB)
  | 0, pos, h => by
    rw [List.drop_eq_nil_of_le (by show (bs s).length ≤ pos; have : (bs s).length = s.size := by simp [bs]
                                   omega)]
    rfl
  | f + 1, pos, h => by
    unfold Lib.idxFuncFrom
    by_cases hp : pos < s.size
    · rw [if_pos hp, drop_get hp, List.all_cons]
      by_cases hb : (s.get! pos).toNat < 128
      · have hd : Utf8.decode s pos = ((s.get! pos).toNat, 1) := by rw [Lib.decode_at, Lib.decodeN_ascii _ _ _ _ _ hb]
        rw [hd]
        simp only [plainR_byte]
        cases hpl : plainB (s.get! pos)
        · simp
        · simp only [Bool.not_true, Bool.false_eq_true, if_false, Bool.true_and]
          exact idx_from s f (pos + 1) (by omega)
      · have h1 : 128 ≤ (Utf8.decode s pos).1 := by rw [Lib.decode_at]; exact decodeN_big _ _ _ _ _ (by omega)
        rw [plainR_big h1, ← plainR_byte, plainR_big (by omega)]
        simp
    · rw [if_neg hp, List.drop_eq_nil_of_le (by have : (bs s).length = s.size := by simp [bs]
                                                omega)]
      rfl
theorem idx_plain (s : ByteArray) : decide (0 ≤ Lib.idxFunc (fun r => !plainR r) true s) = !((bs s).all plainB) := idx_from s s.size 0 (by omega)

theorem splitB_idx : ∀ l : Bs, (Lib.indexByte l 47 = -1 ∧ splitB l = [l]) ∨ ∃ i : Nat, Lib.indexByte l 47 = i ∧ i < l.length ∧ splitB l = l.take i :: splitB (l.drop (i + 1))
  | [] => Or.inl ⟨rfl, rfl⟩
  | c :: r => by
    have e1 : Lib.indexByte (c :: r) 47 = if c == 47 then 0 else if Lib.indexByte r 47 == -1 then -1 else Lib.indexByte r 47 + 1 := rfl
    have e2 : splitB (c :: r) = if c = 47 then [] :: splitB r else match splitB r with
      | [] => [[c]]
      | x :: l => (c :: x) :: l := rfl
    rw [e1, e2]
    by_cases hc : c = 47
    · subst hc
      exact Or.inr ⟨0, by simp, by simp, by simp⟩
    · rw [if_neg (by simpa using hc), if_neg hc]
      rcases splitB_idx r with ⟨h1, h2⟩ | ⟨i, h1, h2, h3⟩
      · exact Or.inl ⟨by rw [h1]; rfl, by rw [h2]⟩
      · refine Or.inr ⟨i + 1, ?_, by simp; omega, by rw [h3]; simp⟩
        rw [h1, if_neg (by simp <;> omega)]
        rfl
theorem splitB_ne (l : Bs) : splitB l ≠ [] := by
  rcases splitB_idx l with ⟨_, h⟩ | ⟨_, _, _, h⟩ <;> rw [h] <;> simp
theorem splitB_bd : ∀ l : Bs, (splitB l).length ≤ l.length + 1 ∧ ∀ x ∈ splitB l, x.length ≤ l.length
  | [] => ⟨Nat.le_refl _, fun x hx => by simp [splitB] at hx; subst hx; simp⟩
  | c :: r => by
    obtain ⟨h1, h2⟩ := splitB_bd r
    have e2 : splitB (c :: r) = if c = 47 then [] :: splitB r else match splitB r with
      | [] => [[c]]
      | x :: l => (c :: x) :: l := rfl
    rw [e2]
    by_cases hc : c = 47
    · rw [if_pos hc]
      refine ⟨by simp; omega, fun x hx => ?_⟩
      rcases List.mem_cons.1 hx with rfl | hx
      · simp
      · have := h2 x hx; simp; omega
    · rw [if_neg hc]
      cases hs : splitB r with
      | nil => exact absurd hs (splitB_ne r)
      | cons y t =>
        rw [hs] at h1 h2
        refine ⟨by simp at h1 ⊢; omega, fun x hx => ?_⟩
        rcases List.mem_cons.1 hx with rfl | hx
        · have := h2 y (by simp); simp; omega
        · have := h2 x (by simp [hx]); simp; omega

theorem foldB_app (a : List Bs) (p q : List Bs) : foldB a (p ++ q) = (foldB a p).bind fun b => foldB b q := by
  induction p generalizing a with
  | nil => rfl
  | cons x r ih =>
    simp only [List.cons_append, foldB]
    split
    · exact ih a
    · split
      · split
        · rfl
        · exact ih _
      · exact ih _
theorem foldB_bd {a b p : List Bs} (h : foldB a p = some b) : b.length ≤ a.length + p.length ∧ ∀ x ∈ b, x ∈ a ∨ x ∈ p := by
  induction p generalizing a with
  | nil => cases h; exact ⟨by simp, fun x hx => Or.inl hx⟩
  | cons x r ih =>
    unfold foldB at h
    split at h
    · obtain ⟨h1, h2⟩ := ih h
      exact ⟨by simp; omega, fun y hy => (h2 y hy).imp_right (List.mem_cons_of_mem _)⟩
    · split at h
      · split at h
        · cases h
        · obtain ⟨h1, h2⟩ := ih h
          refine ⟨by simp at h1 ⊢; omega, fun y hy => ?_⟩
          rcases h2 y hy with h3 | h3
          · exact Or.inl (List.dropLast_subset _ h3)
          · exact Or.inr (List.mem_cons_of_mem _ h3)
      · obtain ⟨h1, h2⟩ := ih h
        refine ⟨by simp at h1 ⊢; omega, fun y hy => ?_⟩
        rcases h2 y hy with h3 | h3
        · rcases List.mem_append.1 h3 with h4 | h4
          · exact Or.inl h4
          · rw [List.mem_singleton.1 h4]; exact Or.inr (by simp)
        · exact Or.inr (List.mem_cons_of_mem _ h3)

theorem joinB_eq : ∀ l : List Bs, joinB l = Lib.join l [47]
  | [] => rfl
  | [x] => (Lib.join_one x _).symm
  | x :: y :: r => by
    have ih := joinB_eq (y :: r)
    rw [Lib.join_cons] at ih
    rw [Lib.join_cons, joinB, ih]
    · simp [Lib.joinTail]
    · simp
theorem joinB_bd (k : Nat) : ∀ l : List Bs, (∀ x ∈ l, x.length ≤ k) → (joinB l).length ≤ (k + 1) * l.length
  | [], _ => by simp [joinB]
  | [x], h => by have := h x (by simp); simp [joinB]; omega
  | x :: y :: r, h => by
    have ih := joinB_bd k (y :: r) (fun z hz => h z (by simp [hz]))
    have hx := h x (by simp)
    rw [joinB]
    · simp only [List.length_append, List.length_cons] at ih ⊢
      have e1 : (k + 1) * (r.length + 1 + 1) = (k + 1) * (r.length + 1) + (k + 1) := by rw [Nat.mul_add (k + 1) (r.length + 1) 1, Nat.mul_one]
      rw [e1]
      omega
    · simp
end Go.Proofs.YtbckbkcpfejllaaDoor
