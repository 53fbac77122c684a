/- slices.Sorted over maps.Keys of a map of strings to pointers: the names, rising; maps.Clone. -/
import Derived.Test.YtbckbkcpfejllaaDoorLay
import Derived.Test.YtbckbkcpfejllaaDoorDw13
namespace Go.Proofs.YtbckbkcpfejllaaDoor
open Go.RowKit Go.Maps Go.WideMaps Go.Sort Go.Shelf

theorem sortsIn (m : Nat) : AnyZ.SortsIn Tryd.prog Tryd.sorted57_ren Fence.wide m :=
  ⟨fun blk off cap ss W hH hblk hsz => callsIn_wide.2 (AnyM.slices_Sort_string Tryd.sort78 blk off cap ss W hH hblk hsz),
   fun p cap W => callsIn_wide.2 (AnyM.slices_Sort_string_none Tryd.sort78 p cap W)⟩
theorem keys_at (b : Nat) (w : World) : Calls Tryd.prog 58 #[.map (some b)] w fun e w' => e = .returned (.func (.func 79) #[] #[.pointer (some ⟨w.heap.size, 0, none⟩)]) ∧ w' = w.alloc (.cells #[.map (some b)] 65) :=
  (callsIn_wide (n := 5)).1 (AnyZ.keys_in Tryd.keys58 Fence.wide 5 trivial rfl (some b) w)

set_option maxHeartbeats 1000000 in
theorem sorted_raw {H : Type} (b nn : Nat) (D0 : DataW H) (R : Value → Option (DataW H × List MemPlace)) (w : World) (hown : w.ownsMap Tryd.prog 9 R b nn D0) (hmax : Maps.size D0 ≤ maxLen) (hbytes : Maps.size D0 * 16 ≤ 140737488355328) :
    CallsIn Fence.wide 5 Tryd.prog 57 #[.func (.func 79) #[] #[.pointer (some ⟨w.heap.size, 0, none⟩)]] (w.alloc (.cells #[.map (some b)] 65)) fun e w' => ∃ (v : Value) (ss : List (List UInt8)), e = .returned v ∧ ss.Perm (strKeys D0) ∧
      w'.ownsRow (w.alloc (.cells #[.map (some b)] 65)).heap.size 9 1 v ss.length ((ss.mergeSort (fun x y => decide (x ≤ y))).map encStr) ∧ (v = .slice none 0 0 ↔ ss = []) ∧ Below (w.alloc (.cells #[.map (some b)] 65)).heap.size (w.alloc (.cells #[.map (some b)] 65)) w' := by
  have hbl := hown.lt
  have hseq : SeqGives Fence.wide 2 Tryd.prog 79 #[.pointer (some ⟨w.heap.size, 0, none⟩)] encStr (fun ss => ss.Perm (strKeys D0)) (Maps.size D0) (w.alloc (.cells #[.map (some b)] 65)) :=
    AnyZ.keys_gives (ρ := Tryd.keys58_ren) { Tryd.keys58 with } Fence.wide _ trivial rfl (by omega) w.heap.size b nn D0 _ (by simp) (by simp) (by
      obtain ⟨es, clock, hb, Ft, hs, hD⟩ := hown
      exact ⟨es, clock, (Below.heap_alloc _ _ b hbl).trans hb, Ft, hs, hD⟩)
  exact AnyZ.sorted_in Tryd.sorted57 Fence.wide 5 trivial trivial trivial trivial rfl (by omega) (sortsIn _) (enters_of Tryd.func78 (by kernel_rfl) rfl) 79 #[.pointer (some ⟨w.heap.size, 0, none⟩)] trivial (enters_of Tryd.func79 (by kernel_rfl) rfl) _ _ hmax hbytes _ hseq

/-! ### a directory rises -/
theorem lt_of_bytesBefore : ∀ {a b : Bs}, bytesBefore a b = true → a < b
  | [], [], h => by cases h
  | [], _ :: _, _ => List.nil_lt_cons _ _
  | _ :: _, [], h => by cases h
  | a :: r, b :: s, h => by
    simp only [bytesBefore, Bool.or_eq_true, Bool.and_eq_true, decide_eq_true_eq, beq_iff_eq] at h
    rw [List.cons_lt_cons_iff]
    rcases h with h | ⟨rfl, h⟩
    · exact Or.inl h
    · exact Or.inr ⟨rfl, lt_of_bytesBefore h⟩
def Rising (l : Dir) : Prop := l.Pairwise (fun x y => bytesBefore x.1 y.1 = true)
theorem rising_of {l : Dir} {L : List (Lit × DataW Unit)} (e : List.map Dir.ent l = L.foldr DataW.insert []) (hp : L.Pairwise (fun p q => p.1 ≠ q.1)) : Rising l := by
  have hk : ChangeMaps.StrKeys L := by
    intro p hp'
    have hm : p ∈ List.map Dir.ent l := by rw [e]; exact mem_sorted.2 hp'
    obtain ⟨x, _, rfl⟩ := List.mem_map.1 hm
    exact ⟨x.1, rfl⟩
  have hs := ChangeMaps.sorted_sorted _ hk hp
  rw [← e, List.pairwise_map] at hs
  exact hs.imp fun {x y} h => h
theorem MapP.rising {w : World} {b : Nat} {l : Dir} (h : MapP Tryd.prog 9 w b l) : Rising l := by
  obtain ⟨es, clock, _, F, _, hD⟩ := h
  exact rising_of (DataW.map.inj hD) (Maps.fit_apart str_law F)
theorem keys_sorted {l : Dir} (h : Rising l) {ss : List Bs} (hp : ss.Perm (List.map (·.1) l)) : ss.mergeSort (fun x y => decide (x ≤ y)) = List.map (·.1) l := by
  have h1 : (List.map (·.1) l).mergeSort (fun x y => decide (x ≤ y)) = List.map (·.1) l := by
    refine List.mergeSort_of_pairwise ?_
    rw [List.pairwise_map]
    refine h.imp fun {x y} hxy => ?_
    simpa using List.le_of_lt (lt_of_bytesBefore hxy)
  exact (_root_.Go.mergeSort_of_perm hp).trans h1
def nameV (x : Bs × Nat) : Value := encStr x.1
theorem Row.lst {w : World} {base : Nat} {e : TypeId} {v : Value} {n : Nat} {vs : List Value} (h : w.ownsRow base e 1 v n vs) : Lst w v vs := by
  obtain ⟨h0, h⟩ := h
  rcases h with ⟨rfl, rfl⟩ | ⟨g, cap, cur, rfl, _, hg, h1, h2, h3, h4⟩
  · have : vs = [] := List.length_eq_zero_iff.1 (by omega)
    subst this
    exact Lst.nil w
  · have hn : vs.length = n := by omega
    refine ⟨some ⟨g, 0, none⟩, cap, by rw [hn], by omega, (fun h => by cases h), fun j hj => ⟨g, 0, rfl, ?_⟩⟩
    rw [Nat.zero_add, cell_at hg]
    have h5 := congrArg (fun l => l[j]?) h4
    simp only [Nat.mul_one, List.getElem?_take] at h5
    rw [if_pos (show j < n by omega), List.getElem?_eq_getElem hj] at h5
    rw [← Array.getElem?_toList, h5]
/-- The names of a directory, as a new slice. -/
def Named (w : World) (l : Dir) (e : Ending) (w' : World) : Prop := ∃ v, e = .returned v ∧ Lst w' v (l.map nameV) ∧ Below w.heap.size w w' ∧ ∀ b, v.ownBlock = some b → w.heap.size ≤ b
theorem sorted_at {w : World} {b : Nat} {l : Dir} (h : MapP Tryd.prog 9 w b l) (hl : l.length ≤ 1000000) :
    Calls Tryd.prog 57 #[.func (.func 79) #[] #[.pointer (some ⟨w.heap.size, 0, none⟩)]] (w.alloc (.cells #[.map (some b)] 65)) (Named w l) := by
  refine ((callsIn_wide (n := 5)).1 (sorted_raw b l.length (Dir.data l) ptrElem w h (by rw [Dir.data_size]; unfold maxLen; omega) (by rw [Dir.data_size]; omega))).mono ?_
  rintro e w' ⟨v, ss, rfl, hp, hrow, _, hb⟩
  rw [Dir.data_keys] at hp
  rw [keys_sorted h.rising hp, List.map_map] at hrow
  refine ⟨v, rfl, Row.lst hrow, ((Below.refl _ w).alloc (Nat.le_refl _) _).trans (hb.mono (by simp)), fun q hq => ?_⟩
  rcases hrow.2 with ⟨rfl, _⟩ | ⟨g, cap, cur, rfl, hg, _⟩
  · cases hq
  · have e : g = q := Option.some.inj hq
    simp at hg; omega

theorem clone_map {w : World} {b : Nat} {l : Dir} (h : MapP Tryd.prog 9 w b l) :
    Calls Tryd.prog 55 #[.map (some b)] w fun e w' => e = .returned (.map (some w.heap.size)) ∧ MapP Tryd.prog 9 w' w.heap.size l ∧ Below w.heap.size w w' ∧ w'.heap.size = w.heap.size + 1 := by
  obtain ⟨es, clock, hb, F, hs, hD⟩ := h
  refine (AnyW.maps_Clone Tryd.clone55 b es clock w hb).mono ?_
  rintro e w' ⟨rfl, rfl⟩
  exact ⟨rfl, ⟨es, clock, heap_alloc_at rfl _, F, hs, hD⟩, (Below.refl _ w).alloc (Nat.le_refl _) _, by simp⟩
end Go.Proofs.YtbckbkcpfejllaaDoor
