/- What a walk says of memory: which blocks stay; a map of strings to pointers as a list that rises; rows of bytes. No word on any program. -/
import Derived.Maps.Range
import Derived.Maps.OwnSet
import Derived.Maps.Ext
import Derived.Sort.KeysCollected
import Derived.Below
import Derived.Laws.OwnMore
import Derived.MapKept
import Derived.StringKeys
import Derived.Deep.AppendSrc
import Derived.Laws.IdiomCopy
namespace Go.Proofs.YtbckbkcpfejllaaDoor
open Go.RowKit Go.Maps Go.WideMaps

abbrev Bs := List UInt8
abbrev bs (s : ByteArray) : Bs := s.data.toList
theorem mk_bs (s : ByteArray) : (⟨(bs s).toArray⟩ : ByteArray) = s := by simp [bs]
theorem encStr_bs (s : ByteArray) : encStr (bs s) = .string s := by simp [encStr, bs]

/-- Every block that is there and is not in S stays what it is; the streams stay. -/
structure Keeps (S : Nat → Prop) (w w' : World) : Prop where
  os : w'.os = w.os
  tape : w'.tape = w.tape
  output : w'.output = w.output
  size : w.heap.size ≤ w'.heap.size
  block : ∀ k, k < w.heap.size → ¬ S k → w'.heap[k]? = w.heap[k]?

namespace Keeps
variable {S T : Nat → Prop} {w w' w'' : World}
theorem refl (S : Nat → Prop) (w : World) : Keeps S w w := ⟨rfl, rfl, rfl, Nat.le_refl _, fun _ _ _ => rfl⟩
theorem trans (h : Keeps S w w') (k : Keeps T w' w'') (hT : ∀ b, b < w.heap.size → T b → S b) : Keeps S w w'' :=
  ⟨k.os.trans h.os, k.tape.trans h.tape, k.output.trans h.output, Nat.le_trans h.size k.size,
   fun b hb hS => (k.block b (Nat.lt_of_lt_of_le hb h.size) (fun hT' => hS (hT b hb hT'))).trans (h.block b hb hS)⟩
theorem mono (h : Keeps S w w') (hS : ∀ b, b < w.heap.size → S b → T b) : Keeps T w w' :=
  ⟨h.os, h.tape, h.output, h.size, fun b hb hT => h.block b hb (fun hS' => hT (hS b hb hS'))⟩
theorem drew (h : Keeps S w w') : Keeps S w w'.drew := ⟨h.os, h.tape, h.output, h.size, h.block⟩
theorem alloc (h : Keeps S w w') (o : Obj) : Keeps S w (w'.alloc o) :=
  ⟨h.os, h.tape, h.output, by have := h.size; simp; omega, fun b hb hS => (Below.heap_alloc _ _ _ (Nat.lt_of_lt_of_le hb h.size)).trans (h.block b hb hS)⟩
theorem setCell (h : Keeps S w w') {p : Addr} (hp : p.block < w.heap.size → S p.block) (u : Value) : Keeps S w (w'.setCell p u) :=
  ⟨h.os, h.tape, h.output, by have := h.size; simpa [World.setCell] using this, fun b hb hS => by
    have hne : b ≠ p.block := fun e => hS (e ▸ hp (e ▸ hb))
    exact (Below.heap_setCell _ _ _ _ hne).trans (h.block b hb hS)⟩
theorem grown {row : Option Nat} (h : Keeps S w w') (hg : w'.grownBy w'' row) (hr : ∀ b, row = some b → b < w.heap.size → S b) : Keeps S w w'' :=
  ⟨hg.os.trans h.os, hg.tape.trans h.tape, hg.output.trans h.output, Nat.le_trans h.size hg.size,
   fun b hb hS => (hg.block b (Nat.lt_of_lt_of_le hb h.size) (fun e => hS (hr b e.symm hb))).trans (h.block b hb hS)⟩
theorem of_below (h : Below w.heap.size w w') : Keeps (fun _ => False) w w' := ⟨h.os, h.tape, h.output, h.size, fun b hb _ => h.block b hb⟩
theorem below (h : Keeps S w w') {B : Nat} (hB : B ≤ w.heap.size) (hS : ∀ b, b < B → ¬ S b) : Below B w w' :=
  ⟨h.os, h.tape, h.output, h.size, fun b hb => h.block b (Nat.lt_of_lt_of_le hb hB) (hS b hb)⟩
theorem heap (h : Keeps S w w') {b : Nat} {o : Obj} (hb : w.heap[b]? = some o) (hS : ¬ S b) : w'.heap[b]? = some o :=
  (h.block b (Array.getElem?_eq_some_iff.1 hb).1 hS).trans hb
theorem cell (h : Keeps S w w') {b o : Nat} {v : Value} (hc : w.cell? ⟨b, o, none⟩ = some v) (hS : ¬ S b) : w'.cell? ⟨b, o, none⟩ = some v :=
  (World.cell?_of_block (w := w) (a := ⟨b, o, none⟩) (h.block b (World.block_lt_of_cell? w _ hc) hS)).trans hc
theorem free (h : Keeps S w w') {b o : Nat} (hf : w.frozen? ⟨b, o, none⟩ = false) (hb : b < w.heap.size) (hS : ¬ S b) : w'.frozen? ⟨b, o, none⟩ = false :=
  (World.frozen?_of_block (w := w) (a := ⟨b, o, none⟩) (h.block b hb hS)).trans hf
end Keeps

theorem lt_of_heap {w : World} {b : Nat} {o : Obj} (h : w.heap[b]? = some o) : b < w.heap.size := (Array.getElem?_eq_some_iff.1 h).1
theorem heap_drew (w : World) (b : Nat) : w.drew.heap[b]? = w.heap[b]? := rfl
theorem heap_alloc_of {w : World} {b : Nat} {o : Obj} (h : w.heap[b]? = some o) (o' : Obj) : (w.alloc o').heap[b]? = some o :=
  (Below.heap_alloc _ _ _ (lt_of_heap h)).trans h
theorem heap_setCell_of {w : World} {b : Nat} {o : Obj} (h : w.heap[b]? = some o) {p : Addr} (hp : b ≠ p.block) (u : Value) : (w.setCell p u).heap[b]? = some o :=
  (Below.heap_setCell _ _ _ _ hp).trans h
theorem heap_setCell_at {w : World} {b o : Nat} {cur : Array Value} {e : TypeId} {fz : Nat × Nat} (h : w.heap[b]? = some (.cells cur e fz)) (u : Value) :
    (w.setCell ⟨b, o, none⟩ u).heap[b]? = some (.cells (cur.setIfInBounds o u) e fz) := by
  simp [World.setCell, Array.getElem?_modify, h]
theorem cell_at {w : World} {b o : Nat} {cur : Array Value} {e : TypeId} {fz : Nat × Nat} (h : w.heap[b]? = some (.cells cur e fz)) : w.cell? ⟨b, o, none⟩ = cur[o]? := by
  simp [World.cell?, h]
theorem frozen_at {w : World} {b o : Nat} {cur : Array Value} {e : TypeId} (h : w.heap[b]? = some (.cells cur e (0, 0))) : w.frozen? ⟨b, o, none⟩ = false := by
  simp [World.frozen?, h]

theorem heap_alloc_at {w : World} {n : Nat} (h : w.heap.size = n) (o : Obj) : (w.alloc o).heap[n]? = some o := by subst h; exact heap_alloc_new w o
theorem Keeps.one {S : Nat → Prop} {w w' : World} (hk : Keeps S w w') {b : Nat} {v : Value} {t : TypeId} (h : w.heap[b]? = some (.cells #[v] t (0, 0))) (hS : ¬ S b) : w'.cell? ⟨b, 0, none⟩ = some v := by
  rw [cell_at (hk.heap h hS)]; rfl
theorem ret_int {k : IntKind} {a b : Int} (h : a = b) : Ending.returned (.int k a) = .returned (.int k b) := by rw [h]

/-! ### a map of strings to pointers -/
/-- How a pointer to the begin of a block reads: as the block's number. -/
def ptrElem (v : Value) : Option (DataW Unit × List MemPlace) :=
  match v with
  | .pointer (some ⟨p, 0, none⟩) => some (.lit (.int .i64 p), [])
  | .pointer none => some (.nil, [])
  | _ => none
def ptrV : Option Nat → Value
  | some p => .pointer (some ⟨p, 0, none⟩)
  | none => .pointer none
@[go_sem] theorem ptrV_some (p : Nat) : ptrV (some p) = .pointer (some ⟨p, 0, none⟩) := rfl
@[go_sem] theorem ptrV_none : ptrV none = .pointer none := rfl
theorem ptrElem_mk (p : Nat) : ptrElem (.pointer (some ⟨p, 0, none⟩)) = some (.lit (.int .i64 p), []) := rfl
theorem ptrElem_inv {v : Value} {y : DataW Unit × List MemPlace} (h : ptrElem v = some y) : (∃ p : Nat, v = ptrV (some p) ∧ y = (.lit (.int .i64 p), [])) ∨ (v = ptrV none ∧ y = (.nil, [])) := by
  unfold ptrElem at h
  split at h
  · cases h; exact Or.inl ⟨_, rfl, rfl⟩
  · cases h; exact Or.inr ⟨rfl, rfl⟩
  · cases h

/-- A directory: names that rise, each with a block's number. -/
abbrev Dir := List (Bs × Nat)
def Dir.find (l : Dir) (n : Bs) : Option Nat := (List.find? (fun x => x.1 == n) l).map (·.2)
def Dir.del (l : Dir) (n : Bs) : Dir := List.filter (fun x => !(x.1 == n)) l
def Dir.ins (x : Bs × Nat) : Dir → Dir
  | [] => [x]
  | y :: r => if bytesBefore x.1 y.1 then x :: y :: r else y :: Dir.ins x r
def Dir.put (l : Dir) (n : Bs) (p : Nat) : Dir := Dir.ins (n, p) (Dir.del l n)
def Dir.ent (x : Bs × Nat) : Lit × DataW Unit := (.string x.1, .lit (.int .i64 x.2))
def Dir.data (l : Dir) : DataW Unit := .map (List.map Dir.ent l)

theorem Dir.data_put (l : Dir) (n : Bs) (p : Nat) : (Dir.data l).put (.string n) (.lit (.int .i64 p)) = Dir.data (Dir.put l n p) := by
  have h1 : ∀ r : Dir, DataW.insert (Dir.ent (n, p)) (List.map Dir.ent r) = List.map Dir.ent (Dir.ins (n, p) r) := by
    intro r
    induction r with
    | nil => rfl
    | cons y r ih =>
      have e1 : (Dir.ent (n, p)).1.before (Dir.ent y).1 = bytesBefore n y.1 := rfl
      rw [List.map_cons, DataW.insert, e1, Dir.ins]
      by_cases h : bytesBefore n y.1 = true
      · rw [if_pos h, if_pos h]; rfl
      · rw [if_neg h, if_neg h, ih]; rfl
  have h2 : (List.map Dir.ent l).filter (fun q => !q.1.sameKey (.string n)) = List.map Dir.ent (Dir.del l n) := by
    rw [List.filter_map]; rfl
  simp only [DataW.put, Dir.data, h2, Dir.put]
  rw [← h1]; rfl
theorem Dir.data_del (l : Dir) (n : Bs) : (Dir.data l).del (.string n) = Dir.data (Dir.del l n) := by
  have h2 : (List.map Dir.ent l).filter (fun q => !q.1.sameKey (.string n)) = List.map Dir.ent (Dir.del l n) := by
    rw [List.filter_map]; rfl
  simp only [DataW.del, Dir.data, h2]
theorem Dir.data_at (l : Dir) (n : Bs) (z : DataW Unit) : (Dir.data l).atKey (.string n) z = match Dir.find l n with | some p => .lit (.int .i64 p) | none => z := by
  simp only [DataW.atKey, Dir.data, Dir.find, List.find?_map]
  have e : ((fun p : Lit × DataW Unit => p.1.sameKey (.string n)) ∘ Dir.ent) = fun x => x.1 == n := rfl
  rw [e]
  cases List.find? (fun x => x.1 == n) l <;> rfl
theorem Dir.data_has (l : Dir) (n : Bs) : Maps.has (Dir.data l) (.string n) = (Dir.find l n).isSome := by
  induction l with
  | nil => rfl
  | cons x r ih =>
    simp only [Maps.has_eq, Dir.data, Dir.find, List.map_cons, List.any_cons, List.find?_cons, Dir.ent, Lit.sameKey] at *
    cases h : x.1 == n
    · simp only [Bool.false_or, ih]
    · simp
theorem Dir.data_size (l : Dir) : Maps.size (Dir.data l) = l.length := by simp [Dir.data, Maps.size]
theorem Dir.data_keys (l : Dir) : strKeys (Dir.data l) = List.map (·.1) l := by simp [Dir.data, strKeys, Dir.ent, strOf, Function.comp_def]

section
variable {P : Program} {k : TypeId} {w w' : World} {b : Nat} {l : Dir}
/-- Block b is a map of strings to pointers: l. -/
def MapP (P : Program) (k : TypeId) (w : World) (b : Nat) (l : Dir) : Prop := w.ownsMap P k ptrElem b l.length (Dir.data l)
theorem MapP.of {n : Nat} (h : w.ownsMap P k ptrElem b n (Dir.data l)) : MapP P k w b l := by
  obtain ⟨es, clock, h1, h2, _, h4⟩ := h
  refine ⟨es, clock, h1, h2, ?_, h4⟩
  have := congrArg Maps.size h4
  rw [Dir.data_size] at this
  simp [Maps.size, length_sorted] at this
  omega
theorem MapP.keep (h : MapP P k w b l) (hb : w'.heap[b]? = w.heap[b]?) : MapP P k w' b l := by
  obtain ⟨es, clock, h1, h2⟩ := h
  exact ⟨es, clock, hb.trans h1, h2⟩
theorem MapP.lt (h : MapP P k w b l) : b < w.heap.size := World.ownsMap.lt h
theorem MapP.no_cells (h : MapP P k w b l) {c : Nat} {cur : Array Value} {e : TypeId} {fz : Nat × Nat} (hc : w.heap[c]? = some (.cells cur e fz)) : b ≠ c := by
  obtain ⟨es, clock, h1, _⟩ := h
  rintro rfl
  rw [h1] at hc
  cases hc
theorem MapP.made (w : World) : MapP P k (w.alloc (.map #[] 0)) w.heap.size [] := World.ownsMap_made w P k ptrElem
theorem MapP.look (h : MapP P k w b l) (hk : P.underlying k = some .string) {t e : TypeId} (ht : P.underlying t = some (.map k e)) (hz : (zeroValue e).run P w = .ok (.pointer none) w) (s : ByteArray) (hs : s.size ≤ maxLen) (c : Bool) :
    (Instr.lookup t (.map (some b)) (.string s) c).run P w = .ok (if c then .tuple #[ptrV (Dir.find l (bs s)), .bool (Dir.find l (bs s)).isSome] else ptrV (Dir.find l (bs s))) w := by
  obtain ⟨es, clock, hb, F, _, hD⟩ := h
  have hkey : keyOf P k (.string s) = some (.string (bs s)) := keyOf_string_mk hk hs
  rcases Maps.fit_look c (string_keyed hk) ht hz hb F hkey with ⟨hrun, _, hat⟩ | ⟨e0, y, _, _, hrun, hRv, hat, _⟩
  · rw [← hD] at hat
    have h1 := hat (.lit (.bool true))
    rw [Dir.data_at] at h1
    cases hf : Dir.find l (bs s) with
    | none => rw [hrun]; rfl
    | some p => rw [hf] at h1; cases h1
  · rw [← hD] at hat
    have h1 := hat (.lit (.bool true))
    have h2 := hat (.lit (.bool false))
    rw [Dir.data_at] at h1 h2
    cases hf : Dir.find l (bs s) with
    | none => rw [hf] at h1 h2; rw [← h2] at h1; cases h1
    | some p =>
      rw [hf] at h1
      rw [hrun]
      rcases ptrElem_inv hRv with ⟨q, hv, rfl⟩ | ⟨_, rfl⟩
      · have hq : (p : Int) = (q : Int) := by injection h1 with h1; injection h1
        have : p = q := by omega
        subst this
        rw [hv]; rfl
      · cases h1
theorem MapP.put (h : MapP P k w b l) (hk : P.underlying k = some .string) {t e : TypeId} (ht : P.underlying t = some (.map k e)) (hl : l.length < maxLen) (s : ByteArray) (hs : s.size ≤ maxLen) (p : Nat) :
    ∃ w', (Instr.mapUpdate t (.map (some b)) (.string s) (ptrV (some p))).run P w = .ok () w' ∧ MapP P k w' b (Dir.put l (bs s) p) ∧ w.grownBy w' (some b) ∧ w'.heap.size = w.heap.size := by
  obtain ⟨w', h1, h2, h3⟩ := World.ownsMap.store h (string_keyed hk) ht hl (keyOf_string_mk hk hs) (ptrElem_mk p)
  rw [Dir.data_put] at h2
  refine ⟨w', h1, MapP.of h2, h3.grown, ?_⟩
  obtain ⟨_, _, _, _, _, rfl⟩ := h3
  simp [ChangeMaps.setBlock]
theorem MapP.drop (h : MapP P k w b l) (hk : P.underlying k = some .string) {t e : TypeId} (ht : P.underlying t = some (.map k e)) (s : ByteArray) (hs : s.size ≤ maxLen) (ty : TypeId) :
    ∃ w', (Builtin.delete_ #[t, k] ty #[.map (some b), .string s]).run P w = .ok (.tuple #[]) w' ∧ MapP P k w' b (Dir.del l (bs s)) ∧ w.grownBy w' (some b) ∧ w'.heap.size = w.heap.size := by
  obtain ⟨w', h1, h2, h3⟩ := World.ownsMap.drop h (string_keyed hk) ht (keyOf_string_mk hk hs) ty
  rw [Dir.data_del] at h2
  refine ⟨w', h1, MapP.of h2, h3.grown, ?_⟩
  obtain ⟨_, _, _, _, _, rfl⟩ := h3
  simp [ChangeMaps.setBlock]
theorem MapP.len (h : MapP P k w b l) {t e : TypeId} (ht : P.underlying t = some (.map k e)) (ty : TypeId) : (Builtin.len_ #[t] ty #[.map (some b)]).run P w = .ok (.int .i64 l.length) w := by
  have := World.ownsMap.len h ht ty
  rwa [Dir.data_size] at this
end

/-! ### rows of bytes -/
def byteV (c : UInt8) : Value := .int .u8 c.toNat
/-- A slice of bytes that can be read, wherever it lies. -/
def Bin (w : World) (v : Value) (xs : Bs) : Prop :=
  ∃ a cap, v = .slice a xs.length cap ∧ xs.length ≤ cap ∧ (a = none → cap = 0) ∧
    ∀ j (h : j < xs.length), ∃ b off, a = some ⟨b, off, none⟩ ∧ w.cell? ⟨b, off + j, none⟩ = some (byteV xs[j])
/-- A slice that owns its block, from the block's begin on: v has n elements of k cells each, cs; or it is nil. -/
def Row (w : World) (e : TypeId) (k : Nat) (v : Value) (n : Nat) (cs : List Value) : Prop :=
  cs.length = n * k ∧ ((v = .slice none 0 0 ∧ n = 0) ∨ ∃ g cap cur, v = .slice (some ⟨g, 0, none⟩) n cap ∧ w.heap[g]? = some (.cells cur e (0, 0)) ∧ n ≤ cap ∧ cap * k ≤ cur.size ∧ cap ≤ maxLen ∧
    cur.toList.take (n * k) = cs)
/-- A slice of bytes that owns its block. -/
abbrev Bown (w : World) (e : TypeId) (v : Value) (xs : Bs) : Prop := Row w e 1 v xs.length (xs.map byteV)
theorem setCells_at (g : Nat) (e : TypeId) (fz : Nat × Nat) : ∀ (vs : List Value) (o : Nat) (w : World) (cur : Array Value), w.heap[g]? = some (.cells cur e fz) → o + vs.length ≤ cur.size →
    ∃ cur', (w.setCells g o vs).heap[g]? = some (.cells cur' e fz) ∧ cur'.size = cur.size ∧ cur'.toList.take (o + vs.length) = cur.toList.take o ++ vs ∧ (w.setCells g o vs).os = w.os ∧ (w.setCells g o vs).tape = w.tape ∧
      (w.setCells g o vs).output = w.output ∧ (w.setCells g o vs).heap.size = w.heap.size ∧ ∀ b, b ≠ g → (w.setCells g o vs).heap[b]? = w.heap[b]?
  | [], o, w, cur, h, _ => ⟨cur, h, rfl, by simp, rfl, rfl, rfl, rfl, fun _ _ => rfl⟩
  | v :: r, o, w, cur, h, hl => by
    have h1 := heap_setCell_at (o := o) h v
    simp only [List.length_cons] at hl
    obtain ⟨cur', a1, a2, a3, a4, a5, a6, a7, a8⟩ := setCells_at g e fz r (o + 1) (w.setCell ⟨g, o, none⟩ v) (cur.setIfInBounds o v) h1 (by simp; omega)
    refine ⟨cur', a1, by simpa using a2, ?_, a4, a5, a6, by rw [World.setCells, a7]; simp [World.setCell], fun b hb => (a8 b hb).trans (Below.heap_setCell _ _ _ _ hb)⟩
    rw [List.length_cons, show o + (r.length + 1) = o + 1 + r.length by omega, a3]
    have e1 : (cur.setIfInBounds o v).toList = cur.toList.set o v := by simp
    rw [e1, List.take_succ_eq_append_getElem (by simp; omega)]
    simp [List.take_set_of_le]
section
variable {w w' : World} {v : Value} {e : TypeId} {k n : Nat} {cs : List Value}
theorem Row.keep (h : Row w e k v n cs) (hb : ∀ b, v.ownBlock = some b → w'.heap[b]? = w.heap[b]?) : Row w' e k v n cs := by
  refine ⟨h.1, ?_⟩
  rcases h.2 with h | ⟨g, cap, cur, rfl, h1, h2⟩
  · exact Or.inl h
  · exact Or.inr ⟨g, cap, cur, rfl, (hb g rfl).trans h1, h2⟩
theorem Row.lt (h : Row w e k v n cs) : ∀ b, v.ownBlock = some b → b < w.heap.size := by
  rcases h.2 with ⟨rfl, _⟩ | ⟨g, cap, cur, rfl, h1, _⟩
  · intro b hb; cases hb
  · intro b hb; cases hb; exact lt_of_heap h1
theorem Row.nil (w : World) (e : TypeId) (k : Nat) : Row w e k (.slice none 0 0) 0 [] := ⟨by simp, Or.inl ⟨rfl, rfl⟩⟩
theorem Row.slv (h : Row w e k v n cs) : ∃ a cap, v = .slice a n cap := by
  rcases h.2 with ⟨rfl, rfl⟩ | ⟨g, cap, cur, rfl, _⟩
  · exact ⟨none, 0, rfl⟩
  · exact ⟨_, _, rfl⟩
/-- 'append(v, x...)': whatever is appended; to no row, to one with room, to one without. -/
theorem Row.append {P : Program} (h : Row w e k v n cs) (hk : 0 < k) (t tx ty : TypeId) (i : TypeInfo) (z : Value) (bytes : Nat) (ht : P.underlying t = some (.slice e)) (hi : P.info? e = some i) (hz : i.zero = some z) (hsz : i.size = k) (hby : i.bytes = bytes)
    (hzs : z.cells.size = k) (x : Value) (m : Nat) (news : List Value) (hs : Src P k tx x m news w) (hm : n + m ≤ maxLen) (hfit : (n + m) * bytes ≤ 140737488355328) :
    ∃ v' w', (Builtin.append_ #[t, tx] ty #[v, x]).run P w = .ok v' w' ∧ Row w' e k v' (n + m) (cs ++ news) ∧ Keeps (fun b => v.ownBlock = some b) w w' ∧
      (∀ b, v'.ownBlock = some b → v.ownBlock = some b ∨ w.heap.size ≤ b) ∧ (v' = .slice none 0 0 → v = .slice none 0 0 ∧ m = 0) ∧ w'.heap.size ≤ w.heap.size + 1 := by
  subst hsz
  have hlen : (cs ++ news).length = (n + m) * i.size := by rw [List.length_append, h.1, hs.newsLen, Nat.add_mul]
  rcases h.2 with ⟨rfl, rfl⟩ | ⟨g, cap, cur, rfl, hg, h1, h2, h3, h4⟩
  · by_cases h0 : m = 0
    · subst h0
      have hn : news = [] := List.length_eq_zero_iff.1 (by rw [hs.newsLen]; simp)
      have hc : cs = [] := List.length_eq_zero_iff.1 (by rw [h.1]; simp)
      subst hn hc
      have hl := hs.len
      have hc := hs.cells
      refine ⟨.slice none 0 0, w, ?_, Row.nil _ _ _, Keeps.refl _ _, (fun b hb => by cases hb), (fun _ => ⟨rfl, rfl⟩), by omega⟩
      rcases hs.kind with ⟨e', hk'⟩ | hk' <;> simp [Builtin.append_, run_underlying ht, run_underlying hk', sizeOf, typeInfo, hi, hl, hc]
    · have hc : cs = [] := List.length_eq_zero_iff.1 (by rw [h.1]; simp)
      subst hc
      have hrun := run_append_grow_src (P := P) w t tx ty e i z ht hi hz none 0 0 [] (run_firstCells_none w.drew i.size 0 0 0) x m news hs (by omega) (by simp only [maxLen] at hm; omega) (by rw [hby]; exact growslice_fits (by omega) hfit)
      have hcap := grownCap_ge w (0 + m) 0 e
      refine ⟨_, _, hrun, ⟨hlen, Or.inr ⟨_, _, _, rfl, heap_alloc_new _ _, hcap, ?_, grownCap_le_maxLen w _ 0 e hm, ?_⟩⟩, ?_, (fun b hb => ?_), (fun h => by cases h), (by simp)⟩
      · simp only [List.nil_append, Array.size_append, List.size_toArray, hs.newsLen, size_zeroCells, hzs, ← Nat.add_mul]
        exact Nat.mul_le_mul_right _ (by omega)
      · rw [← hlen]; simp
      · exact ((Keeps.refl _ w).drew).alloc _
      · cases hb; exact Or.inr (Nat.le_refl _)
  · have hcl : n * i.size ≤ cap * i.size := Nat.mul_le_mul_right _ h1
    by_cases hroom : n + m ≤ cap
    · have hr : (n + m) * i.size ≤ cap * i.size := Nat.mul_le_mul_right _ hroom
      have hnl : n * i.size + news.length ≤ cur.size := by rw [hs.newsLen, ← Nat.add_mul]; omega
      have hrun := run_append_room_src (P := P) w t tx ty e i ht hi g 0 n cap x m news hs hroom (fun j hj => by rw [cell_at hg]; simp; omega) (fun j _ => frozen_at hg)
      simp only [Nat.zero_add] at hrun
      obtain ⟨cur', a1, a2, a3, a4, a5, a6, a7, a8⟩ := setCells_at g e (0, 0) news (n * i.size) w cur hg hnl
      refine ⟨_, _, hrun, ⟨hlen, Or.inr ⟨g, cap, cur', rfl, a1, hroom, by rw [a2]; exact h2, h3, ?_⟩⟩, ⟨a4, a5, a6, by omega, fun b hb hne => a8 b (fun e => hne (by rw [e]; rfl))⟩, fun b hb => Or.inl hb, (fun h => by cases h), (by omega)⟩
      rw [Nat.add_mul, ← hs.newsLen, a3, h4]
    · have hold : (Builtin.firstCells i.size n (.slice (some ⟨g, 0, none⟩) n cap)).run P w.drew = .ok cs.toArray w.drew :=
        run_firstCells_some w.drew i.size n ⟨g, 0, none⟩ n cap cs h.1 (fun j u hu => by
          have hadd : (⟨g, 0, none⟩ : Addr).add j = ⟨g, j, none⟩ := by unfold Addr.add; split <;> simp_all
          rw [hadd, show w.drew.cell? ⟨g, j, none⟩ = w.cell? ⟨g, j, none⟩ from rfl, cell_at hg]
          rw [← h4, List.getElem?_take] at hu
          split at hu
          · simpa using hu
          · cases hu)
      have hrun := run_append_grow_src (P := P) w t tx ty e i z ht hi hz (some ⟨g, 0, none⟩) n cap cs hold x m news hs (by omega) (by simp only [maxLen] at hm; omega) (by rw [hby]; exact growslice_fits (by omega) hfit)
      have hcap := grownCap_ge w (n + m) cap e
      refine ⟨_, _, hrun, ⟨hlen, Or.inr ⟨_, _, _, rfl, heap_alloc_new _ _, hcap, ?_, grownCap_le_maxLen w _ cap e hm, ?_⟩⟩, ?_, (fun b hb => ?_), (fun h => by cases h), (by simp)⟩
      · rw [Array.size_append, List.size_toArray, hlen, size_zeroCells, hzs, ← Nat.add_mul]
        exact Nat.mul_le_mul_right _ (by omega)
      · rw [← hlen, Array.toList_append, List.take_append_of_le_length (by simp), List.take_of_length_le (by simp)]
      · exact ((Keeps.refl _ w).drew).alloc _
      · cases hb; exact Or.inr (Nat.le_refl _)
end
section
variable {w w' : World} {v : Value} {xs : Bs} {e : TypeId}
theorem Bin.keep (h : Bin w v xs) (hb : ∀ b, v.ownBlock = some b → b < w.heap.size → w'.heap[b]? = w.heap[b]?) : Bin w' v xs := by
  obtain ⟨a, cap, rfl, h1, h3, h4⟩ := h
  refine ⟨a, cap, rfl, h1, h3, fun j hj => ?_⟩
  obtain ⟨b, off, rfl, hc⟩ := h4 j hj
  refine ⟨b, off, rfl, ?_⟩
  rw [World.cell?_of_block (w := w) (hb b rfl (World.block_lt_of_cell? w _ hc))]
  exact hc
theorem Bin.nil (w : World) : Bin w (.slice none 0 0) [] := ⟨none, 0, rfl, Nat.le_refl _, fun _ => rfl, fun j hj => by cases hj⟩
end
theorem Row.fresh0 (w : World) (e : TypeId) (k : Nat) : Row (w.alloc (.cells #[] e)) e k (.slice (some ⟨w.heap.size, 0, none⟩) 0 0) 0 [] :=
  ⟨by simp, Or.inr ⟨_, 0, #[], rfl, heap_alloc_new w _, Nat.le_refl _, by simp, Nat.zero_le _, by simp⟩⟩
theorem Bin.alloc {w : World} {v : Value} {xs : Bs} (h : Bin w v xs) (o : Obj) : Bin (w.alloc o) v xs := h.keep (fun _ _ hb => Below.heap_alloc _ _ _ hb)
/-- 'append' at the operation, for the walk. -/
theorem wpList_append_row {P : Program} (w : World) {ops : Array Oper} {rest : List Oper} {o : Oper} {a : Act} {Q : Exit → Act → World → Prop} (hg : o.guard = none) (s x : Operand) (t tx : TypeId)
    (hop : o.op = Op.call { callee := Callee.builtin Builtin.append, args := #[s, x], argTypes := #[t, tx] }) {e : TypeId} {k n : Nat} {v : Value} {cs : List Value} (hs : a.eval s = v) (xv : Value) (hx : a.eval x = xv) (h : Row w e k v n cs) (hk : 0 < k)
    (i : TypeInfo) (z : Value) (bytes : Nat) (ht : P.underlying t = some (.slice e)) (hi : P.info? e = some i) (hz : i.zero = some z) (hsz : i.size = k) (hby : i.bytes = bytes) (hzs : z.cells.size = k)
    (m : Nat) (news : List Value) (hsrc : Src P k tx xv m news w) (hm : n + m ≤ maxLen) (hfit : (n + m) * bytes ≤ 140737488355328)
    (hK : ∀ (b' : Option Addr) (c' : Nat) (w' : World), Row w' e k (.slice b' (n + m) c') (n + m) (cs ++ news) → Keeps (fun b => v.ownBlock = some b) w w' → (∀ b, (Value.slice b' (n + m) c').ownBlock = some b → v.ownBlock = some b ∨ w.heap.size ≤ b) →
      (b' = none → v = .slice none 0 0 ∧ m = 0) → w'.heap.size ≤ w.heap.size + 1 → wpList P ops Q rest (a.put o.dst (.slice b' (n + m) c')) w') : wpList P ops Q (o :: rest) a w := by
  refine wpList_plain hg fun K' hK' => ?_
  obtain ⟨v', w', hrun, r1, r2, r3, r4, r5⟩ := h.append hk t tx o.type i z bytes ht hi hz hsz hby hzs xv m news hsrc hm hfit
  obtain ⟨b', c', rfl⟩ := r1.slv
  unfold Oper.wp
  simp [execOp, hop, resolve, invoke, builtin, hs, hx, hrun, Result.andThen]
  refine hK' _ _ (hK b' c' w' r1 r2 r3 (fun hb => ?_) r5)
  subst hb
  refine r4 ?_
  rcases r1.2 with ⟨e1, _⟩ | ⟨g, cap, cur, e1, _⟩
  · exact e1
  · cases e1
theorem step_append_row {P : Program} {w : World} {ops : Array Oper} {o : Oper} {a : Act} {K : Act → World → Prop} {Q : Exit → Act → World → Prop} {E : Prop} (hg : o.guard = none) (s x : Operand) (t tx : TypeId)
    (hop : o.op = Op.call { callee := Callee.builtin Builtin.append, args := #[s, x], argTypes := #[t, tx] }) {e : TypeId} {k n : Nat} {v : Value} {cs : List Value} (hs : a.eval s = v) (xv : Value) (hx : a.eval x = xv) (h : Row w e k v n cs) (hk : 0 < k)
    (i : TypeInfo) (z : Value) (bytes : Nat) (ht : P.underlying t = some (.slice e)) (hi : P.info? e = some i) (hz : i.zero = some z) (hsz : i.size = k) (hby : i.bytes = bytes) (hzs : z.cells.size = k)
    (m : Nat) (news : List Value) (hsrc : Src P k tx xv m news w) (hm : n + m ≤ maxLen) (hfit : (n + m) * bytes ≤ 140737488355328)
    (hK : ∀ (b' : Option Addr) (c' : Nat) (w' : World), Row w' e k (.slice b' (n + m) c') (n + m) (cs ++ news) → Keeps (fun b => v.ownBlock = some b) w w' → (∀ b, (Value.slice b' (n + m) c').ownBlock = some b → v.ownBlock = some b ∨ w.heap.size ≤ b) →
      (b' = none → v = .slice none 0 0 ∧ m = 0) → w'.heap.size ≤ w.heap.size + 1 → K (a.put o.dst (.slice b' (n + m) c')) w') : if Region.wanted o (yielded ops a.tmps) = true then Oper.wp P o a w K Q else E := by
  have hw : Region.wanted o (yielded ops a.tmps) = true := by simp [Region.wanted, hg]
  rw [if_pos hw]
  obtain ⟨v', w', hrun, r1, r2, r3, r4, r5⟩ := h.append hk t tx o.type i z bytes ht hi hz hsz hby hzs xv m news hsrc hm hfit
  obtain ⟨b', c', rfl⟩ := r1.slv
  unfold Oper.wp
  simp [execOp, hop, resolve, invoke, builtin, hs, hx, hrun, Result.andThen]
  refine hK b' c' w' r1 r2 r3 (fun hb => ?_) r5
  subst hb
  refine r4 ?_
  rcases r1.2 with ⟨e1, _⟩ | ⟨g, cap, cur, e1, _⟩
  · exact e1
  · cases e1
/-- A slice over a whole block. -/
theorem src_at {P : Program} {w : World} {g : Nat} {t : TypeId} {fz : Nat × Nat} {cs : List Value} (h : w.heap[g]? = some (.cells cs.toArray t fz)) {tx e : TypeId} (hk : P.underlying tx = some (.slice e)) (k m : Nat) (hl : cs.length = m * k) (h1 : ∀ u ∈ cs, u.oneCell' = true) :
    Src P k tx (.slice (some ⟨g, 0, none⟩) m m) m cs w :=
  Src.ofSlice _ hk _ m m cs hl (fun j u hu => by
    have hadd : (⟨g, 0, none⟩ : Addr).add j = ⟨g, j, none⟩ := by unfold Addr.add; split <;> simp_all
    rw [hadd, cell_at h]
    simpa using hu) h1
theorem Bin.src {P : Program} {w : World} {v : Value} {xs : Bs} (h : Bin w v xs) {tx e' : TypeId} (hk : P.underlying tx = some (.slice e')) : Src P 1 tx v xs.length (xs.map byteV) w := by
  obtain ⟨a, cap, rfl, h1, h3, h4⟩ := h
  cases a with
  | none =>
    have hc := h3 rfl
    have h0 : xs = [] := List.length_eq_zero_iff.1 (by omega)
    subst h0
    exact Src.ofNil w hk cap
  | some a =>
    refine Src.ofSlice w hk a xs.length cap _ (by simp) (fun j u hu => ?_) (fun u hu => ?_)
    · rw [List.getElem?_map] at hu
      cases hx : xs[j]? with
      | none => rw [hx] at hu; cases hu
      | some c =>
        rw [hx] at hu
        obtain ⟨hj, he⟩ := List.getElem?_eq_some_iff.1 hx
        obtain ⟨b, off, hab, hc⟩ := h4 j hj
        cases hab
        have hadd : (⟨b, off, none⟩ : Addr).add j = ⟨b, off + j, none⟩ := by unfold Addr.add; split <;> simp_all
        rw [hadd, hc, he]
        exact hu
    · obtain ⟨c, _, rfl⟩ := List.mem_map.1 hu
      rfl
theorem Bown.bin {w : World} {e : TypeId} {v : Value} {xs : Bs} (h : Bown w e v xs) : Bin w v xs := by
  rcases h.2 with ⟨rfl, h0⟩ | ⟨g, cap, cur, rfl, hg, h1, h2, h3, h4⟩
  · have : xs = [] := List.length_eq_zero_iff.1 h0
    subst this
    exact Bin.nil w
  · refine ⟨_, cap, rfl, h1, (fun h => by cases h), fun j hj => ⟨g, 0, rfl, ?_⟩⟩
    rw [Nat.zero_add, cell_at hg]
    have h5 := congrArg (fun l => l[j]?) h4
    simp only [Nat.mul_one, List.getElem?_take, hj, if_true, List.getElem?_map] at h5
    rw [← Array.getElem?_toList, h5]
    simp [hj]
end Go.Proofs.YtbckbkcpfejllaaDoor
