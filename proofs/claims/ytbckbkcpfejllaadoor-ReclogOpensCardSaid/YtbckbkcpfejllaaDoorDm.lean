/- What a disk is, in plain words (PD), how it lies in memory (Lay, DiskAt), and what each deed turns. -/
import Derived.Test.YtbckbkcpfejllaaDoorProg
import Derived.Test.YtbckbkcpfejllaaDoorBase
namespace Go.Proofs.YtbckbkcpfejllaaDoor
open Go.RowKit Go.Maps Go.WideMaps

structure PF where
  b : Bs
  sure : Nat
  time : Int

structure Chg where
  name : ByteArray
  to : Option Nat
  gone : ByteArray

/-- A disk, plainly. -/
structure PD where
  quota : Int
  clock : Int
  deeds : Int
  armed : Int
  down : Bool
  files : Dir
  sure : Dir
  pend : List Chg
  fs : Nat → PF

/-- Where it lies. -/
structure Lay where
  d : Nat
  mf : Nat
  ms : Nat
  s6 : Nat
  mid : Bool
  pv : Value
  role : Nat → Nat
  vs : Nat → Value

def isE (s : ByteArray) : Bool := s.toList.isEmpty
def Chg.does (c : Chg) (l : Dir) : Dir :=
  let l1 := if isE c.gone then l else Dir.del l (bs c.gone)
  if isE c.name then l1 else match c.to with
    | some p => Dir.put l1 (bs c.name) p
    | none => l1
def Chg.cells (c : Chg) : List Value := [.string c.name, ptrV c.to, .string c.gone]

def upd {α : Type} (f : Nat → α) (p : Nat) (x : α) : Nat → α := fun q => if q = p then x else f q
theorem upd_same {α : Type} (f : Nat → α) (p : Nat) (x : α) : upd f p x p = x := by simp [upd]
theorem upd_other {α : Type} (f : Nat → α) {p q : Nat} (h : q ≠ p) (x : α) : upd f p x q = f q := by simp [upd, h]

namespace PD
def len (D : PD) (p : Nat) : Int := ((D.fs p).b.length : Int)
def used (D : PD) : Int := (List.map (fun x : Bs × Nat => D.len x.2) D.files).sum
def old (D : PD) (n : Bs) : Int := match Dir.find D.files n with | some p => D.len p | none => 0
def fits (D : PD) (n : Bs) (size : Int) : Int :=
  if 65536 < size then 3
  else if (Dir.find D.files n).isNone && D.files.length == 200 then 3
  else if D.quota < D.used - D.old n + size then 7 else 0
def turns (D : PD) (c : Chg) : PD := { D with files := c.does D.files, pend := D.pend ++ [c] }
def tick (D : PD) : PD := { D with clock := D.clock + 1 }
def setF (D : PD) (p : Nat) (f : PF) : PD := { D with fs := upd D.fs p f }
def fresh (D : PD) (name : ByteArray) (b : Bs) (p : Nat) : Int × PD :=
  if D.fits (bs name) b.length = 0 then (0, ((D.tick).setF p ⟨b, 0, D.clock⟩).turns ⟨name, some p, ByteArray.empty⟩) else (D.fits (bs name) b.length, D)
def append (D : PD) (name : ByteArray) (b : Bs) (p : Nat) : Int × PD :=
  match Dir.find D.files (bs name) with
  | none => D.fresh name b p
  | some q =>
    if D.fits (bs name) (D.len q + b.length) = 0 then (0, (D.tick).setF q ⟨(D.fs q).b ++ b, (D.fs q).sure, D.clock⟩)
    else (D.fits (bs name) (D.len q + b.length), D)
def cutAt (D : PD) (q : Nat) (n : Int) : Int × PD :=
  if n < 0 ∨ D.len q < n then (1, D) else (0, (D.tick).setF q ⟨(D.fs q).b.take n.toNat, min (D.fs q).sure n.toNat, D.clock⟩)
def cut (D : PD) (name : ByteArray) (n : Int) : Int × PD :=
  match Dir.find D.files (bs name) with
  | none => (6, D)
  | some q => D.cutAt q n
def rename (D : PD) (name to : ByteArray) : Int × PD :=
  match Dir.find D.files (bs name) with
  | none => (6, D)
  | some q => (0, D.turns ⟨to, some q, name⟩)
def remove (D : PD) (name : ByteArray) : Int × PD :=
  match Dir.find D.files (bs name) with
  | none => (6, D)
  | some _ => (0, D.turns ⟨ByteArray.empty, none, name⟩)
def sync (D : PD) (name : ByteArray) : Int × PD :=
  match Dir.find D.files (bs name) with
  | none => (6, D)
  | some q => (0, D.setF q ⟨(D.fs q).b, (D.fs q).b.length, (D.fs q).time⟩)
def syncDir (D : PD) : Int × PD := (0, { D with sure := D.files, pend := [] })
def counted (D : PD) : PD := { D with armed := if 0 < D.armed then D.armed - 1 else D.armed, deeds := D.deeds + 1 }
def deed (D : PD) (right : Bool) (f : PD → Int × PD) : Int × PD :=
  if D.down then (8, D) else if D.armed = 0 then (8, { D with down := true }) else if right then f D.counted else (5, D.counted)
/-- What a restart keeps of a file. -/
def cuts (D : PD) (p : Nat) (tail : Int) : PD :=
  let f := D.fs p
  let n := f.sure + min (max tail 0).toNat (f.b.length - f.sure)
  if n < f.b.length then (D.tick).setF p ⟨f.b.take n, n, D.clock⟩ else D.setF p ⟨f.b, f.b.length, f.time⟩
def tailOf (tails : List Int) (i : Nat) : Int := if tails = [] then 0 else tails.getD (i % tails.length) 0
def cutsAll (tails : List Int) : Nat → List (Bs × Nat) → PD → PD
  | _, [], D => D
  | i, x :: r, D => cutsAll tails (i + 1) r (D.cuts x.2 (tailOf tails i))
def back (D : PD) (dir : Int) : Dir := (List.take (min (max dir 0).toNat D.pend.length) D.pend).foldl (fun l c => c.does l) D.sure
def restart (D : PD) (dir : Int) (tails : List Int) : PD :=
  let D1 := { D with files := D.back dir }
  let D2 := cutsAll tails 0 D1.files D1
  { D2 with sure := D2.files, pend := [], armed := -1, down := false }
/-- p is a file that a name leads to, or may lead to. -/
def has (D : PD) (p : Nat) : Prop := (∃ x ∈ D.files, x.2 = p) ∨ (∃ x ∈ D.sure, x.2 = p) ∨ ∃ c ∈ D.pend, c.to = some p
/-- The bounds that the machine's whole numbers want. -/
structure Ok (D : PD) : Prop where
  q0 : 0 ≤ D.quota
  q1 : D.quota ≤ 16777216
  c0 : 0 ≤ D.clock
  c1 : D.clock < 1000000000000
  a1 : D.armed < 9223372036854775808
  a0 : -1 ≤ D.armed
  nf : D.files.length ≤ 1000000
  np : D.pend.length ≤ 1000000
  fl : ∀ x ∈ D.files, (D.fs x.2).b.length ≤ 65536
theorem Ok.counted {D : PD} (h : D.Ok) : D.counted.Ok := by
  refine ⟨h.q0, h.q1, h.c0, h.c1, ?_, ?_, h.nf, h.np, h.fl⟩
  · have := h.a1; simp only [PD.counted]; split <;> omega
  · have := h.a0; simp only [PD.counted]; split <;> omega
end PD

open PD
/-- Disk D lies in w as L says. -/
structure DiskAt (w : World) (L : Lay) (D : PD) : Prop where
  hd : w.heap[L.d]? = some (.cells #[.int .i64 D.quota, .int .i64 D.clock, .int .i64 D.deeds, .int .i64 D.armed, .bool D.down, .map (some L.mf), .map (some L.s6), L.pv] 68 (0, 0))
  hf : MapP Tryd.prog 9 w L.mf D.files
  hs : MapP Tryd.prog 9 w L.ms D.sure
  ne : L.mf ≠ L.ms
  h6 : L.mid = false → L.s6 = L.ms
  hp : Row w 93 3 L.pv D.pend.length (D.pend.flatMap Chg.cells)
  rd : L.role L.d = 1
  rp : ∀ b, L.pv.ownBlock = some b → L.role b = 2
  rf : L.role L.mf = 4
  rs : L.role L.ms = 5
  file : ∀ p, L.role p = 3 → w.heap[p]? = some (.cells #[L.vs p, .int .i64 (D.fs p).sure, .int .i64 (D.fs p).time] 84 (0, 0)) ∧ Bown w 5 (L.vs p) (D.fs p).b ∧
    ∀ q, (L.vs p).ownBlock = some q → L.role q = 6 + p
  okf : ∀ x ∈ D.files, L.role x.2 = 3
  oks : ∀ x ∈ D.sure, L.role x.2 = 3
  okp : ∀ c ∈ D.pend, (∀ p, c.to = some p → L.role p = 3) ∧ c.name.size ≤ 1000000 ∧ c.gone.size ≤ 1000000 ∧ (isE c.name = false → c.to.isSome)
  okb : ∀ p, L.role p = 3 → (D.fs p).b.length ≤ 65536 ∧ (D.fs p).sure ≤ (D.fs p).b.length ∧ 0 ≤ (D.fs p).time ∧ (D.fs p).time < D.clock
  top : ∀ b, w.heap.size ≤ b → L.role b = 0

namespace DiskAt
variable {w w' : World} {L : Lay} {D : PD}
theorem keep (h : DiskAt w L D) (hz : w.heap.size ≤ w'.heap.size) (hk : ∀ b, b < w.heap.size → L.role b ≠ 0 → w'.heap[b]? = w.heap[b]?) : DiskAt w' L D where
  hd := (hk _ (lt_of_heap h.hd) (by rw [h.rd]; decide)).trans h.hd
  hf := h.hf.keep (hk _ h.hf.lt (by rw [h.rf]; decide))
  hs := h.hs.keep (hk _ h.hs.lt (by rw [h.rs]; decide))
  ne := h.ne
  h6 := h.h6
  hp := h.hp.keep (fun b hb => hk b (h.hp.lt b hb) (by rw [h.rp b hb]; decide))
  rd := h.rd
  rp := h.rp
  rf := h.rf
  rs := h.rs
  file := fun p hp => by
    obtain ⟨h1, h2, h3⟩ := h.file p hp
    refine ⟨(hk _ (lt_of_heap h1) (by rw [hp]; decide)).trans h1, h2.keep (fun b hb => hk b (h2.lt b hb) (by rw [h3 b hb]; omega)), h3⟩
  okf := h.okf
  oks := h.oks
  okp := h.okp
  okb := h.okb
  top := fun b hb => h.top b (by omega)
theorem keeps {S : Nat → Prop} (h : DiskAt w L D) (hk : Keeps S w w') (hS : ∀ b, b < w.heap.size → L.role b ≠ 0 → ¬ S b) : DiskAt w' L D :=
  h.keep hk.size (fun b hb hr => hk.block b hb (hS b hb hr))
theorem below (h : DiskAt w L D) (hk : Below w.heap.size w w') : DiskAt w' L D := h.keep hk.size (fun b hb _ => hk.block b hb)
theorem cell (h : DiskAt w L D) (i : Nat) : w.cell? ⟨L.d, i, none⟩ = (#[.int .i64 D.quota, .int .i64 D.clock, .int .i64 D.deeds, .int .i64 D.armed, .bool D.down, .map (some L.mf), .map (some L.s6), L.pv] : Array Value)[i]? := cell_at h.hd
theorem free (h : DiskAt w L D) (i : Nat) : w.frozen? ⟨L.d, i, none⟩ = false := frozen_at h.hd
/-- The struct's own block is turned, to the disk D' whose directories, files and pending changes are what they were. -/
theorem turn (h : DiskAt w L D) {D' : PD} (hz : w.heap.size ≤ w'.heap.size) (hk : ∀ b, b < w.heap.size → L.role b ≠ 0 → b ≠ L.d → w'.heap[b]? = w.heap[b]?)
    (hd : w'.heap[L.d]? = some (.cells #[.int .i64 D'.quota, .int .i64 D'.clock, .int .i64 D'.deeds, .int .i64 D'.armed, .bool D'.down, .map (some L.mf), .map (some L.s6), L.pv] 68 (0, 0)))
    (e1 : D'.files = D.files) (e2 : D'.sure = D.sure) (e3 : D'.pend = D.pend) (e4 : D'.fs = D.fs) (e5 : D.clock ≤ D'.clock) : DiskAt w' L D' where
  hd := hd
  hf := by rw [e1]; exact h.hf.keep (hk _ h.hf.lt (by rw [h.rf]; decide) (h.hf.no_cells h.hd))
  hs := by rw [e2]; exact h.hs.keep (hk _ h.hs.lt (by rw [h.rs]; decide) (h.hs.no_cells h.hd))
  ne := h.ne
  h6 := h.h6
  hp := by
    rw [e3]
    exact h.hp.keep (fun b hb => hk b (h.hp.lt b hb) (by rw [h.rp b hb]; decide) (fun e => by have := h.rp b hb; rw [e, h.rd] at this; cases this))
  rd := h.rd
  rp := h.rp
  rf := h.rf
  rs := h.rs
  file := fun p hp => by
    rw [e4]
    obtain ⟨h1, h2, h3⟩ := h.file p hp
    refine ⟨(hk _ (lt_of_heap h1) (by rw [hp]; decide) (fun e => by rw [e, h.rd] at hp; cases hp)).trans h1, h2.keep (fun b hb => hk b (h2.lt b hb) (by rw [h3 b hb]; omega) (fun e => ?_)), h3⟩
    have := h3 b hb
    rw [e, h.rd] at this
    omega
  okf := by rw [e1]; exact h.okf
  oks := by rw [e2]; exact h.oks
  okp := by rw [e3]; exact h.okp
  okb := fun p hp => by rw [e4]; have := h.okb p hp; omega
  top := fun b hb => h.top b (by omega)
end DiskAt

/-- The layout with a new file at p, whose bytes are v. -/
def Lay.file (L : Lay) (p : Nat) (v : Value) : Lay := { L with role := fun q => if q = p then 3 else if v.ownBlock = some q then 6 + p else L.role q, vs := upd L.vs p v }
/-- From D, laid as L in w, to D', laid as L' in w': what the disk did not own is as it was. -/
structure Step (w : World) (L : Lay) (w' : World) (L' : Lay) (D' : PD) : Prop where
  at_ : DiskAt w' L' D'
  keeps : Keeps (fun b => L.role b ≠ 0) w w'
  roles : ∀ b, b < w.heap.size → L.role b = 0 → L'.role b = 0
  same : L'.d = L.d
  r3 : ∀ p, L.role p = 3 → L'.role p = 3
  mid : L'.mid = L.mid
theorem Step.trans {w w' w'' : World} {L L' L'' : Lay} {D' D'' : PD} (h : Step w L w' L' D') (k : Step w' L' w'' L'' D'') : Step w L w'' L'' D'' :=
  ⟨k.at_, h.keeps.trans k.keeps (fun b hb hr h0 => hr (h.roles b hb h0)), fun b hb h0 => k.roles b (Nat.lt_of_lt_of_le hb h.keeps.size) (h.roles b hb h0), k.same.trans h.same, fun p hp => k.r3 p (h.r3 p hp), k.mid.trans h.mid⟩

/-- The struct's own block alone was turned. -/
theorem step_turn {w w' : World} {L : Lay} {D D' : PD} (h : DiskAt w L D) (hk : Keeps (fun b => b = L.d) w w')
    (hd : w'.heap[L.d]? = some (.cells #[.int .i64 D'.quota, .int .i64 D'.clock, .int .i64 D'.deeds, .int .i64 D'.armed, .bool D'.down, .map (some L.mf), .map (some L.s6), L.pv] 68 (0, 0)))
    (e1 : D'.files = D.files) (e2 : D'.sure = D.sure) (e3 : D'.pend = D.pend) (e4 : D'.fs = D.fs) (e5 : D.clock ≤ D'.clock) : Step w L w' L D' :=
  ⟨h.turn hk.size (fun b hb _ hne => hk.block b hb hne) hd e1 e2 e3 e4 e5, hk.mono (fun b _ e => by rw [e, h.rd]; decide), fun _ _ h0 => h0, rfl, fun _ hp => hp, rfl⟩
/-- Nothing of the disk was turned. -/
theorem step_keep {w w' : World} {L : Lay} {D : PD} {S : Nat → Prop} (h : DiskAt w L D) (hk : Keeps S w w') (hS : ∀ b, b < w.heap.size → L.role b ≠ 0 → ¬ S b) (hS0 : ∀ b, b < w.heap.size → ¬ S b) : Step w L w' L D :=
  ⟨h.keeps hk hS, hk.mono (fun b hb e => absurd e (hS0 b hb)), fun _ _ h0 => h0, rfl, fun _ hp => hp, rfl⟩
theorem step_below {w w' : World} {L : Lay} {D : PD} (h : DiskAt w L D) (hk : Below w.heap.size w w') : Step w L w' L D :=
  step_keep h (Keeps.of_below hk) (fun _ _ _ h => h) (fun _ _ h => h)
/-- A new file stands at p, and the clock has gone on. -/
theorem file_new {w w' : World} {L : Lay} {D : PD} (h : DiskAt w L D) {p : Nat} {v : Value} {b : Bs} (hk : Keeps (fun b => b = L.d) w w')
    (hd : w'.heap[L.d]? = some (.cells #[.int .i64 D.quota, .int .i64 (D.clock + 1), .int .i64 D.deeds, .int .i64 D.armed, .bool D.down, .map (some L.mf), .map (some L.s6), L.pv] 68 (0, 0)))
    (hp : w'.heap[p]? = some (.cells #[v, .int .i64 0, .int .i64 D.clock] 84 (0, 0))) (hw : w.heap.size ≤ p) (hb : Bown w' 5 v b)
    (hv : ∀ q, v.ownBlock = some q → w.heap.size ≤ q ∧ q ≠ p) (hl : b.length ≤ 65536) (hc : 0 ≤ D.clock) : Step w L w' (L.file p v) (D.tick.setF p ⟨b, 0, D.clock⟩) ∧ (L.file p v).role p = 3 := by
  have hrole : ∀ q, L.role q ≠ 0 → (L.file p v).role q = L.role q := fun q hq => by
    have hlt : q < w.heap.size := Nat.lt_of_not_le fun hle => hq (h.top q hle)
    simp only [Lay.file]
    rw [if_neg (by omega), if_neg (fun e => by have := (hv q e).1; omega)]
  have r3 : ∀ q, L.role q = 3 → (L.file p v).role q = 3 := fun q hq => (hrole q (by rw [hq]; decide)).trans hq
  have hpp : (L.file p v).role p = 3 := by simp [Lay.file]
  have hkp : ∀ q, q < w.heap.size → L.role q ≠ 1 → w'.heap[q]? = w.heap[q]? := fun q hq h1 => hk.block q hq (fun e => h1 (by rw [e]; exact h.rd))
  have h3' : ∀ q, (L.file p v).role q = 3 → q = p ∨ (q ≠ p ∧ L.role q = 3) := fun q hq => by
    simp only [Lay.file] at hq
    split at hq
    · rename_i e; exact Or.inl e
    · rename_i e
      split at hq
      · omega
      · exact Or.inr ⟨e, hq⟩
  have hfs : ∀ q, L.role q = 3 → (D.tick.setF p ⟨b, 0, D.clock⟩).fs q = D.fs q ∧ (L.file p v).vs q = L.vs q := fun q hq => by
    have hlt : q < w.heap.size := Nat.lt_of_not_le fun hle => by have := h.top q hle; omega
    exact ⟨upd_other _ (by omega) _, upd_other _ (by omega) _⟩
  have hat : DiskAt w' (L.file p v) (D.tick.setF p ⟨b, 0, D.clock⟩) := by
    refine { hd := hd, hf := h.hf.keep (hkp _ h.hf.lt (by rw [h.rf]; decide)), hs := h.hs.keep (hkp _ h.hs.lt (by rw [h.rs]; decide)), ne := h.ne, h6 := h.h6, hp := h.hp.keep (fun q hq => hkp q (h.hp.lt q hq) (by rw [h.rp q hq]; decide)), rd := (hrole L.d (by rw [h.rd]; decide)).trans h.rd, rp := fun q hq => (hrole q (by rw [h.rp q hq]; decide)).trans (h.rp q hq), rf := (hrole L.mf (by rw [h.rf]; decide)).trans h.rf, rs := (hrole L.ms (by rw [h.rs]; decide)).trans h.rs, file := fun q hq => ?_, okf := fun x hx => r3 _ (h.okf x hx), oks := fun x hx => r3 _ (h.oks x hx), okp := fun c hc => ⟨fun q hq => r3 q ((h.okp c hc).1 q hq), (h.okp c hc).2⟩, okb := fun q hq => ?_, top := fun q hq => ?_ }
    · rcases h3' q hq with rfl | ⟨hne, hq3⟩
      · have e1 : (D.tick.setF q ⟨b, 0, D.clock⟩).fs q = ⟨b, 0, D.clock⟩ := upd_same _ _ _
        have e2 : (L.file q v).vs q = v := upd_same _ _ _
        rw [e1, e2]
        refine ⟨hp, hb, fun x hx => ?_⟩
        simp only [Lay.file]
        rw [if_neg (hv x hx).2, if_pos hx]
      · obtain ⟨e1, e2⟩ := hfs q hq3
        obtain ⟨f1, f2, f3⟩ := h.file q hq3
        rw [e1, e2]
        exact ⟨(hkp q (lt_of_heap f1) (by rw [hq3]; decide)).trans f1, f2.keep (fun x hx => hkp x (f2.lt x hx) (by rw [f3 x hx]; omega)), fun x hx => (hrole x (by rw [f3 x hx]; omega)).trans (f3 x hx)⟩
    · have ec : (D.tick.setF p ⟨b, 0, D.clock⟩).clock = D.clock + 1 := rfl
      rcases h3' q hq with rfl | ⟨hne, hq3⟩
      · have e1 : (D.tick.setF q ⟨b, 0, D.clock⟩).fs q = ⟨b, 0, D.clock⟩ := upd_same _ _ _
        rw [e1, ec]
        exact ⟨hl, Nat.zero_le _, hc, by show D.clock < D.clock + 1; omega⟩
      · rw [(hfs q hq3).1, ec]
        have := h.okb q hq3
        omega
    · have hz := hk.size
      have hpl := lt_of_heap hp
      simp only [Lay.file]
      rw [if_neg (by omega), if_neg (fun e => by have := hb.lt q e; omega)]
      exact h.top q (by omega)
  refine ⟨⟨hat, hk.mono (fun q _ e => by rw [e, h.rd]; decide), fun q hq h0 => ?_, rfl, r3, rfl⟩, hpp⟩
  simp only [Lay.file]
  rw [if_neg (by omega), if_neg (fun e => by have := (hv q e).1; omega)]
  exact h0
/-- The layout when the bytes of the file at q are v. -/
def Lay.turnF (L : Lay) (q : Nat) (v : Value) : Lay := { L with role := fun x => if v.ownBlock = some x then 6 + q else L.role x, vs := upd L.vs q v }
/-- The file at q is turned (and the clock, it may be). -/
theorem file_set {w w' : World} {L : Lay} {D D' : PD} (h : DiskAt w L D) {q : Nat} (hq : L.role q = 3) {v : Value} {f : PF} (hD' : D' = { D with clock := D'.clock, fs := upd D.fs q f }) (hc : D.clock ≤ D'.clock)
    (hk : Keeps (fun b => b = L.d ∨ b = q ∨ (L.vs q).ownBlock = some b) w w')
    (hd : w'.heap[L.d]? = some (.cells #[.int .i64 D'.quota, .int .i64 D'.clock, .int .i64 D'.deeds, .int .i64 D'.armed, .bool D'.down, .map (some L.mf), .map (some L.s6), L.pv] 68 (0, 0)))
    (hp : w'.heap[q]? = some (.cells #[v, .int .i64 f.sure, .int .i64 f.time] 84 (0, 0))) (hb : Bown w' 5 v f.b)
    (hv : ∀ x, v.ownBlock = some x → (L.vs q).ownBlock = some x ∨ w.heap.size ≤ x) (hl : f.b.length ≤ 65536 ∧ f.sure ≤ f.b.length ∧ 0 ≤ f.time ∧ f.time < D'.clock) : Step w L w' (L.turnF q v) D' := by
  obtain ⟨f1, f2, f3⟩ := h.file q hq
  have hql := lt_of_heap f1
  have hown : ∀ x, v.ownBlock = some x → L.role x = 6 + q ∨ L.role x = 0 := fun x hx => (hv x hx).imp (f3 x) (h.top x)
  have hrole : ∀ x, L.role x ≠ 6 + q → L.role x ≠ 0 → (L.turnF q v).role x = L.role x := fun x h1 h2 => by
    simp only [Lay.turnF]
    split
    · rename_i hx
      rcases hown x hx with h3 | h3
      · exact absurd h3 h1
      · exact absurd h3 h2
    · rfl
  have r3 : ∀ p, L.role p = 3 → (L.turnF q v).role p = 3 := fun p hp3 => (hrole p (by rw [hp3]; omega) (by rw [hp3]; decide)).trans hp3
  have r3' : ∀ p, (L.turnF q v).role p = 3 → L.role p = 3 := fun p hp3 => by
    simp only [Lay.turnF] at hp3
    split at hp3
    · omega
    · exact hp3
  have hkp : ∀ b, b < w.heap.size → L.role b ≠ 1 → b ≠ q → L.role b ≠ 6 + q → w'.heap[b]? = w.heap[b]? := fun b hb h1 h2 h6 => hk.block b hb (by
    rintro (rfl | rfl | hx)
    · exact h1 h.rd
    · exact h2 rfl
    · exact h6 (f3 b hx))
  have e1 : D'.files = D.files := by rw [hD']
  have e2 : D'.sure = D.sure := by rw [hD']
  have e3 : D'.pend = D.pend := by rw [hD']
  have e4 : D'.fs = upd D.fs q f := by rw [hD']
  have hat : DiskAt w' (L.turnF q v) D' := by
    refine { hd := hd, hf := by rw [e1]; exact h.hf.keep (hkp _ h.hf.lt (by rw [h.rf]; decide) (fun e => by rw [← e, h.rf] at hq; cases hq) (by rw [h.rf]; omega)), hs := by rw [e2]; exact h.hs.keep (hkp _ h.hs.lt (by rw [h.rs]; decide) (fun e => by rw [← e, h.rs] at hq; cases hq) (by rw [h.rs]; omega)), ne := h.ne, h6 := h.h6, hp := by rw [e3]; exact h.hp.keep (fun x hx => hkp x (h.hp.lt x hx) (by rw [h.rp x hx]; decide) (fun e => by have := h.rp x hx; rw [e, hq] at this; cases this) (by rw [h.rp x hx]; omega)), rd := (hrole L.d (by rw [h.rd]; omega) (by rw [h.rd]; decide)).trans h.rd, rp := fun x hx => (hrole x (by rw [h.rp x hx]; omega) (by rw [h.rp x hx]; decide)).trans (h.rp x hx), rf := (hrole L.mf (by rw [h.rf]; omega) (by rw [h.rf]; decide)).trans h.rf, rs := (hrole L.ms (by rw [h.rs]; omega) (by rw [h.rs]; decide)).trans h.rs, file := fun p hp3 => ?_, okf := fun x hx => r3 _ (h.okf x (by rwa [e1] at hx)), oks := fun x hx => r3 _ (h.oks x (by rwa [e2] at hx)), okp := fun c hcm => ?_, okb := fun p hp3 => ?_, top := fun x hx => ?_ }
    · have hp3' := r3' p hp3
      by_cases hpq : p = q
      · subst hpq
        have e5 : (L.turnF p v).vs p = v := upd_same _ _ _
        rw [e4, upd_same, e5]
        refine ⟨hp, hb, fun x hx => ?_⟩
        simp only [Lay.turnF]
        rw [if_pos hx]
      · have e5 : (L.turnF q v).vs p = L.vs p := upd_other _ hpq _
        rw [e4, upd_other _ hpq, e5]
        obtain ⟨g1, g2, g3⟩ := h.file p hp3'
        refine ⟨(hkp p (lt_of_heap g1) (by rw [hp3']; decide) hpq (by rw [hp3']; omega)).trans g1, g2.keep (fun x hx => hkp x (g2.lt x hx) (by rw [g3 x hx]; omega) (fun e => by have := g3 x hx; rw [e, hq] at this; omega) (by rw [g3 x hx]; omega)), fun x hx => ?_⟩
        exact (hrole x (by rw [g3 x hx]; omega) (by rw [g3 x hx]; omega)).trans (g3 x hx)
    · rw [e3] at hcm
      exact ⟨fun p hpp => r3 p ((h.okp c hcm).1 p hpp), (h.okp c hcm).2⟩
    · have hp3' := r3' p hp3
      by_cases hpq : p = q
      · subst hpq
        rw [e4, upd_same]
        exact hl
      · rw [e4, upd_other _ hpq]
        have := h.okb p hp3'
        omega
    · have hz := hk.size
      simp only [Lay.turnF]
      rw [if_neg (fun e => by have := hb.lt x e; omega)]
      exact h.top x (by omega)
  refine ⟨hat, hk.mono fun b hb => ?_, fun b hb h0 => ?_, rfl, r3, rfl⟩
  · rintro (rfl | rfl | hx)
    · rw [h.rd]; decide
    · rw [hq]; decide
    · rw [f3 b hx]; omega
  · simp only [Lay.turnF]
    split
    · rename_i hx
      rcases hv b hx with h3 | h3
      · have := f3 b h3; omega
      · omega
    · exact h0
end Go.Proofs.YtbckbkcpfejllaaDoor
