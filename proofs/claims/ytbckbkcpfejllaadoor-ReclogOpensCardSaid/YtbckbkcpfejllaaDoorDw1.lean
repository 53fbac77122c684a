/- The walks of Used, fits, look: they read a disk. -/
import Derived.Test.YtbckbkcpfejllaaDoorDm
import Derived.WalkKit
import Derived.WalkLawsBesides
import Derived.WalkSpells
import Derived.Maps.RangeWalk
import Derived.Deep.QuietTactic
import Derived.BigQuiet
import Derived.Lib.Hide
namespace Go.Proofs.YtbckbkcpfejllaaDoor
open Go.RowKit Go.Maps Go.WideMaps

theorem zero_ptr (w : World) : (zeroValue 80).run Tryd.prog w = .ok (.pointer none) w := by kernel_rfl
theorem str_law : Keyed Tryd.prog 9 := string_keyed Tryd.underlying9

/-- How many bytes the files have that are still to come. -/
def sumLeft (D : PD) (left : Lit → Bool) : Int := (List.map (fun x : Bs × Nat => if left (.string x.1) then D.len x.2 else 0) D.files).sum

theorem sumLeft_start (D : PD) : sumLeft D (Maps.has (Dir.data D.files)) = D.used := by
  unfold sumLeft PD.used
  congr 1
  refine List.map_congr_left fun x hx => ?_
  rw [if_pos]
  simp only [Maps.has_eq, Dir.data, List.any_map, List.any_eq_true]
  exact ⟨x, hx, by simp [Dir.ent, Lit.sameKey]⟩
theorem sumLeft_end (D : PD) (left : Lit → Bool) (h : ∀ kl, left kl = false) : sumLeft D left = 0 := by
  unfold sumLeft
  have e : (List.map (fun x : Bs × Nat => if left (.string x.1) then D.len x.2 else 0) D.files) = List.map (fun _ => 0) D.files := List.map_congr_left fun x _ => by rw [h]; simp
  rw [e]
  induction D.files with
  | nil => rfl
  | cons x r ih => simpa using ih
theorem find_mem {l : Dir} {n : Bs} {p : Nat} (h : Dir.find l n = some p) : (n, p) ∈ l := by
  unfold Dir.find at h
  cases h1 : List.find? (fun x => x.1 == n) l with
  | none => rw [h1] at h; cases h
  | some x =>
    rw [h1] at h
    have h2 := List.find?_some h1
    have h3 := List.mem_of_find?_eq_some h1
    cases h
    have : x.1 = n := by simpa using h2
    rw [← this]; exact h3
/-- Names are apart in what a map holds. -/
def Apart (l : Dir) : Prop := l.Pairwise (fun x y => x.1 ≠ y.1)
theorem MapP.apart {w : World} {b : Nat} {l : Dir} (h : MapP Tryd.prog 9 w b l) : Apart l := by
  obtain ⟨es, he, hp, _⟩ := World.ownsMap.entries h str_law
  have e : es = List.map Dir.ent l := by injection he.symm
  subst e
  rw [List.pairwise_map] at hp
  exact hp.imp (fun {x y} hne e => hne (by simp [Dir.ent, e]))
theorem sumLeft_step {D : PD} (ha : Apart D.files) {left : Lit → Bool} {n : Bs} {p : Nat} (hf : Dir.find D.files n = some p) (hl : left (.string n) = true) :
    sumLeft D left = D.len p + sumLeft D (fun z => left z && !z.sameKey (.string n)) := by
  have key : ∀ (l : Dir), Apart l → Dir.find l n = some p →
      (List.map (fun x : Bs × Nat => if left (.string x.1) then D.len x.2 else 0) l).sum = D.len p + (List.map (fun x : Bs × Nat => if (left (.string x.1) && !(Lit.string x.1).sameKey (.string n)) then D.len x.2 else 0) l).sum := by
    intro l
    induction l with
    | nil => intro _ h; cases h
    | cons x r ih =>
      intro ha h
      obtain ⟨h1, h2⟩ := List.pairwise_cons.1 ha
      by_cases hx : x.1 = n
      · have hp : x.2 = p := by simpa [Dir.find, hx] using h
        have hr : List.map (fun x : Bs × Nat => if (left (.string x.1) && !(Lit.string x.1).sameKey (.string n)) then D.len x.2 else 0) r = List.map (fun x : Bs × Nat => if left (.string x.1) then D.len x.2 else 0) r := by
          refine List.map_congr_left fun y hy => ?_
          have : y.1 ≠ n := fun e => h1 y hy (hx.trans e.symm)
          simp [Lit.sameKey, this]
        simp only [List.map_cons, List.sum_cons, hr]
        simp [Lit.sameKey, hx, hl, hp]
      · have h' : Dir.find r n = some p := by simpa [Dir.find, List.find?_cons, hx] using h
        have := ih h2 h'
        have hs : (Lit.string x.1).sameKey (.string n) = false := by simp [Lit.sameKey, hx]
        simp only [List.map_cons, List.sum_cons, this, hs]
        simp
        omega
  exact key D.files ha hf
theorem len_nonneg (D : PD) (p : Nat) : 0 ≤ D.len p := by unfold PD.len; omega
theorem sumLeft_bd {D : PD} (hD : D.Ok) (left : Lit → Bool) : 0 ≤ sumLeft D left ∧ sumLeft D left ≤ 65536 * D.files.length := by
  unfold sumLeft
  have h := hD.fl
  clear hD
  generalize D.files = l at h
  induction l with
  | nil => simp
  | cons x r ih =>
    have ih' := ih (fun y hy => h y (by simp [hy]))
    have hx := h x (by simp)
    have h0 := len_nonneg D x.2
    have h1 : D.len x.2 ≤ 65536 := by unfold PD.len; omega
    simp only [List.map_cons, List.sum_cons, List.length_cons]
    split <;> omega

set_option maxRecDepth 100000 in
set_option maxHeartbeats 400000 in
theorem used_at {w : World} {L : Lay} {D : PD} (h : DiskAt w L D) (hD : D.Ok) :
    Calls Tryd.prog 74 #[.pointer (some ⟨L.d, 0, none⟩)] w fun e w' => e = .returned (.int .i64 D.used) ∧ Below w.heap.size w w' := by
  have hown := h.hf
  have c5 := h.cell 5
  have hap := h.hf.apart
  have hlen : ∀ n p, (n, p) ∈ D.files → ∃ v, w.cell? ⟨p, 0, none⟩ = some v ∧ ∃ a cap, v = .slice a (D.fs p).b.length cap := fun n p hx => by
    obtain ⟨h1, h2, _⟩ := h.file p (h.okf _ hx)
    exact ⟨_, by rw [cell_at h1]; rfl, h2.slv⟩
  have Hlen := Lib.hid hlen
  have Hap := Lib.hid hap
  have HD := Lib.hid hD
  have hu := (sumLeft_bd hD (Maps.has (Dir.data D.files)))
  rw [sumLeft_start] at hu
  have hnf := hD.nf
  clear h hlen hap hD
  generalize hF : D.files.length = F at *
  clear hF
  go_enter Tryd.func74, Tryd.ntmps74
  unfold MapP at hown
  go_wp2_with (first
    | (at_range; refine wpList_range_own _ rfl _ 65 rfl 9 80 str_law Tryd.underlying65 _ L.mf _ _ rfl hown ?_; intro w0 hrg0 hg0 hs0)
    | go_in)
  go_frame
  go_loopw [3] (fun n wr => ∃ (left : Lit → Bool) (cnt : Nat), wr.ranges Tryd.prog 9 ptrElem L.mf w.heap.size D.files.length (Dir.data D.files) left cnt ∧ Below w.heap.size w wr ∧ n = .int .i64 (D.used - sumLeft D left))
    (fun _ wr => wr.rangeLeft L.mf w.heap.size)
  case atStart => exact ⟨_, _, hrg0, (Below.refl _ _).grown hg0 (Nat.le_refl _) (fun k hk => by cases hk), by rw [sumLeft_start]; simp⟩
  case round =>
    obtain ⟨left, cnt, hrg, hbl, rfl⟩ := hrel
    have hu2 := sumLeft_bd HD.out left
    go_wp2_with (first
      | (at_next; refine wpList_next_ranges _ rfl _ rfl 9 str_law ptrElem encStr ptrV (fun key kl hk => by obtain ⟨x, hx, _⟩ := Maps.keyOf_str Tryd.underlying9 hk; exact ⟨x, hx⟩) (fun v y hv => by rcases ptrElem_inv hv with ⟨q, hv, _⟩ | ⟨hv, _⟩ <;> exact ⟨_, hv⟩) L.mf w.heap.size _ _ _ _ rfl hrg ?_ ?_)
      | go_in)
    · intro _ hl0
      have e0 := sumLeft_end D left hl0
      go_wp2
      go_ret
      exact ⟨by rw [e0]; simp, hbl⟩
    · intro x c kl yd yp w2 cnt2 hkey hlk hv hat hrg2 hlt hg2 hs2 hen
      obtain ⟨x', ex, rfl, hxl⟩ := Maps.keyOf_str Tryd.underlying9 hkey
      obtain rfl : x = x' := encStr_inj ex
      obtain ⟨p, hfind, rfl⟩ : ∃ p, Dir.find D.files x = some p ∧ c = some p := by
        have h1 := hat (.lit (.bool true))
        have h2 := hat (.lit (.bool false))
        rw [Dir.data_at] at h1 h2
        cases hf : Dir.find D.files x with
        | none => rw [hf] at h1 h2; rw [← h2] at h1; cases h1
        | some p =>
          rw [hf] at h1
          refine ⟨p, rfl, ?_⟩
          rcases ptrElem_inv hv with ⟨q, hq, hy⟩ | ⟨hq, hy⟩
          · cases hy
            have hpq : (p : Int) = (q : Int) := by injection h1 with h1; injection h1
            have : p = q := by omega
            subst this
            cases c <;> simp [ptrV] at hq ⊢
            exact hq
          · cases hy; cases h1
      have hst := sumLeft_step Hap.out hfind hlk
      obtain ⟨v, hvc, a, cap, rfl⟩ := Hlen.out _ _ (find_mem hfind)
      have hpl := World.block_lt_of_cell? w _ hvc
      have hbl2 := hbl.grown hg2 hbl.size (fun k hk => by cases hk; exact Nat.le_refl _)
      have hvc2 := (hbl2.cell (p := ⟨p, 0, none⟩) hpl).trans hvc
      have hl0 := len_nonneg D p
      have hl1 : D.len p ≤ 65536 := by have h1 : (D.fs p).b.length ≤ 65536 := HD.out.fl _ (find_mem hfind); unfold PD.len; omega
      have Hl : Hid (((D.fs p).b.length : Int) = D.len p) := Lib.hid rfl
      have Hst := Lib.hid hst
      have hnf2 := HD.out.nf
      have hb1 : 0 ≤ D.used - sumLeft D left + 65536000000 := by omega
      have hb2 : D.used - sumLeft D left ≤ 65536000000 := by omega
      have hq : ((D.fs p).b.length : Int) ≤ 65536 := by rw [Hl.out]; exact hl1
      clear hat hv hkey hs2 hst hvc hpl
      go_wp2
      go_roundw
      case rel => exact ⟨_, cnt2, hrg2, hbl2, by rw [Hl.out]; congr 1; have := Hst.out; omega⟩
      case measure => rw [hrg2.left_eq, hrg.left_eq]; exact hlt
end Go.Proofs.YtbckbkcpfejllaaDoor
