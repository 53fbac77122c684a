/- The disk's chapter: rows of acts, as they lie; the walks of light and deed. -/
import Derived.Test.YtbckbkcpfejllaaGreatDoorLa1
import Derived.Test.YtbckbkcpfejllaaGreatDoorAo
namespace Go.Proofs.YtbckbkcpfejllaaGreatDoor
open Go.RowKit Go.Maps Go.WideMaps

/-- An act, plainly. -/
structure PAct where
  what : Int
  n : Int
  name : ByteArray
  to : ByteArray
  b : Bs
  tails : List Int
def isI64 (n : Int) : Prop := -9223372036854775808 ≤ n ∧ n ≤ 9223372036854775807
structure PAct.Ok (x : PAct) : Prop where
  what : isI64 x.what
  n : isI64 x.n
  tails : ∀ t ∈ x.tails, isI64 t
structure ActAt (w : World) (b o : Nat) (bv tv : Value) (x : PAct) : Prop where
  c0 : w.cell? ⟨b, o, none⟩ = some (.int .i64 x.what)
  c1 : w.cell? ⟨b, o + 1, none⟩ = some (.int .i64 x.n)
  c2 : w.cell? ⟨b, o + 2, none⟩ = some (.string x.name)
  c3 : w.cell? ⟨b, o + 3, none⟩ = some (.string x.to)
  c4 : w.cell? ⟨b, o + 4, none⟩ = some bv
  c5 : w.cell? ⟨b, o + 5, none⟩ = some tv
  bin : Bin w bv x.b
  lst : Lst w tv (x.tails.map intV)
  ok : x.Ok
def Acts (w : World) (v : Value) (l : List PAct) : Prop :=
  ∃ a cap, v = .slice a l.length cap ∧ l.length ≤ cap ∧ ∀ j (h : j < l.length), ∃ b o bv tv, a = some ⟨b, o, none⟩ ∧ ActAt w b (o + j * 6) bv tv l[j]
theorem ActAt.below {w w' : World} {N b o : Nat} {bv tv : Value} {x : PAct} (h : ActAt w b o bv tv x) (hb : Below N w w') (hN : w.heap.size ≤ N) : ActAt w' b o bv tv x := by
  have hc : ∀ {p : Addr} {v : Value}, w.cell? p = some v → w'.cell? p = some v := fun {p v} hp => (hb.cell (p := p) (Nat.lt_of_lt_of_le (World.block_lt_of_cell? w _ hp) hN)).trans hp
  exact ⟨hc h.c0, hc h.c1, hc h.c2, hc h.c3, hc h.c4, hc h.c5, h.bin.keep fun q _ hq => hb.block q (Nat.lt_of_lt_of_le hq hN), h.lst.keep fun q _ hq => hb.block q (Nat.lt_of_lt_of_le hq hN), h.ok⟩
theorem Acts.below {w w' : World} {N : Nat} {v : Value} {l : List PAct} (h : Acts w v l) (hb : Below N w w') (hN : w.heap.size ≤ N) : Acts w' v l := by
  obtain ⟨a, cap, hv, hc, h⟩ := h
  refine ⟨a, cap, hv, hc, fun j hj => ?_⟩
  obtain ⟨b, o, bv, tv, ha, hx⟩ := h j hj
  exact ⟨b, o, bv, tv, ha, hx.below hb hN⟩
/-- Is an act short? -/
def PAct.light (x : PAct) : Prop := x.name.size ≤ 120 ∧ x.to.size ≤ 120 ∧ x.b.length ≤ 17000 ∧ x.tails.length ≤ 20

set_option maxRecDepth 100000 in
set_option maxHeartbeats 1000000 in
theorem light_at (w : World) {v : Value} {l : List PAct} (h : Acts w v l) : Calls Tryz.prog 16 #[v] w fun e w' => (e = .returned (.bool false) ∨ (e = .returned (.bool true) ∧ l.length ≤ 80 ∧ ∀ x ∈ l, x.light)) ∧ w = w' := by
  obtain ⟨a, cap, rfl, hcap, hj⟩ := h
  obtain ⟨n, hn⟩ : ∃ n, l.length = n := ⟨_, rfl⟩
  rw [hn] at hcap ⊢
  have Hn := Lib.hid hn
  have Hj := Lib.hid hj
  clear hn hj
  by_cases h80 : 80 < n
  · have h81 : decide ((80 : Int) < (n : Int)) = true := by simp; omega
    go_enter Tryz.func16, Tryz.ntmps16
    go_wp2_with fail
    go_ret
    exact ⟨Or.inl rfl, rfl⟩
  · have h81 : decide ((80 : Int) < (n : Int)) = false := by simp; omega
    go_enter Tryz.func16, Tryz.ntmps16
    go_wp2_with fail
    go_loopw [3] (fun i wr => ∃ j : Nat, j ≤ n ∧ i = .int .i64 j ∧ (∀ x ∈ l.take j, x.light) ∧ w = wr) (fun i _ => n - (intOf i).toNat)
    case atStart => exact ⟨0, Nat.zero_le _, rfl, (fun x hx => by simp at hx), rfl⟩
    case round =>
      obtain ⟨j, hjn, rfl, hall, rfl⟩ := hrel
      by_cases hlt : j < n
      · have hjl : j < l.length := by rw [Hn.out]; exact hlt
        obtain ⟨b, o, bv, tv, rfl, hx⟩ := Hj.out j hjl
        obtain ⟨x, hxe⟩ : ∃ x, l[j] = x := ⟨_, rfl⟩
        rw [hxe] at hx
        have Hxe := Lib.hid hxe
        clear hxe
        obtain ⟨_, _, c2, c3, c4, c5, ⟨ba, bc, hbv, _⟩, ⟨ta, tc, htv, _⟩, _⟩ := hx
        rw [List.length_map] at htv
        subst hbv htv
        by_cases g0 : 120 < x.name.size
        · have d1 : decide ((120 : Int) < (x.name.size : Int)) = true := by simp; omega
          go_wp2_with fail
          go_ret
          exact ⟨Or.inl rfl, rfl⟩
        have d1 : decide ((120 : Int) < (x.name.size : Int)) = false := by simp; omega
        by_cases g1 : 120 < x.to.size
        · have d2 : decide ((120 : Int) < (x.to.size : Int)) = true := by simp; omega
          go_wp2_with fail
          go_ret
          exact ⟨Or.inl rfl, rfl⟩
        have d2 : decide ((120 : Int) < (x.to.size : Int)) = false := by simp; omega
        by_cases g2 : 17000 < x.b.length
        · have d3 : decide ((17000 : Int) < (x.b.length : Int)) = true := by simp; omega
          go_wp2_with fail
          go_ret
          exact ⟨Or.inl rfl, rfl⟩
        have d3 : decide ((17000 : Int) < (x.b.length : Int)) = false := by simp; omega
        by_cases g3 : 20 < x.tails.length
        · have d4 : decide ((20 : Int) < (x.tails.length : Int)) = true := by simp; omega
          go_wp2_with fail
          go_ret
          exact ⟨Or.inl rfl, rfl⟩
        have d4 : decide ((20 : Int) < (x.tails.length : Int)) = false := by simp; omega
        go_wp2_with fail
        go_roundw
        case rel =>
          refine ⟨j + 1, by omega, by go_num, fun y hy => ?_, trivial⟩
          rw [List.take_succ_eq_append_getElem hjl, List.mem_append, List.mem_singleton] at hy
          rcases hy with hy | rfl
          · exact hall y hy
          · rw [Hxe.out]; exact ⟨by omega, by omega, by omega, by omega⟩
        case measure => simp [intOf]; omega
      · go_wp2_with fail
        go_ret
        exact ⟨Or.inr ⟨rfl, by omega, by rw [List.take_of_length_le (by rw [Hn.out]; omega)] at hall; exact hall⟩, rfl⟩

theorem Told.of_alloc {F : Nat → Prop} {d k : Nat} {w : World} {o : Obj} {R : Int → PD → Prop} {e : Ending} {w' : World} (h : Told (fun b => F b ∨ b = w.heap.size) d (w.alloc o) k R e w') : Told F d w k R e w' := by
  obtain ⟨c, D', he, hR, hh, hk⟩ := h
  exact ⟨c, D', he, hR, hh.less (fun b hb => Or.inl hb), ((Keeps.refl (fun b => ¬ F b) w).alloc o).trans hk (fun b _ hn hF => hn (Or.inl hF))⟩
set_option maxRecDepth 100000 in
set_option maxHeartbeats 1000000 in
/-- A deed, whatever it comes to. -/
theorem lawdeed_at {N : Bs → Prop} {F : Nat → Prop} {d k : Nat} {w : World} {D : PD} (h : Has F d w D k) (hk : k + 2 ≤ 100000) (c : Nat) (hc : c ≤ 6) {m : Int} {name to : ByteArray} {bv tv : Value} {b : Bs} (hm : isI64 m) (hn : N (bs name)) (ht : N (bs to)) (hs : name.size ≤ 120) (hto : to.size ≤ 120) (hb : Bin w bv b) (hl : b.length ≤ 17000) (hF : ∀ q, q < w.heap.size → b ≠ [] → bv.ownBlock = some q → F q) (wh : Int) :
    Calls Tryz.prog 24 #[.pointer (some ⟨d, 0, none⟩), .int .i64 c, .agg #[.int .i64 wh, .int .i64 m, .string name, .string to, bv, tv]] w (Told F d w k fun _ D' => Turns N 2 D D') := by
  have H := Lib.hid h
  have hb0 : Bin (w.alloc (.cells #[.int .i64 wh, .int .i64 m, .string name, .string to, bv, tv] 40)) bv b := hb.alloc _
  have hF0 : b ≠ [] → ∀ q, bv.ownBlock = some q → F q ∨ q = w.heap.size := fun hne q hq => Or.inl (hF q (hb.lt hne q hq) hne hq)
  have Hb := Lib.hid hb0
  have HF := Lib.hid hF0
  have hx : (w.alloc (.cells #[.int .i64 wh, .int .i64 m, .string name, .string to, bv, tv] 40)).heap[w.heap.size]? = some (.cells #[.int .i64 wh, .int .i64 m, .string name, .string to, bv, tv] 40 (0, 0)) := heap_alloc_new w _
  have z1 := cell_at (o := 1) hx
  have z2 := cell_at (o := 2) hx
  have z3 := cell_at (o := 3) hx
  have z4 := cell_at (o := 4) hx
  simp only [List.getElem?_toArray, List.getElem?_cons_zero, List.getElem?_cons_succ] at z1 z2 z3 z4
  clear h hb hF hb0 hF0 hx
  obtain rfl | rfl | rfl | rfl | rfl | rfl | rfl : c = 0 ∨ c = 1 ∨ c = 2 ∨ c = 3 ∨ c = 4 ∨ c = 5 ∨ c = 6 := by omega
  · go_enter Tryz.func24, Tryz.ntmps24
    go_wp2_with fail
    refine (told_write (H.out.alloc _) (by omega) name (by omega) Hb.out (by omega) HF.out (R := fun _ D' => Turns N 2 D D') (fun p hp => turns_deed (turns_fresh hn (show ¬ D.counted.has p from hp) (by omega)) _)).mono ?_
    intro e w1 ht1
    obtain ⟨r, D', rfl, hR, hh, hkk⟩ := ht1.of_alloc
    have HR := Lib.hid (And.intro hR (And.intro hh hkk))
    clear ht1 hR hh hkk
    go_wp2_with fail
    go_ret
    exact ⟨r, D', rfl, HR.out⟩
  · go_enter Tryz.func24, Tryz.ntmps24
    go_wp2_with fail
    refine (told_append (H.out.alloc _) (by omega) name (by omega) Hb.out (by omega) HF.out (R := fun _ D' => Turns N 2 D D') (fun p hp => turns_deed (turns_append hn (show ¬ D.counted.has p from hp) (by omega)) _)).mono ?_
    intro e w1 ht1
    obtain ⟨r, D', rfl, hR, hh, hkk⟩ := ht1.of_alloc
    have HR := Lib.hid (And.intro hR (And.intro hh hkk))
    clear ht1 hR hh hkk
    go_wp2_with fail
    go_ret
    exact ⟨r, D', rfl, HR.out⟩
  · go_enter Tryz.func24, Tryz.ntmps24
    go_wp2_with fail
    refine (told_cut (H.out.alloc _) (by omega) name (by omega) m hm.1 hm.2 (R := fun _ D' => Turns N 2 D D') (turns_deed (turns_cut hn) _)).mono ?_
    intro e w1 ht1
    obtain ⟨r, D', rfl, hR, hh, hkk⟩ := ht1.of_alloc
    have HR := Lib.hid (And.intro hR (And.intro hh hkk))
    clear ht1 hR hh hkk
    go_wp2_with fail
    go_ret
    exact ⟨r, D', rfl, HR.out⟩
  · go_enter Tryz.func24, Tryz.ntmps24
    go_wp2_with fail
    refine (told_rename (H.out.alloc _) (by omega) name to (by omega) (by omega) (R := fun _ D' => Turns N 2 D D') (turns_deed (turns_rename hn ht) _)).mono ?_
    intro e w1 ht1
    obtain ⟨r, D', rfl, hR, hh, hkk⟩ := ht1.of_alloc
    have HR := Lib.hid (And.intro hR (And.intro hh hkk))
    clear ht1 hR hh hkk
    go_wp2_with fail
    go_ret
    exact ⟨r, D', rfl, HR.out⟩
  · go_enter Tryz.func24, Tryz.ntmps24
    go_wp2_with fail
    refine (told_remove (H.out.alloc _) (by omega) name (by omega) (R := fun _ D' => Turns N 2 D D') (turns_deed (turns_remove hn) _)).mono ?_
    intro e w1 ht1
    obtain ⟨r, D', rfl, hR, hh, hkk⟩ := ht1.of_alloc
    have HR := Lib.hid (And.intro hR (And.intro hh hkk))
    clear ht1 hR hh hkk
    go_wp2_with fail
    go_ret
    exact ⟨r, D', rfl, HR.out⟩
  · go_enter Tryz.func24, Tryz.ntmps24
    go_wp2_with fail
    refine (told_sync (H.out.alloc _) (by omega) name (by omega) (R := fun _ D' => Turns N 2 D D') (turns_deed (turns_sync hn) _)).mono ?_
    intro e w1 ht1
    obtain ⟨r, D', rfl, hR, hh, hkk⟩ := ht1.of_alloc
    have HR := Lib.hid (And.intro hR (And.intro hh hkk))
    clear ht1 hR hh hkk
    go_wp2_with fail
    go_ret
    exact ⟨r, D', rfl, HR.out⟩
  · go_enter Tryz.func24, Tryz.ntmps24
    go_wp2_with fail
    refine (told_syncDir (H.out.alloc _) (by omega) (R := fun _ D' => Turns N 2 D D') (turns_deed turns_syncDir _)).mono ?_
    intro e w1 ht1
    obtain ⟨r, D', rfl, hR, hh, hkk⟩ := ht1.of_alloc
    have HR := Lib.hid (And.intro hR (And.intro hh hkk))
    clear ht1 hR hh hkk
    go_wp2_with fail
    go_ret
    exact ⟨r, D', rfl, HR.out⟩
end Go.Proofs.YtbckbkcpfejllaaGreatDoor
